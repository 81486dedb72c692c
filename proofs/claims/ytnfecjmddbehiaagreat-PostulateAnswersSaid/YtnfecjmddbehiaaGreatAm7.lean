/- What functions of the program compute: lemmas. -/
import Derived.Test.YtnfecjmddbehiaaGreatAm6
set_option linter.unusedSimpArgs false
set_option linter.unusedVariables false
set_option linter.unusedSectionVars false
namespace Am
open Go
def ivD (x:BitVec 64):D:=.int .i64 (x.toNat:Int)
def Sml (x:BitVec 64):Prop:=x.toNat<9223372036854775808
theorem qpl (x:BitVec 64):BitVec.ofInt 64 (x.toNat:Int)=x:=qne x
theorem qxsb {x:BitVec 64} (h:Sml x):IntKind.i64.wrap (x.toNat:Int)=(x.toNat:Int):=wr (by omega) (by unfold Sml at h;omega)
theorem qefb {x y:BitVec 64} (h:Sml x):Sml (x&&&y):=by
 unfold Sml at *;rw[BitVec.toNat_and];exact Nat.lt_of_le_of_lt Nat.and_le_left h
theorem qjvb {x y:BitVec 64} (h:Sml x) (h':Sml y):Sml (x|||y):=by
 unfold Sml at *;rw[BitVec.toNat_or];exact Nat.or_lt_two_pow (n:=63) h h'
theorem qgb (tb:Bool) {x y:BitVec 64} (h:Sml x):PO.eval (.bin .and tb) [ivD x,ivD y]=some [ivD (x&&&y)]:=by
 show one1 (some (.int .i64 (IntKind.i64.wrap ((BitVec.ofInt 64 (x.toNat:Int)&&&BitVec.ofInt 64 (y.toNat:Int)).toNat:Int))))=_
 rw[qpl,qpl,qxsb (qefb h)];rfl
theorem qwh (tb:Bool) {x y:BitVec 64} (h:Sml x) (h':Sml y):PO.eval (.bin .or tb) [ivD x,ivD y]=some [ivD (x|||y)]:=by
 show one1 (some (.int .i64 (IntKind.i64.wrap ((BitVec.ofInt 64 (x.toNat:Int)|||BitVec.ofInt 64 (y.toNat:Int)).toNat:Int))))=_
 rw[qpl,qpl,qxsb (qjvb h h')];rfl
theorem qwg (tb:Bool) {x y:BitVec 64} (h:Sml x):PO.eval (.bin .andNot tb) [ivD x,ivD y]=some [ivD (x &&& ~~~y)]:=by
 show one1 (some (.int .i64 (IntKind.i64.wrap ((BitVec.ofInt 64 (x.toNat:Int) &&& ~~~BitVec.ofInt 64 (y.toNat:Int)).toNat:Int))))=_
 rw[qpl,qpl,qxsb (qefb h)];rfl
theorem qmob {x y:BitVec 64}:(x.toNat:Int)=(y.toNat:Int)↔x=y:=by
 constructor
 · intro h;exact BitVec.eq_of_toNat_eq (by omega)
 · rintro rfl;rfl
theorem qiib {x:BitVec 64}:(x.toNat:Int)=0↔x=0#64:=by
 have:=qmob (x:=x) (y:=0#64)
 simpa using this
def subB (a b:BitVec 64):Bool:=decide (a &&& ~~~b=0#64)
abbrev Tbl:=BitVec 64→BitVec 64→BitVec 64
def revT (t:Tbl) (p:Nat) (k f g:BitVec 64):Bool:=
 if p=1 then subB (t k f) f
 else if p=2 then decide (k&&&f=0#64) || decide (t k f=k&&&f)
 else if p=3 then decide (f=0#64) || !decide (t k f=0#64)
 else if p=4 then subB (t k f&&&g) (t k (f&&&g))
 else decide (t k f&&&g=0#64) || subB (t k (f&&&g)) (t k f&&&g)
def conT (all:BitVec 64) (t:Tbl) (p:Nat) (k f g:BitVec 64):Bool:=
 if p=1 then subB k (t k f)
 else if p=2 then subB k f || decide (t k f=k)
 else if p=3 then decide (f=all) || !subB (t k f) f
 else if p=4 then subB (t k f&&&f) k
 else if p=5 then subB (t k (f&&&g)) (t k f|||t k g)
 else subB (t k (f&&&g)) f || subB (t k f) (t k (f&&&g))
def oneW (k:BitVec 64):Bool:=decide (k=1#64) || (decide (k=2#64) || (decide (k=4#64) || decide (k=8#64)))
def updT (t:Tbl) (p:Nat) (k f g:BitVec 64):Bool:=
 if p=1 then subB (t k f) f
 else if p=2 then !subB k f || decide (t k f=k)
 else if p=3 then decide (k=0#64) || (decide (f=0#64) || !decide (t k f=0#64))
 else if p=4 then subB (t k f&&&g) (t k (f&&&g))
 else if p=5 then !subB (t k f) g || (!subB (t k g) f || decide (t k f=t k g))
 else if p=6 then !oneW k || subB (t k f&&&t k g) (t k (f|||g))
 else decide (t (k|||g) f=t k f|||t g f)
def holdsB (kind:Int) (all:BitVec 64) (t:Tbl) (p:Nat) (k f g:BitVec 64):Bool:=if kind=1 then revT t p k f g else if kind=2 then conT all t p k f g else updT t p k f g
def postN (kind:Int):Nat × Nat:=if kind=1 then (5,3) else if kind=2 then (6,4) else if kind=3 then (7,3) else (0,0)
theorem qcb {a b:BitVec 64}:subB a b=true↔∀ w,has a w→has b w:=by
 unfold subB;rw[decide_eq_true_eq,qteb]
section
variable {N:Nat} {r:Nat→Int} {L:BitVec 64→BitVec 64} (hL:Lst N r L)
include hL
theorem qjtb (f:BitVec 64):subB (L f) f=true:=qcb.2 fun w hw=>((hL.get f w).1 hw).2.1
theorem qwdb (f g:BitVec 64):subB (L f&&&g) (L (f&&&g))=true:=qcb.2 fun w hw=>by
 rw[qp,hL.get] at hw;exact (hL.get _ _).2 ⟨hw.1.1,qp.2 ⟨hw.1.2.1,hw.2⟩,fun v hv h=>hw.1.2.2 v hv (qp.1 h).1⟩
theorem qyub (f g:BitVec 64) (h:L f&&&g≠0#64):subB (L (f&&&g)) (L f&&&g)=true:=qcb.2 fun w hw=>by
 obtain ⟨u,hu⟩:=qxg h;rw[qp,hL.get] at hu;rw[hL.get] at hw;have hw2:=qp.1 hw.2.1;refine qp.2 ⟨(hL.get _ _).2 ⟨hw.1,hw2.1,fun v hv hf=>?_⟩,hw2.2⟩
 exact Int.le_trans (hw.2.2 u hu.1.1 (qp.2 ⟨hu.1.2.1,hu.2⟩)) (hu.1.2.2 v hv hf)
theorem qtvb (f g:BitVec 64):subB (L f&&&L g) (L (f|||g))=true:=qcb.2 fun w hw=>by
 rw[qp,hL.get,hL.get] at hw;refine (hL.get _ _).2 ⟨hw.1.1,qub.2 (.inl hw.1.2.1),fun v hv h=>?_⟩
 rcases qub.1 h with h|h
 · exact hw.1.2.2 v hv h
 · exact hw.2.2.2 v hv h
end
end Am

namespace Am
open Go
def Ovr (N:Nat) (x:BitVec 64):Prop:=∀ w,has x w→w<N
def Fit (k:BitVec 64) (L:BitVec 64→BitVec 64):Prop:=k≠0#64→L (BitVec.allOnes 64)=k
theorem qqh {a b:BitVec 64}:subB a b=false↔∃ w,has a w∧¬ has b w:=by
 unfold subB;rw[decide_eq_false_iff_not]
 constructor
 · intro h;obtain ⟨w,hw⟩:=qxg h;exact ⟨w,qx.1 hw⟩
 · rintro ⟨w,hw⟩;exact qhc (qx.2 hw)
section
variable {N:Nat} {r:Nat→Int} {L:BitVec 64→BitVec 64} (hL:Lst N r L) {k f g A:BitVec 64} {t:Tbl}
include hL
theorem qeo (hf:Ovr N f) (h:f≠0#64):∃ w,has (L f) w:=by
 obtain ⟨v,hv⟩:=qxg h;exact hL.ex (hf v hv) hv
theorem qkk (hk:Fit k L) {w:Nat} (h:has k w):w<N∧∀ v,v<N→r w≤r v:=by
 have:=hk (qhc h);rw[← this,hL.get] at h;exact ⟨h.1,fun v hv=>h.2.2 v hv (qyh.2 (Nat.lt_of_lt_of_le hv hL.le))⟩
theorem qws (hk:Fit k L) {w u:Nat} (h:has k w) (hu:u<N) (hr:∀ v,v<N→r u≤r v):has k u:=by
 have:=hk (qhc h);rw[← this,hL.get];exact ⟨hu,qyh.2 (Nat.lt_of_lt_of_le hu hL.le),fun v hv _=>hr v hv⟩
theorem qpmb (hk:Fit k L) (ht:∀ x,Ovr N x→t k x=L x) (hf:Ovr N f) (p:Nat):revT t p k f g=true:=by
 have hfg:Ovr N (f&&&g):=fun w h=>hf w (qp.1 h).1
 unfold revT;rw[ht f hf,ht _ hfg]
 split
 · exact qjtb hL f
 split
 · rw[Bool.or_eq_true,decide_eq_true_eq,decide_eq_true_eq];refine Classical.or_iff_not_imp_left.2 fun h0=>qcd fun w=>?_
   obtain ⟨u,hu⟩:=qxg h0;rw[qp] at hu;obtain ⟨hu1,hu2⟩:=qkk hL hk hu.1;rw[hL.get,qp]
   constructor
   · rintro ⟨h1,h2,h3⟩;exact ⟨qws hL hk hu.1 h1 fun v hv=>Int.le_trans (h3 u hu1 hu.2) (hu2 v hv),h2⟩
   · rintro ⟨h1,h2⟩;obtain ⟨h3,h4⟩:=qkk hL hk h1;exact ⟨h3,h2,fun v hv _=>h4 v hv⟩
 split
 · rw[Bool.or_eq_true,decide_eq_true_eq,Bool.not_eq_true',decide_eq_false_iff_not];refine Classical.or_iff_not_imp_left.2 fun h0=>?_
   obtain ⟨w,hw⟩:=qeo hL hf h0;exact qhc hw
 split
 · exact qwdb hL f g
 · rw[Bool.or_eq_true,decide_eq_true_eq];exact Classical.or_iff_not_imp_left.2 fun h0=>qyub hL f g h0
theorem qpjb (hA:∀ w,has A w↔w<N) (hk:Fit k L) (ht:∀ x,Ovr N x→t k x=k|||L (A &&& ~~~x)) (hf:Ovr N f) (hg:Ovr N g) (p:Nat):conT A t p k f g=true:=by
 have hfg:Ovr N (f&&&g):=fun w h=>hf w (qp.1 h).1
 have hm:∀ x w,has (L (A &&& ~~~x)) w↔w<N∧¬ has x w∧∀ v,v<N→¬ has x v→r w≤r v:=fun x w=>by
  rw[hL.get,qx,hA]
  constructor
  · rintro ⟨h1,h2,h3⟩;exact ⟨h1,h2.2,fun v hv h=>h3 v hv (qx.2 ⟨(hA v).2 hv,h⟩)⟩
  · rintro ⟨h1,h2,h3⟩;exact ⟨h1,⟨h1,h2⟩,fun v hv h=>h3 v hv (qx.1 h).2⟩
 unfold conT;rw[ht f hf,ht g hg,ht _ hfg]
 split
 · exact qcb.2 fun w h=>qub.2 (.inl h)
 split
 · rw[Bool.or_eq_true,decide_eq_true_eq];refine Classical.or_iff_not_imp_left.2 fun h0=>qcd fun w=>?_
   obtain ⟨u,hu1,hu2⟩:=qqh.1 (Bool.eq_false_iff.2 h0);obtain ⟨hu3,hu4⟩:=qkk hL hk hu1;rw[qub,hm];refine ⟨?_,.inl⟩;rintro (h|⟨h1,h2,h3⟩)
   · exact h
   · exact qws hL hk hu1 h1 fun v hv=>Int.le_trans (h3 u hu3 hu2) (hu4 v hv)
 split
 · rw[Bool.or_eq_true,decide_eq_true_eq,Bool.not_eq_true'];refine Classical.or_iff_not_imp_left.2 fun h0=>qqh.2 ?_
   have:A &&& ~~~f≠0#64:=fun h=>h0 (qcd fun w=>⟨fun hw=>(hA w).2 (hf w hw),qteb.1 h w⟩)
   obtain ⟨w,hw⟩:=qeo hL (fun w h=>(hA w).1 (qx.1 h).1) this
   exact ⟨w,qub.2 (.inr hw),((hm f w).1 hw).2.1⟩
 split
 · refine qcb.2 fun w h=>?_
   rw[qp,qub,hm] at h;rcases h.1 with h1|h1
   · exact h1
   · exact absurd h.2 h1.2.1
 split
 · refine qcb.2 fun w h=>?_
   rw[qub,hm] at h;rw[qub,qub,qub,hm,hm];rcases h with h|⟨h1,h2,h3⟩
   · exact .inl (.inl h)
   · by_cases hwf:has f w
     · have:¬ has g w:=fun hw=>h2 (qp.2 ⟨hwf,hw⟩)
       exact .inr (.inr ⟨h1,this,fun v hv hn=>h3 v hv fun hh=>hn (qp.1 hh).2⟩)
     · exact .inl (.inr ⟨h1,hwf,fun v hv hn=>h3 v hv fun hh=>hn (qp.1 hh).1⟩)
 · rw[Bool.or_eq_true];refine Classical.or_iff_not_imp_left.2 fun h0=>qcb.2 fun w h=>?_
   obtain ⟨u,hu1,hu2⟩:=qqh.1 (Bool.eq_false_iff.2 h0);rw[qub,hm] at h hu1;rw[qub,hm];rcases h with h|⟨h1,h2,h3⟩
   · exact .inl h
   rcases hu1 with hu|⟨hu3,hu4,hu5⟩
   · obtain ⟨hu3,hu4⟩:=qkk hL hk hu;exact .inl (qws hL hk hu h1 fun v hv=>Int.le_trans (h3 u hu3 hu2) (hu4 v hv))
   · exact .inr ⟨h1,fun hh=>h2 (qp.1 hh).1,fun v hv hn=>Int.le_trans (h3 u hu3 hu2) (hu5 v hv hn)⟩
end
section
variable {N:Nat} {r:Nat→Nat→Int} {L:Nat→BitVec 64→BitVec 64} (hL:∀ v,v<N→Lst N (r v) (L v)) (hk:∀ v,v<N→∀ w,has (L v (BitVec.allOnes 64)) w↔w=v) {t:Tbl}
 (ht:∀ k f,Ovr N k→Ovr N f→∀ w,has (t k f) w↔∃ v,v<N∧has k v∧has (L v f) w) {k f g:BitVec 64}
include hL hk ht
theorem qwlb (h4:N≤4) (ok:Ovr N k) (of:Ovr N f) (og:Ovr N g) (p:Nat):updT t p k f g=true:=by
 have ofg:Ovr N (f&&&g):=fun w h=>of w (qp.1 h).1
 have oo:∀ {a b},Ovr N a→Ovr N b→Ovr N (a|||b):=fun ha hb w h=>(qub.1 h).elim (ha w) (hb w)
 have hself:∀ v,v<N→has f v→∀ w,has (L v f) w↔w=v:=fun v hv hf w=>by
  have h1:=(hk v hv v).2 rfl;rw[(hL v hv).get] at h1;have h1':∀ u,u<N→r v v≤r v u:=fun u hu=>h1.2.2 u hu (qyh.2 (Nat.lt_of_lt_of_le hu (hL v hv).le))
  rw[(hL v hv).get]
  constructor
  · rintro ⟨h2,h3,h4⟩;refine (hk v hv w).1 (((hL v hv).get _ _).2 ⟨h2,qyh.2 (Nat.lt_of_lt_of_le h2 (hL v hv).le),fun u hu _=>Int.le_trans (h4 v hv hf) (h1' u hu)⟩)
  · rintro rfl;exact ⟨hv,hf,fun u hu _=>h1' u hu⟩
 have hsub:∀ k f,Ovr N k→Ovr N f→∀ w,has (t k f) w→has f w:=fun k f ok of w h=>by
  obtain ⟨v,hv,_,h2⟩:=(ht k f ok of w).1 h;exact (((hL v hv).get _ _).1 h2).2.1
 unfold updT
 split
 · exact qcb.2 (hsub k f ok of)
 split
 · rw[Bool.or_eq_true,Bool.not_eq_true',decide_eq_true_eq];refine Classical.or_iff_not_imp_left.2 fun h0=>qcd fun w=>?_
   have hs:=qcb.1 (Bool.not_eq_false _ ▸ h0:subB k f=true);rw[ht k f ok of]
   constructor
   · rintro ⟨v,hv,h1,h2⟩;rw[(hself v hv (hs v h1) w).1 h2];exact h1
   · intro h;exact ⟨w,ok w h,h,(hself w (ok w h) (hs w h) w).2 rfl⟩
 split
 · rw[Bool.or_eq_true,Bool.or_eq_true,decide_eq_true_eq,decide_eq_true_eq,Bool.not_eq_true',decide_eq_false_iff_not];refine Classical.or_iff_not_imp_left.2 fun h0=>Classical.or_iff_not_imp_left.2 fun h1=>?_
   obtain ⟨v,hv⟩:=qxg h0;obtain ⟨w,hw⟩:=qeo (hL v (ok v hv)) of h1;exact qhc ((ht k f ok of w).2 ⟨v,ok v hv,hv,hw⟩)
 split
 · refine qcb.2 fun w h=>?_
   rw[qp,ht k f ok of] at h;obtain ⟨⟨v,hv,h1,h2⟩,h3⟩:=h;exact (ht _ _ ok ofg w).2 ⟨v,hv,h1,qcb.1 (qwdb (hL v hv) f g) w (qp.2 ⟨h2,h3⟩)⟩
 split
 · rw[Bool.or_eq_true,Bool.or_eq_true,decide_eq_true_eq,Bool.not_eq_true',Bool.not_eq_true'];refine Classical.or_iff_not_imp_left.2 fun h0=>Classical.or_iff_not_imp_left.2 fun h1=>qcd fun w=>?_
   have s1:=qcb.1 (Bool.not_eq_false _ ▸ h0:subB (t k f) g=true);have s2:=qcb.1 (Bool.not_eq_false _ ▸ h1:subB (t k g) f=true)
   have key:∀ f g,Ovr N f→Ovr N g→(∀ w,has (t k f) w→has g w)→(∀ w,has (t k g) w→has f w)→∀ w,has (t k f) w→has (t k g) w:=by
    intro f g of og s1 s2 w h;have hw:=h;rw[ht k f ok of] at h;obtain ⟨v,hv,h1,h2⟩:=h;refine (ht _ _ ok og w).2 ⟨v,hv,h1,?_⟩;rw[(hL v hv).get] at h2 ⊢;refine ⟨h2.1,s1 w hw,fun u hu hgu=>?_⟩
    obtain ⟨x,hx⟩:=(hL v hv).ex hu hgu;have hx':=hx;rw[(hL v hv).get] at hx';exact Int.le_trans (h2.2.2 x hx'.1 (s2 x ((ht _ _ ok og x).2 ⟨v,hv,h1,hx⟩))) (hx'.2.2 u hu hgu)
   exact ⟨key f g of og s1 s2 w,key g f og of s2 s1 w⟩
 split
 · rw[Bool.or_eq_true,Bool.not_eq_true'];refine Classical.or_iff_not_imp_left.2 fun h0=>qcb.2 fun w h=>?_
   have h1:oneW k=true:=Bool.not_eq_false _ ▸ h0
   have h2:∃ v,v<4∧k=BitVec.ofNat 64 (2^v):=by
    simp only[oneW,Bool.or_eq_true,decide_eq_true_eq] at h1;rcases h1 with h|h|h|h
    · exact ⟨0,by omega,h⟩
    · exact ⟨1,by omega,h⟩
    · exact ⟨2,by omega,h⟩
    · exact ⟨3,by omega,h⟩
   obtain ⟨v,hv,rfl⟩:=h2
   have h3:∀ u,has (BitVec.ofNat 64 (2^v)) u→u=v:=fun u hu=>by
    have hl:=qex hu;rw[has] at hu;have hh:∀ v:_root_.Fin 4,∀ u:_root_.Fin 64,(BitVec.ofNat 64 (2^v.1)).getLsbD u.1=true→u.1=v.1:=by decide
    exact hh ⟨v,hv⟩ ⟨u,hl⟩ hu
   rw[qp,ht _ f ok of,ht _ g ok og] at h;obtain ⟨⟨a,ha,a1,a2⟩,b,hb,b1,b2⟩:=h;obtain rfl:=h3 a a1;obtain rfl:=h3 b b1;exact (ht _ _ ok (oo of og) w).2 ⟨b,hb,b1,qcb.1 (qtvb (hL b hb) f g) w (qp.2 ⟨a2,b2⟩)⟩
 · rw[decide_eq_true_eq];refine qcd fun w=>?_
   rw[qub,ht _ f (oo ok og) of,ht k f ok of,ht g f og of]
   constructor
   · rintro ⟨v,hv,h1,h2⟩;exact (qub.1 h1).elim (fun h=>.inl ⟨v,hv,h,h2⟩) fun h=>.inr ⟨v,hv,h,h2⟩
   · rintro (⟨v,hv,h1,h2⟩|⟨v,hv,h1,h2⟩)
     · exact ⟨v,hv,qub.2 (.inl h1),h2⟩
     · exact ⟨v,hv,qub.2 (.inr h1),h2⟩
end
end Am

namespace Am
open Go
section
variable {n:Nat} (hn:n≤64) {K A B M X Y:BitVec 64} {d:Int} {v:Int}
include hn
end
end Am

namespace Am
open Go
end Am

namespace Am
open Go
def two (a b:Nat):BitVec 64:=1#64 <<< a|||1#64 <<< b
theorem qvb {a b w:Nat} (ha:a<64) (hb:b<64):has (two a b) w↔w=a∨w=b:=by
 unfold two;rw[qub,has,has,qcc _ _ ha,qcc _ _ hb,decide_eq_true_eq,decide_eq_true_eq]
def rkc (c:BitVec 64→BitVec 64) (N:Nat) (a:Nat):Nat:=(List.range N).countP fun b=>decide (c (two a b)&&&two a b=1#64 <<< b) && !decide (a=b)
structure Cho (N:Nat) (c:BitVec 64→BitVec 64):Prop where
 le:N≤64
 sub:∀ f w,Ovr N f→has (c f) w→has f w
 some:∀ f,Ovr N f→f≠0#64→∃ w,has (c f) w
 up:∀ f g w,Ovr N f→Ovr N g→has (c f) w→has g w→has (c (f&&&g)) w
 cap:∀ f g u w,Ovr N f→Ovr N g→has (c f) u→has g u→has (c (f&&&g)) w→has (c f) w
section
variable {N:Nat} {c:BitVec 64→BitVec 64} (h:Cho N c)
include h
theorem Cho.ovr {a b:Nat} (ha:a<N) (hb:b<N):Ovr N (two a b):=fun w hw=>by
 have:=h.le;rcases (qvb (by omega) (by omega)).1 hw with rfl|rfl<;>assumption
theorem Cho.cut {f:BitVec 64} {a b:Nat} (ha:a<N) (hb:b<N) (fa:has f a) (fb:has f b):f&&&two a b=two a b:=by
 have:=h.le;refine qcd fun w=>?_
 rw[qp,qvb (by omega) (by omega)]
 constructor
 · exact fun x=>x.2
 · rintro (rfl|rfl)
   · exact ⟨fa,.inl rfl⟩
   · exact ⟨fb,.inr rfl⟩
theorem Cho.comm {a b:Nat} (ha:a<N) (hb:b<N):two a b=two b a:=qcd fun w=>by
 have:=h.le;rw[qvb (by omega) (by omega),qvb (by omega) (by omega)];exact or_comm
def lec (c:BitVec 64→BitVec 64) (a b:Nat):Prop:=has (c (two a b)) a
theorem Cho.total {a b:Nat} (ha:a<N) (hb:b<N):lec c a b∨lec c b a:=by
 have hN:=h.le;obtain ⟨w,hw⟩:=h.some (two a b) (h.ovr ha hb) (qhc ((qvb (by omega) (by omega)).2 (.inl rfl)))
 rcases (qvb (by omega) (by omega)).1 (h.sub _ _ (h.ovr ha hb) hw) with rfl|rfl
 · exact .inl hw
 · right;unfold lec;rw[h.comm hb ha];exact hw
theorem Cho.down {f:BitVec 64} (hf:Ovr N f) {w v:Nat} (hw:has (c f) w) (hv:has f v):lec c w v:=by
 have hN:=h.le;have fw:=h.sub _ _ hf hw;have:=h.up f (two w v) w hf (h.ovr (hf w fw) (hf v hv)) hw ((qvb (by have:=hf w fw;omega) (by have:=hf v hv;omega)).2 (.inl rfl))
 rwa [h.cut (hf w fw) (hf v hv) fw hv] at this
theorem Cho.step {f:BitVec 64} (hf:Ovr N f) {u w:Nat} (hu:has (c f) u) (fw:has f w) (hl:lec c w u):has (c f) w:=by
 have hN:=h.le;have fu:=h.sub _ _ hf hu;have hwN:=hf w fw;have huN:=hf u fu;refine h.cap f (two w u) u w hf (h.ovr hwN huN) hu ((qvb (by omega) (by omega)).2 (.inr rfl)) ?_
 rw[h.cut hwN huN fw fu];exact hl
theorem Cho.trans {a b d:Nat} (ha:a<N) (hb:b<N) (hd:d<N) (h1:lec c a b) (h2:lec c b d):lec c a d:=by
 have hN:=h.le
 have hm:∀ w,has (two a b|||two b d) w↔w=a∨w=b∨w=d:=fun w=>by
  rw[qub,qvb (by omega) (by omega),qvb (by omega) (by omega)]
  constructor
  · rintro ((h|h)|(h|h))<;>simp[h]
  · rintro (h|h|h)<;>simp[h]
 have ho:Ovr N (two a b|||two b d):=fun w hw=>by
  rcases (hm w).1 hw with rfl|rfl|rfl<;>assumption
 have fa:=(hm a).2 (.inl rfl);have fb:=(hm b).2 (.inr (.inl rfl));have fd:=(hm d).2 (.inr (.inr rfl));obtain ⟨u,hu⟩:=h.some _ ho (qhc fa)
 have key:has (c (two a b|||two b d)) a:=by
  rcases (hm u).1 (h.sub _ _ ho hu) with rfl|rfl|rfl
  · exact hu
  · exact h.step ho hu fa h1
  · exact h.step ho (h.step ho hu fb h2) fa h1
 exact h.down ho key fd
theorem Cho.before {a b:Nat} (ha:a<N) (hb:b<N):(decide (c (two a b)&&&two a b=1#64 <<< b) && !decide (a=b))=true↔¬ lec c a b:=by
 have hN:=h.le;rw[Bool.and_eq_true,decide_eq_true_eq,Bool.not_eq_true',decide_eq_false_iff_not]
 have hs:c (two a b)&&&two a b=c (two a b):=qcd fun w=>by
  rw[qp];exact ⟨fun x=>x.1,fun x=>⟨x,h.sub _ _ (h.ovr ha hb) x⟩⟩
 rw[hs]
 constructor
 · rintro ⟨h1,h2⟩ hl;unfold lec at hl;rw[h1,has,qcc _ _ (by omega),decide_eq_true_eq] at hl
   exact h2 hl
 · intro hl;refine ⟨qcd fun w=>?_,fun e=>?_⟩
   · have hw1 : has (1#64 <<< b) w ↔ w = b := by
      rw[has,qcc _ _ (by omega),decide_eq_true_eq]
     rw[hw1]
     constructor
     · intro hw;rcases (qvb (by omega) (by omega)).1 (h.sub _ _ (h.ovr ha hb) hw) with rfl|rfl
       · exact absurd hw hl
       · rfl
     · rintro rfl;have:=(h.total ha hb).resolve_left hl;unfold lec at this
       rwa [h.comm hb ha] at this
   · subst e;exact hl ((h.total ha ha).elim id id)
omit h in
theorem qvk {l:List Nat} {p q:Nat→Bool} (hpq:∀ x∈l,p x=true→q x=true) {y:Nat} (hy:y∈l) (hp:p y=false) (hq:q y=true):l.countP p<l.countP q:=by
 induction l with
 | nil=>cases hy
 | cons a l ih=>
  have hm:l.countP p≤l.countP q:=List.countP_mono_left fun x hx=>hpq x (List.mem_cons_of_mem _ hx)
  rw[List.countP_cons,List.countP_cons];rcases List.mem_cons.1 hy with rfl|hy
  · rw[hp,hq];simp;omega
  · have:=ih (fun x hx=>hpq x (List.mem_cons_of_mem _ hx)) hy
    have:=hpq a List.mem_cons_self;cases ha:p a
    · simp;split<;>omega
    · rw[this ha];simp;omega
theorem Cho.rk {a b:Nat} (ha:a<N) (hb:b<N):rkc c N a≤rkc c N b↔lec c a b:=by
 unfold rkc
 constructor
 · intro hr;refine Classical.byContradiction fun hl=>?_
   have hl':=(h.total ha hb).resolve_left hl;refine absurd hr (Nat.not_le.2 (qvk (y:=b) (fun x hx hp=>?_) (List.mem_range.2 hb) ?_ ((h.before ha hb).2 hl)))
   · have hx:=List.mem_range.1 hx;exact (h.before ha hx).2 fun hax=>(h.before hb hx).1 hp (h.trans hb ha hx hl' hax)
   · exact Bool.eq_false_iff.2 fun hp=>(h.before hb hb).1 hp ((h.total hb hb).elim id id)
 · intro hl;refine List.countP_mono_left fun x hx hp=>?_
   have hx:=List.mem_range.1 hx;exact (h.before hb hx).2 fun hbx=>(h.before ha hx).1 hp (h.trans ha hb hx hl hbx)
end
section
variable {N:Nat} (hN:N≤64) {t:Tbl} {k A:BitVec 64} (hA:∀ w,has A w↔w<N) (ok:Ovr N k) (ot:∀ f,Ovr N f→Ovr N (t k f))
include hN hA ok
end
end Am

namespace Am
open Go
def setLv (q:List Int) (b:BitVec 64) (l:Nat):List Int:=(List.range q.length).map fun w=>if b.getLsbD w=true then (l:Int) else q.getD w 0
theorem qgg (q:List Int) (b:BitVec 64) (l:Nat):(setLv q b l).length=q.length:=by simp[setLv]
theorem qbl (q:List Int) (b:BitVec 64) (l:Nat) {w:Nat} (h:w<q.length):(setLv q b l).getD w 0=if b.getLsbD w=true then (l:Int) else q.getD w 0:=by
 rw[gd (by rw[qgg];exact h)];simp[setLv]
def lvlR (c:BitVec 64→BitVec 64):Nat→Nat→BitVec 64→List Int→Option (List Int)
 | 0,_,S,q=>if S=0#64 then some q else none
 | m+1,l,S,q=>if S=0#64 then some q else if c S&&&S=0#64 then none else lvlR c m (l+1) (S &&& ~~~(c S&&&S)) (setLv q (c S&&&S) l)
def Chs (N:Nat) (o:List Int) (c:BitVec 64→BitVec 64):Prop:=∀ S,Ovr N S→∀ w,has (c S) w↔w<N∧has S w∧∀ v,v<N→has S v→o.getD w 0≤o.getD v 0
section
variable {N:Nat} {o:List Int} {c:BitVec 64→BitVec 64} (hN:N≤64) (ho:o.length=N) (hc:Chs N o c)
include hN ho hc
theorem qxv {S:BitVec 64} (hS:Ovr N S) (h:S≠0#64):∃ w,has (c S) w:=by
 obtain ⟨v,hv⟩:=qxg h;obtain ⟨w,h1,h2,h3⟩:=qcib (fun w=>o.getD w 0) (fun v=>has S v) N ⟨v,hS v hv,hv⟩
 exact ⟨w,(hc S hS w).2 ⟨h1,h2,h3⟩⟩
theorem qmgb:Cho N c:=by
 have oo:∀ {f g},Ovr N f→Ovr N (f&&&g):=fun hf w h=>hf w (qp.1 h).1
 refine ⟨hN,fun f w hf h=>((hc f hf w).1 h).2.1,fun f hf h=>qxv hN ho hc hf h,fun f g w hf hg h1 h2=>?_,fun f g u w hf hg h1 h2 h3=>?_⟩
 · rw[hc f hf] at h1;rw[hc _ (oo hf)];exact ⟨h1.1,qp.2 ⟨h1.2.1,h2⟩,fun v hv h=>h1.2.2 v hv (qp.1 h).1⟩
 · rw[hc f hf] at h1 ⊢;rw[hc _ (oo hf)] at h3;exact ⟨h3.1,(qp.1 h3.2.1).1,fun v hv h=>Int.le_trans (h3.2.2 u h1.1 (qp.2 ⟨h1.2.1,h2⟩)) (h1.2.2 v hv h)⟩
theorem qkub {a b:Nat} (ha:a<N) (hb:b<N):lec c a b↔o.getD a 0≤o.getD b 0:=by
 unfold lec;rw[hc _ ((qmgb hN ho hc).ovr ha hb)]
 constructor
 · exact fun h=>h.2.2 b hb ((qvb (by omega) (by omega)).2 (.inr rfl))
 · intro h;refine ⟨ha,(qvb (by omega) (by omega)).2 (.inl rfl),fun v hv hm=>?_⟩
   rcases (qvb (by omega) (by omega)).1 hm with rfl|rfl
   · exact Int.le_refl _
   · exact h
theorem qrgb:Pat ((List.range N).map fun a=>(rkc c N a:Int)) o:=by
 refine ⟨by simp[ho],fun i j hi hj=>?_⟩
 have hi':i<N:=by simpa using hi
 have hj':j<N:=by simpa using hj
 rw[gd hi,gd hj];simp only[List.getElem_map,List.getElem_range];have h1:=((qmgb hN ho hc).rk hj' hi').trans (qkub hN ho hc hj' hi')
 constructor
 · intro h;refine Int.not_le.1 fun hx=>?_
   have:=h1.2 hx;omega
 · intro h;refine Int.not_le.1 fun hx=>?_
   have:=h1.1 (by omega)
   omega
theorem qfy (hr:rkOk o=true):normS ((List.range N).map fun a=>(rkc c N a:Int))=o:=by
 rw[qhv (qrgb hN ho hc),qol hr]
structure LvI (l:Nat) (S:BitVec 64) (q:List Int):Prop where
 len:q.length=N
 ovr:Ovr N S
 lt:∀ w,w<N→¬ has S w→q.getD w 0<(l:Int)
 ord:∀ w v,w<N→v<N→¬ has S w→¬ has S v→(q.getD w 0<q.getD v 0↔o.getD w 0<o.getD v 0)
 sep:∀ w v,w<N→v<N→¬ has S w→has S v→o.getD w 0<o.getD v 0
theorem qywb:∀ (m l:Nat) (S:BitVec 64) (q:List Int),LvI (N:=N) (o:=o) l S q→((List.range N).countP fun w=>S.getLsbD w)≤m→∃ out,lvlR c m l S q=some out∧Pat out o:=by
 intro m
 induction m with
 | zero=>
  intro l S q h hm
  have hz:S=0#64:=qgd.2 fun w hw=>by
   have:=List.countP_eq_zero.1 (Nat.le_zero.1 hm) w (List.mem_range.2 (h.ovr w hw));exact this hw
  refine ⟨q,by unfold lvlR;rw[if_pos hz],h.len.trans ho.symm,fun i j hi hj=>?_⟩
  have hl:=h.len;exact h.ord i j (by omega) (by omega) (hz ▸ (qgd.1 rfl) i) (hz ▸ (qgd.1 rfl) j)
 | succ m ih=>
  intro l S q h hm;have hl:=h.len
  by_cases hz:S=0#64
  · refine ⟨q,by unfold lvlR;rw[if_pos hz],h.len.trans ho.symm,fun i j hi hj=>?_⟩
    exact h.ord i j (by omega) (by omega) (hz ▸ (qgd.1 rfl) i) (hz ▸ (qgd.1 rfl) j)
  have hcs:c S&&&S=c S:=qcd fun w=>by
   rw[qp];exact ⟨fun x=>x.1,fun x=>⟨x,((hc S h.ovr w).1 x).2.1⟩⟩
  obtain ⟨u,hu⟩:=qxv hN ho hc h.ovr hz;have hu':=(hc S h.ovr u).1 hu;have hmem:∀ w,has (S &&& ~~~(c S)) w↔has S w∧¬ has (c S) w:=fun w=>qx
  have hnot:∀ w,w<N→¬ has (S &&& ~~~(c S)) w→has (c S) w∨¬ has S w:=fun w hw hn=>by
   by_cases hx:has (c S) w
   · exact .inl hx
   · exact .inr fun hs=>hn ((hmem w).2 ⟨hs,hx⟩)
  unfold lvlR;rw[if_neg hz,hcs,if_neg (qhc hu)];refine ih (l+1) _ _ ⟨by rw[qgg];exact h.len,fun w hw=>h.ovr w ((hmem w).1 hw).1,fun w hw hn=>?_,fun w v hw hv hnw hnv=>?_,fun w v hw hv hnw hv'=>?_⟩ ?_
  · rw[qbl _ _ _ (by omega)]
    rcases hnot w hw hn with hx|hx
    · rw[if_pos hx];omega
    · have:=h.lt w hw hx
      split<;>omega
  · rw[qbl _ _ _ (by omega),qbl _ _ _ (by omega)]
    have hcS:∀ x,x<N→¬ has S x→¬ (c S).getLsbD x=true:=fun x hx hs hcx=>hs ((hc S h.ovr x).1 hcx).2.1
    rcases hnot w hw hnw with hx|hx<;>rcases hnot v hv hnv with hy|hy
    · rw[if_pos hx,if_pos hy];have h1:=((hc S h.ovr w).1 hx).2.2 v hv ((hc S h.ovr v).1 hy).2.1;have h2:=((hc S h.ovr v).1 hy).2.2 w hw ((hc S h.ovr w).1 hx).2.1
      constructor<;>intro<;>omega
    · rw[if_pos hx,if_neg (hcS v hv hy)];have h1:=h.lt v hv hy;have h2:=h.sep v w hv hw hy ((hc S h.ovr w).1 hx).2.1
      constructor<;>intro<;>omega
    · rw[if_neg (hcS w hw hx),if_pos hy];have h1:=h.lt w hw hx;have h2:=h.sep w v hw hv hx ((hc S h.ovr v).1 hy).2.1
      constructor<;>intro<;>omega
    · rw[if_neg (hcS w hw hx),if_neg (hcS v hv hy)];exact h.ord w v hw hv hx hy
  · have hv2:=(hmem v).1 hv';rcases hnot w hw hnw with hx|hx
    · refine Int.not_le.1 fun hle=>hv2.2 ((hc S h.ovr v).2 ⟨hv,hv2.1,fun z hz hs=>Int.le_trans hle (((hc S h.ovr w).1 hx).2.2 z hz hs)⟩)
    · exact h.sep w v hw hv hx hv2.1
  · have : ((List.range N).countP fun w => (S &&& ~~~(c S)).getLsbD w) < ((List.range N).countP fun w => S.getLsbD w) :=
     qvk (fun x _ hp=>((hmem x).1 hp).1) (List.mem_range.2 hu'.1) (Bool.eq_false_iff.2 fun hx=>((hmem u).1 hx).2 hu) hu'.2.1
    omega
theorem qqlb {A:BitVec 64} (hA:∀ w,has A w↔w<N) (hr:rkOk o=true):∃ out,lvlR c N 0 A (List.replicate N 0)=some out∧normS out=o:=by
 obtain ⟨out,h1,h2⟩:=qywb hN ho hc N 0 A (List.replicate N 0) ⟨by simp,fun w h=>(hA w).1 h,fun w hw hn=>absurd ((hA w).2 hw) hn,fun w v hw hv hn _=>absurd ((hA w).2 hw) hn,fun w v hw hv hn _=>absurd ((hA w).2 hw) hn⟩ (by
  have:=List.countP_le_length (p:=fun w=>A.getLsbD w) (l:=List.range N);simpa using this)
 exact ⟨out,h1,by rw[qhv h2,qol hr]⟩
end
end Am

namespace Am
open Go
theorem qyq (a b:Nat):List.range (a*b)=(List.range a).flatMap fun i=>(List.range b).map fun j=>i*b+j:=by
 induction a with
 | zero=>simp
 | succ a ih=>rw[Nat.succ_mul,List.range_add,ih,List.range_succ,List.flatMap_append];simp
theorem qsc {α β:Type} {l:List α} {f g:α→List β} (h:∀ x∈l,f x=g x):l.flatMap f=l.flatMap g:=by rw[List.flatMap_def,List.flatMap_def,List.map_congr_left h]
def trip (N s:Nat):List (Nat × Nat × Nat):=(List.range N).flatMap fun k=>(List.range N).flatMap fun f=>(List.range s).map fun g=>(k,f,g)
theorem qoa {N s:Nat} (hN:0<N) (hs:0<s):(List.range (N*N*s)).map (fun n=>(n / s / N,n / s % N,n % s))=trip N s:=by
 rw[Nat.mul_assoc,qyq,List.map_flatMap];unfold trip;refine qsc fun k _=>?_
 rw[qyq,List.map_flatMap,List.map_flatMap];refine qsc fun f hf=>?_
 have hf:=List.mem_range.1 hf;rw[List.map_map,List.map_map];refine List.map_congr_left fun g hg=>?_
 have hg:=List.mem_range.1 hg
 have e1:(k*(N*s)+(f*s+g)) / s=k*N+f:=by
  rw[show k*(N*s)+(f*s+g)=g+(k*N+f)*s by rw[Nat.add_mul,Nat.mul_assoc];omega,Nat.add_mul_div_right _ _ hs,Nat.div_eq_of_lt hg,Nat.zero_add]
 have e2:(k*(N*s)+(f*s+g)) % s=g:=by
  rw[show k*(N*s)+(f*s+g)=g+(k*N+f)*s by rw[Nat.add_mul,Nat.mul_assoc];omega,Nat.add_mul_mod_self_right,Nat.mod_eq_of_lt hg]
 have e3:(k*N+f) / N=k:=by rw[Nat.add_comm,Nat.add_mul_div_right _ _ hN,Nat.div_eq_of_lt hf,Nat.zero_add]
 have e4:(k*N+f) % N=f:=by rw[Nat.add_comm,Nat.add_mul_mod_self_right,Nat.mod_eq_of_lt hf]
 simp only[Function.comp_apply,e1,e2,e3,e4]
theorem qlkb {N s:Nat} {x:Nat × Nat × Nat}:x∈trip N s↔x.1<N∧x.2.1<N∧x.2.2<s:=by
 obtain ⟨k,f,g⟩:=x;simp only[trip,List.mem_flatMap,List.mem_map,List.mem_range,Prod.mk.injEq]
 constructor
 · rintro ⟨a,ha,b,hb,c,hc,rfl,rfl,rfl⟩;exact ⟨ha,hb,hc⟩
 · rintro ⟨ha,hb,hc⟩;exact ⟨k,ha,f,hb,g,hc,rfl,rfl,rfl⟩
abbrev Brc:=Nat × Nat × Nat × Nat
def Brc.lt (a b:Brc):Prop:=a.1<b.1∨a.1=b.1∧(a.2.1<b.2.1∨a.2.1=b.2.1∧(a.2.2.1<b.2.2.1∨a.2.2.1=b.2.2.1∧a.2.2.2<b.2.2.2))
def brL (h:Nat→Nat→Nat→Nat→Bool) (all fst N:Nat):List Brc:=(List.range all).flatMap fun i=>((trip N (if i<fst then 1 else N)).filter fun x=>!h (i+1) x.1 x.2.1 x.2.2).map fun x=>(i+1,x)
theorem qxs {h:Nat→Nat→Nat→Nat→Bool} {all fst N:Nat} (b:Brc):b∈brL h all fst N↔1≤b.1∧b.1≤all∧b.2.1<N∧b.2.2.1<N∧b.2.2.2<N∧(b.1≤fst→b.2.2.2=0)∧h b.1 b.2.1 b.2.2.1 b.2.2.2=false:=by
 obtain ⟨p,k,f,g⟩:=b;simp only[brL,List.mem_flatMap,List.mem_map,List.mem_range,List.mem_filter,qlkb,Prod.mk.injEq,Bool.not_eq_true']
 constructor
 · rintro ⟨i,hi,⟨k',f',g'⟩,⟨⟨h1,h2,h3⟩,h4⟩,rfl,e⟩;simp only[Prod.mk.injEq] at e;obtain ⟨rfl,rfl,rfl⟩:=e
   dsimp only at h1 h2 h3 h4
   refine ⟨by omega,by omega,h1,h2,?_,fun hp=>?_,h4⟩
   · split at h3<;>omega
   · rw[if_pos (by omega)] at h3;omega
 · rintro ⟨h1,h2,h3,h4,h5,h6,h7⟩;refine ⟨p-1,by omega,(k,f,g),⟨⟨h3,h4,?_⟩,?_⟩,by omega,rfl⟩
   · dsimp only
     split
     · have:=h6 (by omega);omega
     · exact h5
   · rw[show p-1+1=p by omega];exact h7
end Am

namespace Am
open Go
def tabD (rows:List (List Int)):D:=.sl (rows.map fun r=>[numsD r])
def szT (a:Int):Nat:=if a=1 then 4 else if a=2 then 16 else 0
structure Vld (a:Int) (rows:List (List Int)):Prop where
 at_:a=1∨a=2
 len:rows.length=szT a
 row:∀ r∈rows,r.length=szT a
 ent:∀ r∈rows,∀ x∈r,0≤x∧x<(szT a:Int)
def vldB (a:Int) (rows:List (List Int)):Bool:=(decide (a=1) || decide (a=2))&&(decide (rows.length=szT a)&&rows.all fun r=>decide (r.length=szT a)&&r.all fun x=>decide (0≤x)&&decide (x<(szT a:Int)))
theorem qid {a:Int} {rows:List (List Int)}:vldB a rows=true↔Vld a rows:=by
 simp only[vldB,Bool.and_eq_true,Bool.or_eq_true,decide_eq_true_eq,List.all_eq_true]
 constructor
 · rintro ⟨h1,h2,h3⟩;exact ⟨h1,h2,fun r hr=>(h3 r hr).1,fun r hr=>(h3 r hr).2⟩
 · rintro ⟨h1,h2,h3,h4⟩;exact ⟨h1,h2,fun r hr=>⟨h3 r hr,h4 r hr⟩⟩
instance (a:Int) (rows:List (List Int)):Decidable (Vld a rows):=decidable_of_iff _ qid
def tOf (rows:List (List Int)):Tbl:=fun k f=>BitVec.ofInt 64 ((rows.getD k.toNat []).getD f.toNat 0)
def rowAt (rows:List (List Int)) (k:BitVec 64):List Int:=rows.getD k.toNat []
theorem qbq (a:Int):szT a=0∨szT a=4∨szT a=16:=by
 unfold szT;split
 · exact .inr (.inl rfl)
 · split
   · exact .inr (.inr rfl)
   · exact .inl rfl
theorem qg (a:Int):szT a≤16:=by rcases qbq a with h|h|h<;>omega
theorem sm {N:Nat} (h16:N≤16) {x:BitVec 64} (h:x.toNat<N):Sml x:=by unfold Sml;omega
theorem qbb {N:Nat} {x y:BitVec 64} (h:x.toNat<N):(x&&&y).toNat<N:=by
 rw[BitVec.toNat_and];exact Nat.lt_of_le_of_lt Nat.and_le_left h
theorem qxt {a:Int} {x y:BitVec 64} (h:x.toNat<szT a) (h':y.toNat<szT a):(x|||y).toNat<szT a:=by
 rw[BitVec.toNat_or];rcases qbq a with e|e|e
 · omega
 · rw[e] at h h' ⊢;exact Nat.or_lt_two_pow (n:=2) h h'
 · rw[e] at h h' ⊢;exact Nat.or_lt_two_pow (n:=4) h h'
section
variable {a:Int} {rows:List (List Int)} (hv:Vld a rows) {k f:BitVec 64} (hk:k.toNat<szT a) (hf:f.toNat<szT a)
include hv hk
theorem qcsb:rowAt rows k∈rows:=by
 unfold rowAt;rw[gd' (by rw[hv.len];exact hk)]
 exact List.getElem_mem _
 where gd' {rows:List (List Int)} {i:Nat} (h:i<rows.length):rows.getD i []=rows[i]:=by simp[h]
theorem tr:PO.eval (.row 1) [tabD rows,ivD k]=some [numsD (rowAt rows k)]:=by
 have h1:k.toNat<rows.length:=by rw[hv.len];exact hk
 have h2:(rows.map fun r=>[numsD r])[k.toNat]? = some [numsD (rowAt rows k)]:=by
  simp[rowAt,h1]
 show (if (0:Int)≤(k.toNat:Int) then (match (rows.map fun r=>[numsD r])[(k.toNat:Int).toNat]? with|some r=>if r.length=1 then some r else none|none=>none) else none)=_
 rw[if_pos (by omega),Int.toNat_natCast,h2]
 rfl
include hf
theorem qreb:∃ x:Int,(rowAt rows k)[f.toNat]? = some x∧0≤x∧x<(szT a:Int)∧tOf rows k f=BitVec.ofInt 64 x:=by
 have hm:=qcsb hv hk;have hl:=hv.row _ hm;have h1:f.toNat<(rowAt rows k).length:=by omega
 refine ⟨(rowAt rows k)[f.toNat],by simp[h1],(hv.ent _ hm _ (List.getElem_mem h1)).1,(hv.ent _ hm _ (List.getElem_mem h1)).2,?_⟩
 unfold tOf
 show BitVec.ofInt 64 ((rowAt rows k).getD f.toNat 0)=_
 simp[h1]
theorem t_lt:(tOf rows k f).toNat<szT a:=by
 obtain ⟨x,_,h0,h1,e⟩:=qreb hv hk hf;have:=qg a;rw[e];obtain ⟨n,rfl⟩:=Int.eq_ofNat_of_zero_le h0
 have:(BitVec.ofInt 64 (n:Int)).toNat=n:=by
  rw[BitVec.ofInt_natCast,BitVec.toNat_ofNat];omega
 rw[this];omega
theorem qzyb:∃ x:Int,(rowAt rows k)[f.toNat]? = some x∧x=((tOf rows k f).toNat:Int):=by
 obtain ⟨x,hx,h0,h1,e⟩:=qreb hv hk hf;refine ⟨x,hx,?_⟩;have:=qg a;rw[e];obtain ⟨n,rfl⟩:=Int.eq_ofNat_of_zero_le h0
 have:(BitVec.ofInt 64 (n:Int)).toNat=n:=by
  rw[BitVec.ofInt_natCast,BitVec.toNat_ofNat];omega
 rw[this]
theorem tc:PO.eval (.row 1) [numsD (rowAt rows k),ivD f]=some [ivD (tOf rows k f)]:=by
 obtain ⟨x,hx,e⟩:=qzyb hv hk hf
 have h2:((rowAt rows k).map numR)[f.toNat]? = some [ivD (tOf rows k f)]:=by
  rw[List.getElem?_map,hx,Option.map_some,e];rfl
 show (if (0:Int)≤(f.toNat:Int) then (match ((rowAt rows k).map numR)[(f.toNat:Int).toNat]? with|some r=>if r.length=1 then some r else none|none=>none) else none)=_
 rw[if_pos (by omega),Int.toNat_natCast,h2]
 rfl
end
theorem qkb (tb:Bool) (x:BitVec 64):PO.eval (.bin .eql tb) [ivD x,.int .i64 0]=some [.bool (decide (x=0#64))]:=by
 show one1 (some (.bool ((x.toNat:Int) == 0)))=_
 rw[show ((x.toNat:Int) == 0)=decide (x=0#64) by rw[Bool.eq_iff_iff];simp only[beq_iff_eq,decide_eq_true_eq];exact qiib];rfl
theorem qac (tb:Bool) (x:BitVec 64):PO.eval (.bin .neq tb) [ivD x,.int .i64 0]=some [.bool (!decide (x=0#64))]:=by
 show one1 (some (.bool (!((x.toNat:Int) == 0))))=_
 rw[show ((x.toNat:Int) == 0)=decide (x=0#64) by rw[Bool.eq_iff_iff];simp only[beq_iff_eq,decide_eq_true_eq];exact qiib];rfl
theorem qab (tb:Bool) (x y:BitVec 64):PO.eval (.bin .eql tb) [ivD x,ivD y]=some [.bool (decide (x=y))]:=by
 show one1 (some (.bool ((x.toNat:Int) == (y.toNat:Int))))=_
 rw[show ((x.toNat:Int) == (y.toNat:Int))=decide (x=y) by rw[Bool.eq_iff_iff];simp only[beq_iff_eq,decide_eq_true_eq];exact qmob];rfl
section
variable (t:Tbl) (A k f g:BitVec 64)
theorem qmnb:revT t 1 k f g=subB (t k f) f:=rfl
theorem qoob:revT t 2 k f g=(decide (k&&&f=0#64) || decide (t k f=k&&&f)):=rfl
theorem qvpb:revT t 3 k f g=(decide (f=0#64) || !decide (t k f=0#64)):=rfl
theorem qfob:revT t 4 k f g=subB (t k f&&&g) (t k (f&&&g)):=rfl
theorem qpnb:revT t 5 k f g=(decide (t k f&&&g=0#64) || subB (t k (f&&&g)) (t k f&&&g)):=rfl
theorem qgob:conT A t 1 k f g=subB k (t k f):=rfl
theorem qwpb:conT A t 2 k f g=(subB k f || decide (t k f=k)):=rfl
theorem qzpb:conT A t 3 k f g=(decide (f=A) || !subB (t k f) f):=rfl
theorem qhpb:conT A t 4 k f g=subB (t k f&&&f) k:=rfl
theorem qrnb:conT A t 5 k f g=subB (t k (f&&&g)) (t k f|||t k g):=rfl
theorem qbqb:conT A t 6 k f g=(subB (t k (f&&&g)) f || subB (t k f) (t k (f&&&g))):=rfl
theorem qsob:updT t 1 k f g=subB (t k f) f:=rfl
theorem qunb:updT t 2 k f g=(!subB k f || decide (t k f=k)):=rfl
theorem qopb:updT t 3 k f g=(decide (k=0#64) || (decide (f=0#64) || !decide (t k f=0#64))):=rfl
theorem qjpb:updT t 4 k f g=subB (t k f&&&g) (t k (f&&&g)):=rfl
theorem qbob:updT t 5 k f g=(!subB (t k f) g || (!subB (t k g) f || decide (t k f=t k g))):=rfl
theorem qapb:updT t 6 k f g=(!oneW k || subB (t k f&&&t k g) (t k (f|||g))):=rfl
theorem qyob:updT t 7 k f g=decide (t (k|||g) f=t k f|||t g f):=rfl
end
def idxP {α:Type} (q:α→Bool):Nat→List α→Int
 | _,[]=>-1
 | i,x::l=>if q x=true then i else idxP q (i+1) l
theorem qal {α:Type} (q:α→Bool):∀ (l:List α) (i:Nat),decide (idxP q i l≥0)=l.any q
 | [],i=>rfl
 | x::l,i=>by
  simp only[idxP,List.any_cons]
  by_cases h:q x=true
  · simp[h]
  · simp[h,qal q l (i+1)]
theorem qnh {α:Type} (q:α→Bool) {l:List α} {i:Nat} (h:i<l.length):idxP q i (l.drop i)=if q l[i]=true then (i:Int) else idxP q (i+1) (l.drop (i+1)):=by
 rw[List.drop_eq_getElem_cons h];rfl
def badS (S:Int) (x:Int):Bool:=decide (x<0) || decide (x≥S)
def badR (S:Int) (r:List Int):Bool:=decide ((r.length:Int)≠S) || r.any (badS S)
theorem qgl {rows:List (List Int)} {i:Nat} (h:i<rows.length):PO.eval (.row 1) [tabD rows,.int .i64 i]=some [numsD rows[i]]:=
 qxl (by omega) (by simp[h]) rfl
theorem qbe (rows:List (List Int)):PO.eval .lenL [tabD rows]=some [.int .i64 rows.length]:=by simp[tabD,qbd]
theorem qtt {a:Int} (ha:a=1∨a=2) (rows:List (List Int)):vldB a rows = !(decide ((rows.length:Int)≠(szT a:Int)) || rows.any (badR (szT a:Int))):=by
 rw[Bool.eq_iff_iff,Bool.not_eq_true',Bool.or_eq_false_iff,decide_eq_false_iff_not,List.any_eq_false];rw[qid]
 constructor
 · rintro ⟨_,h2,h3,h4⟩;refine ⟨by omega,fun r hr=>?_⟩
   rw[Bool.not_eq_true,badR,Bool.or_eq_false_iff,decide_eq_false_iff_not,List.any_eq_false];refine ⟨by have:=h3 r hr;omega,fun x hx=>?_⟩
   have:=h4 r hr x hx;simp[badS];omega
 · rintro ⟨h2,h3⟩;refine ⟨ha,by omega,fun r hr=>?_,fun r hr x hx=>?_⟩
   · have:=h3 r hr;rw[Bool.not_eq_true,badR,Bool.or_eq_false_iff,decide_eq_false_iff_not] at this;omega
   · have:=h3 r hr;rw[Bool.not_eq_true,badR,Bool.or_eq_false_iff,List.any_eq_false] at this;have:=this.2 x hx;simp[badS] at this;omega
end Am
