/- What functions of the program compute: lemmas. -/
import Derived.Test.YtoalfckdmoahoaaGreatDoorAm6
set_option linter.unusedSimpArgs false
set_option linter.unusedVariables false
set_option linter.unusedSectionVars false
namespace Am
open Go
def ivD (x:BitVec 64):D:=.int .i64 (x.toNat:Int)
def Sml (x:BitVec 64):Prop:=x.toNat<9223372036854775808
theorem qwn (x:BitVec 64):BitVec.ofInt 64 (x.toNat:Int)=x:=qaf x
theorem qtub {x:BitVec 64} (h:Sml x):IntKind.i64.wrap (x.toNat:Int)=(x.toNat:Int):=wr (by omega) (by unfold Sml at h;omega)
theorem qekb {x y:BitVec 64} (h:Sml x):Sml (x&&&y):=by
 unfold Sml at *;rw[BitVec.toNat_and];exact Nat.lt_of_le_of_lt Nat.and_le_left h
theorem qmzb {x y:BitVec 64} (h:Sml x) (h':Sml y):Sml (x|||y):=by
 unfold Sml at *;rw[BitVec.toNat_or];exact Nat.or_lt_two_pow (n:=63) h h'
theorem qyf (tb:Bool) {x y:BitVec 64} (h:Sml x):PO.eval (.bin .and tb) [ivD x,ivD y]=some [ivD (x&&&y)]:=by
 show one1 (some (.int .i64 (IntKind.i64.wrap ((BitVec.ofInt 64 (x.toNat:Int)&&&BitVec.ofInt 64 (y.toNat:Int)).toNat:Int))))=_
 rw[qwn,qwn,qtub (qekb h)];rfl
theorem qjmb (tb:Bool) {x y:BitVec 64} (h:Sml x) (h':Sml y):PO.eval (.bin .or tb) [ivD x,ivD y]=some [ivD (x|||y)]:=by
 show one1 (some (.int .i64 (IntKind.i64.wrap ((BitVec.ofInt 64 (x.toNat:Int)|||BitVec.ofInt 64 (y.toNat:Int)).toNat:Int))))=_
 rw[qwn,qwn,qtub (qmzb h h')];rfl
theorem qbjb (tb:Bool) {x y:BitVec 64} (h:Sml x):PO.eval (.bin .andNot tb) [ivD x,ivD y]=some [ivD (x &&& ~~~y)]:=by
 show one1 (some (.int .i64 (IntKind.i64.wrap ((BitVec.ofInt 64 (x.toNat:Int) &&& ~~~BitVec.ofInt 64 (y.toNat:Int)).toNat:Int))))=_
 rw[qwn,qwn,qtub (qekb h)];rfl
theorem qdsb {x y:BitVec 64}:(x.toNat:Int)=(y.toNat:Int)↔x=y:=by
 constructor
 · intro h;exact BitVec.eq_of_toNat_eq (by omega)
 · rintro rfl;rfl
theorem qykb {x:BitVec 64}:(x.toNat:Int)=0↔x=0#64:=by
 have:=qdsb (x:=x) (y:=0#64)
 simpa using this
def subB (a b:BitVec 64):Bool:=decide (a &&& ~~~b=0#64)
abbrev Tbl:=BitVec 64→BitVec 64→BitVec 64
def revT (t:Tbl) (p:Nat) (k f g:BitVec 64):Bool:=
 if p=1 then subB (t k f) f
 else if p=2 then decide (k&&&f=0#64) || decide (t k f=k&&&f)
 else if p=3 then decide (f=0#64) || !decide (t k f=0#64)
 else if p=4 then subB (t k f&&&g) (t k (f&&&g))
 else decide (t k f&&&g=0#64) || subB (t k (f&&&g)) (t k f&&&g)
def conT (all:BitVec 64) (t:Tbl) (p:Nat) (k f g:BitVec 64):Bool:=
 if p=1 then subB k (t k f)
 else if p=2 then subB k f || decide (t k f=k)
 else if p=3 then decide (f=all) || !subB (t k f) f
 else if p=4 then subB (t k f&&&f) k
 else if p=5 then subB (t k (f&&&g)) (t k f|||t k g)
 else subB (t k (f&&&g)) f || subB (t k f) (t k (f&&&g))
def oneW (k:BitVec 64):Bool:=decide (k=1#64) || (decide (k=2#64) || (decide (k=4#64) || decide (k=8#64)))
def updT (t:Tbl) (p:Nat) (k f g:BitVec 64):Bool:=
 if p=1 then subB (t k f) f
 else if p=2 then !subB k f || decide (t k f=k)
 else if p=3 then decide (k=0#64) || (decide (f=0#64) || !decide (t k f=0#64))
 else if p=4 then subB (t k f&&&g) (t k (f&&&g))
 else if p=5 then !subB (t k f) g || (!subB (t k g) f || decide (t k f=t k g))
 else if p=6 then !oneW k || subB (t k f&&&t k g) (t k (f|||g))
 else decide (t (k|||g) f=t k f|||t g f)
def holdsB (kind:Int) (all:BitVec 64) (t:Tbl) (p:Nat) (k f g:BitVec 64):Bool:=if kind=1 then revT t p k f g else if kind=2 then conT all t p k f g else updT t p k f g
def postN (kind:Int):Nat × Nat:=if kind=1 then (5,3) else if kind=2 then (6,4) else if kind=3 then (7,3) else (0,0)
theorem qib {a b:BitVec 64}:subB a b=true↔∀ w,has a w→has b w:=by
 unfold subB;rw[decide_eq_true_eq,qzc]
section
variable {N:Nat} {r:Nat→Int} {L:BitVec 64→BitVec 64} (hL:Lst N r L)
include hL
theorem qjub (f:BitVec 64):subB (L f) f=true:=qib.2 fun w hw=>((hL.get f w).1 hw).2.1
theorem qkeb (f g:BitVec 64):subB (L f&&&g) (L (f&&&g))=true:=qib.2 fun w hw=>by
 rw[qo,hL.get] at hw;exact (hL.get _ _).2 ⟨hw.1.1,qo.2 ⟨hw.1.2.1,hw.2⟩,fun v hv h=>hw.1.2.2 v hv (qo.1 h).1⟩
theorem qfxb (f g:BitVec 64) (h:L f&&&g≠0#64):subB (L (f&&&g)) (L f&&&g)=true:=qib.2 fun w hw=>by
 obtain ⟨u,hu⟩:=qag h;rw[qo,hL.get] at hu;rw[hL.get] at hw;have hw2:=qo.1 hw.2.1;refine qo.2 ⟨(hL.get _ _).2 ⟨hw.1,hw2.1,fun v hv hf=>?_⟩,hw2.2⟩
 exact Int.le_trans (hw.2.2 u hu.1.1 (qo.2 ⟨hu.1.2.1,hu.2⟩)) (hu.1.2.2 v hv hf)
theorem qgac (f g:BitVec 64):subB (L f&&&L g) (L (f|||g))=true:=qib.2 fun w hw=>by
 rw[qo,hL.get,hL.get] at hw;refine (hL.get _ _).2 ⟨hw.1.1,qdb.2 (.inl hw.1.2.1),fun v hv h=>?_⟩
 rcases qdb.1 h with h|h
 · exact hw.1.2.2 v hv h
 · exact hw.2.2.2 v hv h
end
end Am

namespace Am
open Go
def Ovr (N:Nat) (x:BitVec 64):Prop:=∀ w,has x w→w<N
def Fit (k:BitVec 64) (L:BitVec 64→BitVec 64):Prop:=k≠0#64→L (BitVec.allOnes 64)=k
theorem qbj {a b:BitVec 64}:subB a b=false↔∃ w,has a w∧¬ has b w:=by
 unfold subB;rw[decide_eq_false_iff_not]
 constructor
 · intro h;obtain ⟨w,hw⟩:=qag h;exact ⟨w,qsc.1 hw⟩
 · rintro ⟨w,hw⟩;exact quc (qsc.2 hw)
section
variable {N:Nat} {r:Nat→Int} {L:BitVec 64→BitVec 64} (hL:Lst N r L) {k f g A:BitVec 64} {t:Tbl}
include hL
theorem qwo (hf:Ovr N f) (h:f≠0#64):∃ w,has (L f) w:=by
 obtain ⟨v,hv⟩:=qag h;exact hL.ex (hf v hv) hv
theorem qqp (hk:Fit k L) {w:Nat} (h:has k w):w<N∧∀ v,v<N→r w≤r v:=by
 have:=hk (quc h);rw[← this,hL.get] at h;exact ⟨h.1,fun v hv=>h.2.2 v hv (qij.2 (Nat.lt_of_lt_of_le hv hL.le))⟩
theorem qjv (hk:Fit k L) {w u:Nat} (h:has k w) (hu:u<N) (hr:∀ v,v<N→r u≤r v):has k u:=by
 have:=hk (quc h);rw[← this,hL.get];exact ⟨hu,qij.2 (Nat.lt_of_lt_of_le hu hL.le),fun v hv _=>hr v hv⟩
theorem qly (hk:Fit k L) (ht:∀ x,Ovr N x→t k x=L x) (hf:Ovr N f) (p:Nat):revT t p k f g=true:=by
 have hfg:Ovr N (f&&&g):=fun w h=>hf w (qo.1 h).1
 unfold revT;rw[ht f hf,ht _ hfg]
 split
 · exact qjub hL f
 split
 · rw[Bool.or_eq_true,decide_eq_true_eq,decide_eq_true_eq];refine Classical.or_iff_not_imp_left.2 fun h0=>qbb fun w=>?_
   obtain ⟨u,hu⟩:=qag h0;rw[qo] at hu;obtain ⟨hu1,hu2⟩:=qqp hL hk hu.1;rw[hL.get,qo]
   constructor
   · rintro ⟨h1,h2,h3⟩;exact ⟨qjv hL hk hu.1 h1 fun v hv=>Int.le_trans (h3 u hu1 hu.2) (hu2 v hv),h2⟩
   · rintro ⟨h1,h2⟩;obtain ⟨h3,h4⟩:=qqp hL hk h1;exact ⟨h3,h2,fun v hv _=>h4 v hv⟩
 split
 · rw[Bool.or_eq_true,decide_eq_true_eq,Bool.not_eq_true',decide_eq_false_iff_not];refine Classical.or_iff_not_imp_left.2 fun h0=>?_
   obtain ⟨w,hw⟩:=qwo hL hf h0;exact quc hw
 split
 · exact qkeb hL f g
 · rw[Bool.or_eq_true,decide_eq_true_eq];exact Classical.or_iff_not_imp_left.2 fun h0=>qfxb hL f g h0
theorem qkmb (hA:∀ w,has A w↔w<N) (hk:Fit k L) (ht:∀ x,Ovr N x→t k x=k|||L (A &&& ~~~x)) (hf:Ovr N f) (hg:Ovr N g) (p:Nat):conT A t p k f g=true:=by
 have hfg:Ovr N (f&&&g):=fun w h=>hf w (qo.1 h).1
 have hm:∀ x w,has (L (A &&& ~~~x)) w↔w<N∧¬ has x w∧∀ v,v<N→¬ has x v→r w≤r v:=fun x w=>by
  rw[hL.get,qsc,hA]
  constructor
  · rintro ⟨h1,h2,h3⟩;exact ⟨h1,h2.2,fun v hv h=>h3 v hv (qsc.2 ⟨(hA v).2 hv,h⟩)⟩
  · rintro ⟨h1,h2,h3⟩;exact ⟨h1,⟨h1,h2⟩,fun v hv h=>h3 v hv (qsc.1 h).2⟩
 unfold conT;rw[ht f hf,ht g hg,ht _ hfg]
 split
 · exact qib.2 fun w h=>qdb.2 (.inl h)
 split
 · rw[Bool.or_eq_true,decide_eq_true_eq];refine Classical.or_iff_not_imp_left.2 fun h0=>qbb fun w=>?_
   obtain ⟨u,hu1,hu2⟩:=qbj.1 (Bool.eq_false_iff.2 h0);obtain ⟨hu3,hu4⟩:=qqp hL hk hu1;rw[qdb,hm];refine ⟨?_,.inl⟩;rintro (h|⟨h1,h2,h3⟩)
   · exact h
   · exact qjv hL hk hu1 h1 fun v hv=>Int.le_trans (h3 u hu3 hu2) (hu4 v hv)
 split
 · rw[Bool.or_eq_true,decide_eq_true_eq,Bool.not_eq_true'];refine Classical.or_iff_not_imp_left.2 fun h0=>qbj.2 ?_
   have:A &&& ~~~f≠0#64:=fun h=>h0 (qbb fun w=>⟨fun hw=>(hA w).2 (hf w hw),qzc.1 h w⟩)
   obtain ⟨w,hw⟩:=qwo hL (fun w h=>(hA w).1 (qsc.1 h).1) this
   exact ⟨w,qdb.2 (.inr hw),((hm f w).1 hw).2.1⟩
 split
 · refine qib.2 fun w h=>?_
   rw[qo,qdb,hm] at h;rcases h.1 with h1|h1
   · exact h1
   · exact absurd h.2 h1.2.1
 split
 · refine qib.2 fun w h=>?_
   rw[qdb,hm] at h;rw[qdb,qdb,qdb,hm,hm];rcases h with h|⟨h1,h2,h3⟩
   · exact .inl (.inl h)
   · by_cases hwf:has f w
     · have:¬ has g w:=fun hw=>h2 (qo.2 ⟨hwf,hw⟩)
       exact .inr (.inr ⟨h1,this,fun v hv hn=>h3 v hv fun hh=>hn (qo.1 hh).2⟩)
     · exact .inl (.inr ⟨h1,hwf,fun v hv hn=>h3 v hv fun hh=>hn (qo.1 hh).1⟩)
 · rw[Bool.or_eq_true];refine Classical.or_iff_not_imp_left.2 fun h0=>qib.2 fun w h=>?_
   obtain ⟨u,hu1,hu2⟩:=qbj.1 (Bool.eq_false_iff.2 h0);rw[qdb,hm] at h hu1;rw[qdb,hm];rcases h with h|⟨h1,h2,h3⟩
   · exact .inl h
   rcases hu1 with hu|⟨hu3,hu4,hu5⟩
   · obtain ⟨hu3,hu4⟩:=qqp hL hk hu;exact .inl (qjv hL hk hu h1 fun v hv=>Int.le_trans (h3 u hu3 hu2) (hu4 v hv))
   · exact .inr ⟨h1,fun hh=>h2 (qo.1 hh).1,fun v hv hn=>Int.le_trans (h3 u hu3 hu2) (hu5 v hv hn)⟩
end
section
variable {N:Nat} {r:Nat→Nat→Int} {L:Nat→BitVec 64→BitVec 64} (hL:∀ v,v<N→Lst N (r v) (L v)) (hk:∀ v,v<N→∀ w,has (L v (BitVec.allOnes 64)) w↔w=v) {t:Tbl}
 (ht:∀ k f,Ovr N k→Ovr N f→∀ w,has (t k f) w↔∃ v,v<N∧has k v∧has (L v f) w) {k f g:BitVec 64}
include hL hk ht
theorem qxnb (h4:N≤4) (ok:Ovr N k) (of:Ovr N f) (og:Ovr N g) (p:Nat):updT t p k f g=true:=by
 have ofg:Ovr N (f&&&g):=fun w h=>of w (qo.1 h).1
 have oo:∀ {a b},Ovr N a→Ovr N b→Ovr N (a|||b):=fun ha hb w h=>(qdb.1 h).elim (ha w) (hb w)
 have hself:∀ v,v<N→has f v→∀ w,has (L v f) w↔w=v:=fun v hv hf w=>by
  have h1:=(hk v hv v).2 rfl;rw[(hL v hv).get] at h1;have h1':∀ u,u<N→r v v≤r v u:=fun u hu=>h1.2.2 u hu (qij.2 (Nat.lt_of_lt_of_le hu (hL v hv).le))
  rw[(hL v hv).get]
  constructor
  · rintro ⟨h2,h3,h4⟩;refine (hk v hv w).1 (((hL v hv).get _ _).2 ⟨h2,qij.2 (Nat.lt_of_lt_of_le h2 (hL v hv).le),fun u hu _=>Int.le_trans (h4 v hv hf) (h1' u hu)⟩)
  · rintro rfl;exact ⟨hv,hf,fun u hu _=>h1' u hu⟩
 have hsub:∀ k f,Ovr N k→Ovr N f→∀ w,has (t k f) w→has f w:=fun k f ok of w h=>by
  obtain ⟨v,hv,_,h2⟩:=(ht k f ok of w).1 h;exact (((hL v hv).get _ _).1 h2).2.1
 unfold updT
 split
 · exact qib.2 (hsub k f ok of)
 split
 · rw[Bool.or_eq_true,Bool.not_eq_true',decide_eq_true_eq];refine Classical.or_iff_not_imp_left.2 fun h0=>qbb fun w=>?_
   have hs:=qib.1 (Bool.not_eq_false _ ▸ h0:subB k f=true);rw[ht k f ok of]
   constructor
   · rintro ⟨v,hv,h1,h2⟩;rw[(hself v hv (hs v h1) w).1 h2];exact h1
   · intro h;exact ⟨w,ok w h,h,(hself w (ok w h) (hs w h) w).2 rfl⟩
 split
 · rw[Bool.or_eq_true,Bool.or_eq_true,decide_eq_true_eq,decide_eq_true_eq,Bool.not_eq_true',decide_eq_false_iff_not];refine Classical.or_iff_not_imp_left.2 fun h0=>Classical.or_iff_not_imp_left.2 fun h1=>?_
   obtain ⟨v,hv⟩:=qag h0;obtain ⟨w,hw⟩:=qwo (hL v (ok v hv)) of h1;exact quc ((ht k f ok of w).2 ⟨v,ok v hv,hv,hw⟩)
 split
 · refine qib.2 fun w h=>?_
   rw[qo,ht k f ok of] at h;obtain ⟨⟨v,hv,h1,h2⟩,h3⟩:=h;exact (ht _ _ ok ofg w).2 ⟨v,hv,h1,qib.1 (qkeb (hL v hv) f g) w (qo.2 ⟨h2,h3⟩)⟩
 split
 · rw[Bool.or_eq_true,Bool.or_eq_true,decide_eq_true_eq,Bool.not_eq_true',Bool.not_eq_true'];refine Classical.or_iff_not_imp_left.2 fun h0=>Classical.or_iff_not_imp_left.2 fun h1=>qbb fun w=>?_
   have s1:=qib.1 (Bool.not_eq_false _ ▸ h0:subB (t k f) g=true);have s2:=qib.1 (Bool.not_eq_false _ ▸ h1:subB (t k g) f=true)
   have key:∀ f g,Ovr N f→Ovr N g→(∀ w,has (t k f) w→has g w)→(∀ w,has (t k g) w→has f w)→∀ w,has (t k f) w→has (t k g) w:=by
    intro f g of og s1 s2 w h;have hw:=h;rw[ht k f ok of] at h;obtain ⟨v,hv,h1,h2⟩:=h;refine (ht _ _ ok og w).2 ⟨v,hv,h1,?_⟩;rw[(hL v hv).get] at h2 ⊢;refine ⟨h2.1,s1 w hw,fun u hu hgu=>?_⟩
    obtain ⟨x,hx⟩:=(hL v hv).ex hu hgu;have hx':=hx;rw[(hL v hv).get] at hx';exact Int.le_trans (h2.2.2 x hx'.1 (s2 x ((ht _ _ ok og x).2 ⟨v,hv,h1,hx⟩))) (hx'.2.2 u hu hgu)
   exact ⟨key f g of og s1 s2 w,key g f og of s2 s1 w⟩
 split
 · rw[Bool.or_eq_true,Bool.not_eq_true'];refine Classical.or_iff_not_imp_left.2 fun h0=>qib.2 fun w h=>?_
   have h1:oneW k=true:=Bool.not_eq_false _ ▸ h0
   have h2:∃ v,v<4∧k=BitVec.ofNat 64 (2^v):=by
    simp only[oneW,Bool.or_eq_true,decide_eq_true_eq] at h1;rcases h1 with h|h|h|h
    · exact ⟨0,by omega,h⟩
    · exact ⟨1,by omega,h⟩
    · exact ⟨2,by omega,h⟩
    · exact ⟨3,by omega,h⟩
   obtain ⟨v,hv,rfl⟩:=h2
   have h3:∀ u,has (BitVec.ofNat 64 (2^v)) u→u=v:=fun u hu=>by
    have hl:=qst hu;rw[has] at hu;have hh:∀ v:_root_.Fin 4,∀ u:_root_.Fin 64,(BitVec.ofNat 64 (2^v.1)).getLsbD u.1=true→u.1=v.1:=by decide
    exact hh ⟨v,hv⟩ ⟨u,hl⟩ hu
   rw[qo,ht _ f ok of,ht _ g ok og] at h;obtain ⟨⟨a,ha,a1,a2⟩,b,hb,b1,b2⟩:=h;obtain rfl:=h3 a a1;obtain rfl:=h3 b b1;exact (ht _ _ ok (oo of og) w).2 ⟨b,hb,b1,qib.1 (qgac (hL b hb) f g) w (qo.2 ⟨a2,b2⟩)⟩
 · rw[decide_eq_true_eq];refine qbb fun w=>?_
   rw[qdb,ht _ f (oo ok og) of,ht k f ok of,ht g f og of]
   constructor
   · rintro ⟨v,hv,h1,h2⟩;exact (qdb.1 h1).elim (fun h=>.inl ⟨v,hv,h,h2⟩) fun h=>.inr ⟨v,hv,h,h2⟩
   · rintro (⟨v,hv,h1,h2⟩|⟨v,hv,h1,h2⟩)
     · exact ⟨v,hv,qdb.2 (.inl h1),h2⟩
     · exact ⟨v,hv,qdb.2 (.inr h1),h2⟩
end
end Am

namespace Am
open Go
theorem qpcb (n:Int):BitVec.ofInt 64 (IntKind.i64.wrap n)=BitVec.ofInt 64 n:=by
 apply BitVec.eq_of_toNat_eq
 rw[BitVec.toNat_ofInt,BitVec.toNat_ofInt]
 congr 1
 show IntKind.i64.wrap n % 18446744073709551616=n % 18446744073709551616
 simp only[IntKind.wrap,IntKind.bits,IntKind.signed,Bool.true_and]
 split<;>omega
def dif (v w:Int):BitVec 64:=(BitVec.ofInt 64 v ^^^ BitVec.ofInt 64 w)&&&63#64
theorem qnsb (i:Nat):(63#64:BitVec 64).getLsbD i=decide (i<6):=by
 rw[show (63#64:BitVec 64)=bitsTo (fun _=>true) 6 by decide +kernel,qi _ _ _ (by omega),Bool.and_true]
theorem qggb (v w:Int) (i:Nat):(dif v w).getLsbD i=(decide (i<6)&&((BitVec.ofInt 64 v).getLsbD i ^^ (BitVec.ofInt 64 w).getLsbD i)):=by
 unfold dif;rw[BitVec.getLsbD_and,BitVec.getLsbD_xor,qnsb,Bool.and_comm]
theorem qnl:∀ n,ones 0#64 n=0
 | 0=>rfl
 | n+1=>by rw[ones,qnl n];simp
theorem qzdb {a b:BitVec 64} (h:∀ w,has a w→has b w):∀ n,ones a n≤ones b n
 | 0=>Nat.le_refl _
 | n+1=>by
  have:=qzdb h n;simp only[ones];cases ha:a.getLsbD n with
  | false=>simp;omega
  | true=>rw[h n ha];omega
theorem qwhb {a b:BitVec 64} (h:∀ w,has a w→has b w) {k:Nat} (hb:has b k) (ha:¬ has a k):∀ n,k<n→ones a n<ones b n
 | 0,hk=>by omega
 | n+1,hk=>by
  simp only[ones]
  by_cases hkn:k=n
  · subst hkn;have:=qzdb h k
    have h1:a.getLsbD k=false:=by cases hx:a.getLsbD k with
     | false=>rfl
     | true=>exact absurd hx ha
    have h2:b.getLsbD k=true:=hb;rw[h1,h2];simp only[Bool.toNat_false,Bool.toNat_true];omega
  · have:=qwhb h hb ha n (by omega)
    cases hx:a.getLsbD n with
    | false=>simp;omega
    | true=>rw[h n hx];omega
theorem qrk {a b:BitVec 64} (h:∀ w,has a w→has b w) (hne:a≠b):ones a 64<ones b 64:=by
 obtain ⟨k,hk⟩:∃ k,has b k∧¬ has a k:=Classical.byContradiction fun hn=>hne (qbb fun w=>⟨h w,fun hb=>Classical.byContradiction fun ha=>hn ⟨w,hb,ha⟩⟩)
 exact qwhb h hk.1 hk.2 64 (qst hk.1)
theorem qgrb (x:BitVec 64) (h:∀ w,has x w→w<6):∀ k,ones x (6+k)=ones x 6
 | 0=>rfl
 | k+1=>by
  show ones x (6+k)+_=_
  rw[qgrb x h k];cases hx:x.getLsbD (6+k) with
  | false=>simp
  | true=>have:=h _ hx;omega
theorem qxdc (v w:Int):∀ i,has (dif v w) i→i<6:=fun i h=>by
 rw[has,qggb,Bool.and_eq_true,decide_eq_true_eq] at h;exact h.1
theorem qup (v:Int):dif v v=0#64:=qvc.2 fun w h=>by rw[has,qggb] at h;simp at h
theorem qrxb {v w:Nat} (hv:v<64) (hw:w<64):dif v w=BitVec.ofNat 64 (v ^^^ w):=by
 have h:v ^^^ w<2^6:=Nat.xor_lt_two_pow (by omega) (by omega)
 apply BitVec.eq_of_toNat_eq
 unfold dif
 rw[qyz,qyz,BitVec.toNat_and,show (63#64:BitVec 64).toNat=2^6-1 from rfl,Nat.and_two_pow_sub_one_eq_mod,BitVec.toNat_xor,BitVec.toNat_ofNat,BitVec.toNat_ofNat,BitVec.toNat_ofNat,Nat.mod_eq_of_lt (by omega:v<2^64),Nat.mod_eq_of_lt (by omega:w<2^64),
  Nat.mod_eq_of_lt h,Nat.mod_eq_of_lt (by omega)]
theorem qoz {v w:Nat} (hv:v<64) (hw:w<64):dif v w=0#64↔v=w:=by
 rw[qrxb hv hw];have h:v ^^^ w<2^6:=Nat.xor_lt_two_pow (by omega) (by omega)
 constructor
 · intro e;have e1:(BitVec.ofNat 64 (v ^^^ w)).toNat=0:=by rw[e];rfl
   rw[BitVec.toNat_ofNat,Nat.mod_eq_of_lt (by omega)] at e1
   refine Nat.eq_of_testBit_eq fun i=>?_
   have e2:(v ^^^ w).testBit i=false:=by rw[e1];simp
   rw[Nat.testBit_xor] at e2;cases hv':v.testBit i<;>cases hw':w.testBit i<;>simp_all
 · rintro rfl;simp
def nearP (d:Int) (a b:BitVec 64):Bool:=if d=1 then decide (ones a 64<ones b 64) else if d=2 then decide (a &&& ~~~b=0#64) && !decide (a=b) else if d=3 then decide (a=0#64) && !decide (b=0#64) else false
theorem qql {d:Int} {a b:BitVec 64} (h:nearP d a b=true):ones a 64<ones b 64:=by
 unfold nearP at h
 split at h
 · exact of_decide_eq_true h
 split at h
 · simp only[Bool.and_eq_true,decide_eq_true_eq,Bool.not_eq_true',decide_eq_false_iff_not] at h;exact qrk (qzc.1 h.1) h.2
 split at h
 · simp only[Bool.and_eq_true,decide_eq_true_eq,Bool.not_eq_true',decide_eq_false_iff_not] at h;obtain ⟨rfl,h2⟩:=h;exact qrk (fun w hw=>by simp[has] at hw) fun e=>h2 e.symm
 · cases h
theorem qegb {d:Int} {a b c:BitVec 64} (h1:nearP d a b=true) (h2:nearP d b c=true):nearP d a c=true:=by
 have l1:=qql h1;have l2:=qql h2;unfold nearP at h1 h2 ⊢
 split at h1
 · rename_i hd;rw[if_pos hd];exact decide_eq_true (by omega)
 rename_i hd1
 split at h1
 · rename_i hd;rw[if_neg hd1,if_pos hd] at h2 ⊢;simp only[Bool.and_eq_true,decide_eq_true_eq,Bool.not_eq_true',decide_eq_false_iff_not] at h1 h2 ⊢;refine ⟨qzc.2 fun w hw=>qzc.1 h2.1 w (qzc.1 h1.1 w hw),?_⟩
   rintro rfl;omega
 rename_i hd2
 split at h1
 · rename_i hd;rw[if_neg hd1,if_neg hd2,if_pos hd] at h2 ⊢;simp only[Bool.and_eq_true,decide_eq_true_eq,Bool.not_eq_true',decide_eq_false_iff_not] at h1 h2 ⊢;exact ⟨h1.1,h2.2⟩
 · cases h1
theorem qzhb {d:Int} (h1:1≤d) (h3:d≤3) {b:BitVec 64} (hb:b≠0#64):nearP d 0#64 b=true:=by
 have hl:ones 0#64 64<ones b 64:=qrk (fun w hw=>by simp[has] at hw) fun e=>hb e.symm
 unfold nearP;rcases (by omega:d=1∨d=2∨d=3) with rfl|rfl|rfl
 · simp[hl]
 · simp;exact fun e=>hb e.symm
 · simp[hb]
def nearS (n:Nat) (v:Int) (X:BitVec 64) (d:Int):BitVec 64:=bitsTo (fun w=>X.getLsbD w&&(List.range n).all (fun u=>!(X.getLsbD u&&nearP d (dif v u) (dif v w)))) n
theorem qjb {n:Nat} (hn:n≤64) {v:Int} {X:BitVec 64} {d:Int} {w:Nat}:has (nearS n v X d) w↔w<n∧has X w∧∀ u,u<n→has X u→¬ nearP d (dif v u) (dif v w)=true:=by
 unfold nearS;rw[qab hn,Bool.and_eq_true,List.all_eq_true]
 constructor
 · rintro ⟨h1,h2,h3⟩;refine ⟨h1,h2,fun u hu hx hc=>?_⟩
   have:=h3 u (List.mem_range.2 hu);rw[hx,hc] at this;cases this
 · rintro ⟨h1,h2,h3⟩;refine ⟨h1,h2,fun u hu=>?_⟩
   have hu:=List.mem_range.1 hu;cases hx:X.getLsbD u with
   | false=>rfl
   | true=>
    have:=h3 u hu hx;simp only[Bool.not_eq_true] at this;rw[this];rfl
theorem qkub {n:Nat} (hn:n≤64) (v:Int) (X:BitVec 64) (d:Int):∀ (k u:Nat),ones (dif v u) 64≤k→u<n→has X u→∃ w,has (nearS n v X d) w∧(w=u∨nearP d (dif v w) (dif v u)=true):=by
 intro k
 induction k with
 | zero=>
  intro u hk hu hx;exact ⟨u,(qjb hn).2 ⟨hu,hx,fun x _ _ hc=>by have:=qql hc;omega⟩,.inl rfl⟩
 | succ k ih=>
  intro u hk hu hx
  by_cases hb:∃ x,x<n∧has X x∧nearP d (dif v x) (dif v u)=true
  · obtain ⟨x,h1,h2,h3⟩:=hb;obtain ⟨w,hw,hor⟩:=ih x (by have:=qql h3;omega) h1 h2
    refine ⟨w,hw,.inr ?_⟩;rcases hor with rfl|h
    · exact h3
    · exact qegb h h3
  · exact ⟨u,(qjb hn).2 ⟨hu,hx,fun x h1 h2 h3=>hb ⟨x,h1,h2,h3⟩⟩,.inl rfl⟩
theorem qay {n:Nat} (hn:n≤64) (v:Int) (X:BitVec 64) (d:Int) {u:Nat} (hu:u<n) (hx:has X u):∃ w,has (nearS n v X d) w∧(w=u∨nearP d (dif v w) (dif v u)=true):=qkub hn v X d _ u (Nat.le_refl _) hu hx
def unionT (n:Nat) (K X:BitVec 64) (d:Int) (i:Nat):BitVec 64:=bitsTo (fun w=>(List.range i).any (fun v=>K.getLsbD v&&(nearS n v X d).getLsbD w)) n
def unionS (n:Nat) (K X:BitVec 64) (d:Int):BitVec 64:=unionT n K X d n
theorem qvbb {n:Nat} (hn:n≤64) {K X:BitVec 64} {d:Int} {i w:Nat}:has (unionT n K X d i) w↔∃ v,v<i∧has K v∧has (nearS n v X d) w:=by
 unfold unionT;rw[qab hn,List.any_eq_true]
 constructor
 · rintro ⟨h1,v,h2,h3⟩;rw[Bool.and_eq_true] at h3;exact ⟨v,List.mem_range.1 h2,h3.1,h3.2⟩
 · rintro ⟨v,h1,h2,h3⟩;exact ⟨((qjb hn).1 h3).1,v,List.mem_range.2 h1,by rw[Bool.and_eq_true];exact ⟨h2,h3⟩⟩
theorem qkb {n:Nat} (hn:n≤64) {K X:BitVec 64} {d:Int} {w:Nat}:has (unionS n K X d) w↔∃ v,v<n∧has K v∧has (nearS n v X d) w:=qvbb hn
section
variable {n:Nat} (hn:n≤64) {K A B M X Y:BitVec 64} {d:Int} {v:Int}
include hn
theorem qgx {w:Nat} (h:has (nearS n v M d) w):has M w∧w<n:=⟨((qjb hn).1 h).2.1,((qjb hn).1 h).1⟩
theorem qml {w:Nat} (h:has (unionS n A M d) w):has M w∧w<n:=by
 obtain ⟨v,_,_,h⟩:=(qkb hn).1 h;exact qgx hn h
theorem upd1:unionS n A M d &&& ~~~M=0#64:=qzc.2 fun w h=>(qml hn h).1
theorem qmlb (d1:1≤d) (d3:d≤3) {u:Nat} (hu:u<n) (hm:has M u) (w:Nat):has (nearS n u M d) w↔w=u:=by
 rw[qjb hn]
 constructor
 · rintro ⟨h1,h2,h3⟩;refine Classical.byContradiction fun hne=>h3 u hu hm ?_
   rw[qup];exact qzhb d1 d3 fun e=>hne ((qoz (by omega) (by omega)).1 e).symm
 · rintro rfl;refine ⟨hu,hm,fun x _ _ hc=>?_⟩
   rw[qup] at hc;have:=qql hc;rw[qnl] at this;omega
theorem upd2 (d1:1≤d) (d3:d≤3) (hA:∀ w,has A w→w<n) (h:A &&& ~~~M=0#64):unionS n A M d=A:=by
 refine qbb fun w=>?_
 rw[qkb hn]
 constructor
 · rintro ⟨v,h1,h2,h3⟩;rw[qmlb hn d1 d3 h1 (qzc.1 h v h2)] at h3;subst h3;exact h2
 · intro hw;exact ⟨w,hA w hw,hw,(qmlb hn d1 d3 (hA w hw) (qzc.1 h w hw) w).2 rfl⟩
theorem upd3 (hA:∀ w,has A w→w<n) (hM:∀ w,has M w→w<n) (h1:A≠0#64) (h2:M≠0#64):unionS n A M d≠0#64:=by
 obtain ⟨v,hv⟩:=qag h1;obtain ⟨u,hu⟩:=qag h2;obtain ⟨w,hw,_⟩:=qay hn (v:Int) M d (hM u hu) hu;exact quc ((qkb hn).2 ⟨v,hA v hv,hv,hw⟩)
theorem upd8:unionS n (A|||B) M d=unionS n A M d|||unionS n B M d:=by
 refine qbb fun w=>?_
 rw[qdb,qkb hn,qkb hn,qkb hn]
 constructor
 · rintro ⟨v,h1,h2,h3⟩;rw[qdb] at h2;rcases h2 with h2|h2
   · exact .inl ⟨v,h1,h2,h3⟩
   · exact .inr ⟨v,h1,h2,h3⟩
 · rintro (⟨v,h1,h2,h3⟩|⟨v,h1,h2,h3⟩)
   · exact ⟨v,h1,qdb.2 (.inl h2),h3⟩
   · exact ⟨v,h1,qdb.2 (.inr h2),h3⟩
theorem upd5:unionS n A M d&&&K &&& ~~~(unionS n A (M&&&K) d)=0#64:=by
 refine qzc.2 fun w h=>?_
 rw[qo,qkb hn] at h;obtain ⟨⟨v,h1,h2,h3⟩,hk⟩:=h;obtain ⟨a,b,c⟩:=(qjb hn).1 h3;exact (qkb hn).2 ⟨v,h1,h2,(qjb hn).2 ⟨a,qo.2 ⟨b,hk⟩,fun u hu hx=>c u hu (qo.1 hx).1⟩⟩
theorem qsac (h1:unionS n A M d &&& ~~~K=0#64) (h2:unionS n A K d &&& ~~~M=0#64) (w:Nat) (h:has (unionS n A M d) w):has (unionS n A K d) w:=by
 obtain ⟨v,hv,ha,h3⟩:=(qkb hn).1 h;obtain ⟨a,b,c⟩:=(qjb hn).1 h3;refine (qkb hn).2 ⟨v,hv,ha,(qjb hn).2 ⟨a,qzc.1 h1 w h,fun u hu hx hc=>?_⟩⟩
 obtain ⟨u',hu',hor⟩:=qay hn (v:Int) K d hu hx;have hm:=qzc.1 h2 u' ((qkb hn).2 ⟨v,hv,ha,hu'⟩);refine c u' (qgx hn hu').2 hm ?_;rcases hor with rfl|h
 · exact hc
 · exact qegb h hc
theorem upd6 (h1:unionS n A M d &&& ~~~K=0#64) (h2:unionS n A K d &&& ~~~M=0#64):unionS n A M d=unionS n A K d:=
 qbb fun w=>⟨qsac hn h1 h2 w,qsac hn h2 h1 w⟩
theorem qwm {v:Nat} (hv:v<n):unionS n (1#64 <<< v) M d=nearS n v M d:=by
 refine qbb fun w=>?_
 rw[qkb hn]
 constructor
 · rintro ⟨u,h1,h2,h3⟩;rw[has,qeb _ _ (by omega),decide_eq_true_eq] at h2
   subst h2;exact h3
 · intro h;exact ⟨v,hv,by rw[has,qeb _ _ (by omega)];simp,h⟩
theorem upd7:nearS n v M d&&&nearS n v K d &&& ~~~(nearS n v (M|||K) d)=0#64:=by
 refine qzc.2 fun w h=>?_
 rw[qo,qjb hn,qjb hn] at h;obtain ⟨⟨a,b,c⟩,_,b',c'⟩:=h;refine (qjb hn).2 ⟨a,qdb.2 (.inl b),fun u hu hx=>?_⟩
 rcases qdb.1 hx with hx|hx
 · exact c u hu hx
 · exact c' u hu hx
end
def okN (v:Int) (l:List Nat) (d:Int) (w:Nat):Bool:=l.all fun u=>!nearP d (dif v u) (dif v w)
def accN (v:Int) (l:List Nat) (d:Int) (i:Nat):BitVec 64:=bitsTo (fun w=>(l.take i).contains w&&okN v l d w) 64
theorem qqh {v:Int} {l:List Nat} {d:Int} {i w:Nat}:has (accN v l d i) w↔w<64∧w∈l.take i∧okN v l d w=true:=by
 unfold accN;rw[qab (by omega),Bool.and_eq_true]
 simp
theorem qrbc (v:Int) (l:List Nat) (d:Int):accN v l d 0=0#64:=qvc.2 fun w h=>by
 rw[qqh] at h;simp at h
theorem qjyb {v:Int} {l:List Nat} {d:Int} {i:Nat} (hi:i<l.length) (hw:l[i]<64):accN v l d (i+1)=if okN v l d l[i]=true then accN v l d i|||1#64 <<< l[i] else accN v l d i:=by
 have ht:∀ w,w∈l.take (i+1)↔w∈l.take i∨w=l[i]:=fun w=>by
  rw[List.take_add_one,List.getElem?_eq_getElem hi];simp only[List.mem_append,Option.toList_some,List.mem_singleton]
 have e1:∀ w,has (1#64 <<< l[i]) w↔w=l[i]:=fun w=>by rw[has,qeb _ _ hw,decide_eq_true_eq]
 refine qbb fun w=>?_
 rw[qqh,ht]
 by_cases ho:okN v l d l[i]=true
 · rw[if_pos ho,qdb,qqh,e1]
   constructor
   · rintro ⟨a,b|b,c⟩
     · exact .inl ⟨a,b,c⟩
     · exact .inr b
   · rintro (⟨a,b,c⟩|rfl)
     · exact ⟨a,.inl b,c⟩
     · exact ⟨hw,.inr rfl,ho⟩
 · rw[if_neg ho,qqh]
   constructor
   · rintro ⟨a,b|rfl,c⟩
     · exact ⟨a,b,c⟩
     · exact absurd c ho
   · rintro ⟨a,b,c⟩;exact ⟨a,.inl b,c⟩
theorem qgb {X:BitVec 64} {n w:Nat}:w∈worldsTo X n↔w<n∧has X w:=by
 unfold worldsTo;rw[List.mem_filter,List.mem_range]
theorem qqeb {n:Nat} (hn:n≤64) (v:Int) (X:BitVec 64) (d:Int):accN v (worldsTo X n) d (worldsTo X n).length=nearS n v X d:=by
 refine qbb fun w=>?_
 rw[qqh,qjb hn,List.take_length,qgb];unfold okN;rw[List.all_eq_true]
 constructor
 · rintro ⟨a,b,c⟩;refine ⟨b.1,b.2,fun u hu hx hc=>?_⟩
   have:=c u (qgb.2 ⟨hu,hx⟩);rw[hc] at this;cases this
 · rintro ⟨a,b,c⟩;refine ⟨by omega,⟨a,b⟩,fun u hu=>?_⟩
   rw[qgb] at hu;have:=c u hu.1 hu.2
   simpa using this
theorem qkv {n:Nat} (hn:n≤64) (K X:BitVec 64) (d:Int) (i:Nat) (hi:i<(worldsTo K n).length) :
 bitsTo (fun w=>((worldsTo K n).take (i+1)).any fun v=>(nearS n v X d).getLsbD w) n=bitsTo (fun w=>((worldsTo K n).take i).any fun v=>(nearS n v X d).getLsbD w) n|||nearS n ((worldsTo K n)[i]:Nat) X d:=by
 refine qbb fun w=>?_
 rw[qdb,qab hn,qab hn,List.take_add_one,List.getElem?_eq_getElem hi,List.any_append,Bool.or_eq_true];simp only[Option.toList_some,List.any_cons,List.any_nil,Bool.or_false]
 constructor
 · rintro ⟨a,b|b⟩
   · exact .inl ⟨a,b⟩
   · exact .inr b
 · rintro (⟨a,b⟩|b)
   · exact ⟨a,.inl b⟩
   · exact ⟨((qjb hn).1 b).1,.inr b⟩
theorem qgcb {n:Nat} (hn:n≤64) (K X:BitVec 64) (d:Int):bitsTo (fun w=>((worldsTo K n).take (worldsTo K n).length).any fun v=>(nearS n v X d).getLsbD w) n=unionS n K X d:=by
 refine qbb fun w=>?_
 rw[qab hn,qkb hn,List.take_length,List.any_eq_true]
 constructor
 · rintro ⟨a,v,b,c⟩;rw[qgb] at b;exact ⟨v,b.1,b.2,c⟩
 · rintro ⟨v,a,b,c⟩;exact ⟨((qjb hn).1 c).1,v,qgb.2 ⟨a,b⟩,c⟩
end Am

namespace Am
open Go
theorem qonb {n:Nat} {k:BitVec 64} (h:oneW k=true):∃ v,v<4∧k=1#64 <<< v:=by
 simp only[oneW,Bool.or_eq_true,decide_eq_true_eq] at h;rcases h with h|h|h|h
 · exact ⟨0,by omega,h⟩
 · exact ⟨1,by omega,h⟩
 · exact ⟨2,by omega,h⟩
 · exact ⟨3,by omega,h⟩
theorem qiib {n:Nat} (hn:n≤64) {d:Int} (d1:1≤d) (d3:d≤3) {t:Tbl} (ht:∀ k f,Ovr n k→Ovr n f→t k f=unionS n k f d) {k f g:BitVec 64}
 (ok:Ovr n k) (of:Ovr n f) (og:Ovr n g) (p:Nat):updT t p k f g=true:=by
 have ofg:Ovr n (f&&&g):=fun w h=>of w (qo.1 h).1
 have oo:∀ {a b},Ovr n a→Ovr n b→Ovr n (a|||b):=fun ha hb w h=>(qdb.1 h).elim (ha w) (hb w)
 unfold updT;rw[ht k f ok of,ht k g ok og,ht g f og of,ht _ _ ok ofg,ht _ _ ok (oo of og),ht _ _ (oo ok og) of]
 split
 · exact decide_eq_true (upd1 hn)
 split
 · rw[Bool.or_eq_true,Bool.not_eq_true',decide_eq_true_eq];exact Classical.or_iff_not_imp_left.2 fun h0=>upd2 hn d1 d3 ok (of_decide_eq_true (Bool.not_eq_false _ ▸ h0:subB k f=true))
 split
 · rw[Bool.or_eq_true,Bool.or_eq_true,decide_eq_true_eq,decide_eq_true_eq,Bool.not_eq_true',decide_eq_false_iff_not];exact Classical.or_iff_not_imp_left.2 fun h0=>Classical.or_iff_not_imp_left.2 fun h1=>upd3 hn ok of h0 h1
 split
 · exact decide_eq_true (upd5 hn)
 split
 · rw[Bool.or_eq_true,Bool.or_eq_true,decide_eq_true_eq,Bool.not_eq_true',Bool.not_eq_true'];exact Classical.or_iff_not_imp_left.2 fun h0=>Classical.or_iff_not_imp_left.2 fun h1=>upd6 hn (of_decide_eq_true (Bool.not_eq_false _ ▸ h0:subB _ g=true)) (of_decide_eq_true (Bool.not_eq_false _ ▸ h1:subB _ f=true))
 split
 · rw[Bool.or_eq_true,Bool.not_eq_true'];refine Classical.or_iff_not_imp_left.2 fun h0=>?_
   obtain ⟨v,hv,rfl⟩:=qonb (n:=n) (Bool.not_eq_false _ ▸ h0:oneW k=true);have hvn:v<n:=ok v (by rw[has,qeb _ _ (by omega)];simp)
   rw[qwm hn hvn,qwm hn hvn,qwm hn hvn];exact decide_eq_true (upd7 hn)
 · exact decide_eq_true (upd8 hn)
end Am

namespace Am
open Go
def two (a b:Nat):BitVec 64:=1#64 <<< a|||1#64 <<< b
theorem qbe {a b w:Nat} (ha:a<64) (hb:b<64):has (two a b) w↔w=a∨w=b:=by
 unfold two;rw[qdb,has,has,qeb _ _ ha,qeb _ _ hb,decide_eq_true_eq,decide_eq_true_eq]
def rkc (c:BitVec 64→BitVec 64) (N:Nat) (a:Nat):Nat:=(List.range N).countP fun b=>decide (c (two a b)&&&two a b=1#64 <<< b) && !decide (a=b)
structure Cho (N:Nat) (c:BitVec 64→BitVec 64):Prop where
 le:N≤64
 sub:∀ f w,Ovr N f→has (c f) w→has f w
 some:∀ f,Ovr N f→f≠0#64→∃ w,has (c f) w
 up:∀ f g w,Ovr N f→Ovr N g→has (c f) w→has g w→has (c (f&&&g)) w
 cap:∀ f g u w,Ovr N f→Ovr N g→has (c f) u→has g u→has (c (f&&&g)) w→has (c f) w
section
variable {N:Nat} {c:BitVec 64→BitVec 64} (h:Cho N c)
include h
theorem Cho.ovr {a b:Nat} (ha:a<N) (hb:b<N):Ovr N (two a b):=fun w hw=>by
 have:=h.le;rcases (qbe (by omega) (by omega)).1 hw with rfl|rfl<;>assumption
theorem Cho.cut {f:BitVec 64} {a b:Nat} (ha:a<N) (hb:b<N) (fa:has f a) (fb:has f b):f&&&two a b=two a b:=by
 have:=h.le;refine qbb fun w=>?_
 rw[qo,qbe (by omega) (by omega)]
 constructor
 · exact fun x=>x.2
 · rintro (rfl|rfl)
   · exact ⟨fa,.inl rfl⟩
   · exact ⟨fb,.inr rfl⟩
theorem Cho.comm {a b:Nat} (ha:a<N) (hb:b<N):two a b=two b a:=qbb fun w=>by
 have:=h.le;rw[qbe (by omega) (by omega),qbe (by omega) (by omega)];exact or_comm
def lec (c:BitVec 64→BitVec 64) (a b:Nat):Prop:=has (c (two a b)) a
theorem Cho.total {a b:Nat} (ha:a<N) (hb:b<N):lec c a b∨lec c b a:=by
 have hN:=h.le;obtain ⟨w,hw⟩:=h.some (two a b) (h.ovr ha hb) (quc ((qbe (by omega) (by omega)).2 (.inl rfl)))
 rcases (qbe (by omega) (by omega)).1 (h.sub _ _ (h.ovr ha hb) hw) with rfl|rfl
 · exact .inl hw
 · right;unfold lec;rw[h.comm hb ha];exact hw
theorem Cho.down {f:BitVec 64} (hf:Ovr N f) {w v:Nat} (hw:has (c f) w) (hv:has f v):lec c w v:=by
 have hN:=h.le;have fw:=h.sub _ _ hf hw;have:=h.up f (two w v) w hf (h.ovr (hf w fw) (hf v hv)) hw ((qbe (by have:=hf w fw;omega) (by have:=hf v hv;omega)).2 (.inl rfl))
 rwa [h.cut (hf w fw) (hf v hv) fw hv] at this
theorem Cho.step {f:BitVec 64} (hf:Ovr N f) {u w:Nat} (hu:has (c f) u) (fw:has f w) (hl:lec c w u):has (c f) w:=by
 have hN:=h.le;have fu:=h.sub _ _ hf hu;have hwN:=hf w fw;have huN:=hf u fu;refine h.cap f (two w u) u w hf (h.ovr hwN huN) hu ((qbe (by omega) (by omega)).2 (.inr rfl)) ?_
 rw[h.cut hwN huN fw fu];exact hl
theorem Cho.trans {a b d:Nat} (ha:a<N) (hb:b<N) (hd:d<N) (h1:lec c a b) (h2:lec c b d):lec c a d:=by
 have hN:=h.le
 have hm:∀ w,has (two a b|||two b d) w↔w=a∨w=b∨w=d:=fun w=>by
  rw[qdb,qbe (by omega) (by omega),qbe (by omega) (by omega)]
  constructor
  · rintro ((h|h)|(h|h))<;>simp[h]
  · rintro (h|h|h)<;>simp[h]
 have ho:Ovr N (two a b|||two b d):=fun w hw=>by
  rcases (hm w).1 hw with rfl|rfl|rfl<;>assumption
 have fa:=(hm a).2 (.inl rfl);have fb:=(hm b).2 (.inr (.inl rfl));have fd:=(hm d).2 (.inr (.inr rfl));obtain ⟨u,hu⟩:=h.some _ ho (quc fa)
 have key:has (c (two a b|||two b d)) a:=by
  rcases (hm u).1 (h.sub _ _ ho hu) with rfl|rfl|rfl
  · exact hu
  · exact h.step ho hu fa h1
  · exact h.step ho (h.step ho hu fb h2) fa h1
 exact h.down ho key fd
theorem Cho.before {a b:Nat} (ha:a<N) (hb:b<N):(decide (c (two a b)&&&two a b=1#64 <<< b) && !decide (a=b))=true↔¬ lec c a b:=by
 have hN:=h.le;rw[Bool.and_eq_true,decide_eq_true_eq,Bool.not_eq_true',decide_eq_false_iff_not]
 have hs:c (two a b)&&&two a b=c (two a b):=qbb fun w=>by
  rw[qo];exact ⟨fun x=>x.1,fun x=>⟨x,h.sub _ _ (h.ovr ha hb) x⟩⟩
 rw[hs]
 constructor
 · rintro ⟨h1,h2⟩ hl;unfold lec at hl;rw[h1,has,qeb _ _ (by omega),decide_eq_true_eq] at hl
   exact h2 hl
 · intro hl;refine ⟨qbb fun w=>?_,fun e=>?_⟩
   · have hw1 : has (1#64 <<< b) w ↔ w = b := by
      rw[has,qeb _ _ (by omega),decide_eq_true_eq]
     rw[hw1]
     constructor
     · intro hw;rcases (qbe (by omega) (by omega)).1 (h.sub _ _ (h.ovr ha hb) hw) with rfl|rfl
       · exact absurd hw hl
       · rfl
     · rintro rfl;have:=(h.total ha hb).resolve_left hl;unfold lec at this
       rwa [h.comm hb ha] at this
   · subst e;exact hl ((h.total ha ha).elim id id)
omit h in
theorem qclb {l:List Nat} {p q:Nat→Bool} (hpq:∀ x∈l,p x=true→q x=true) {y:Nat} (hy:y∈l) (hp:p y=false) (hq:q y=true):l.countP p<l.countP q:=by
 induction l with
 | nil=>cases hy
 | cons a l ih=>
  have hm:l.countP p≤l.countP q:=List.countP_mono_left fun x hx=>hpq x (List.mem_cons_of_mem _ hx)
  rw[List.countP_cons,List.countP_cons];rcases List.mem_cons.1 hy with rfl|hy
  · rw[hp,hq];simp;omega
  · have:=ih (fun x hx=>hpq x (List.mem_cons_of_mem _ hx)) hy
    have:=hpq a List.mem_cons_self;cases ha:p a
    · simp;split<;>omega
    · rw[this ha];simp;omega
theorem Cho.rk {a b:Nat} (ha:a<N) (hb:b<N):rkc c N a≤rkc c N b↔lec c a b:=by
 unfold rkc
 constructor
 · intro hr;refine Classical.byContradiction fun hl=>?_
   have hl':=(h.total ha hb).resolve_left hl;refine absurd hr (Nat.not_le.2 (qclb (y:=b) (fun x hx hp=>?_) (List.mem_range.2 hb) ?_ ((h.before ha hb).2 hl)))
   · have hx:=List.mem_range.1 hx;exact (h.before ha hx).2 fun hax=>(h.before hb hx).1 hp (h.trans hb ha hx hl' hax)
   · exact Bool.eq_false_iff.2 fun hp=>(h.before hb hb).1 hp ((h.total hb hb).elim id id)
 · intro hl;refine List.countP_mono_left fun x hx hp=>?_
   have hx:=List.mem_range.1 hx;exact (h.before hb hx).2 fun hbx=>(h.before ha hx).1 hp (h.trans ha hb hx hl hbx)
end
section
variable {N:Nat} (hN:N≤64) {t:Tbl} {k A:BitVec 64} (hA:∀ w,has A w↔w<N) (ok:Ovr N k) (ot:∀ f,Ovr N f→Ovr N (t k f))
include hN hA ok
end
end Am

namespace Am
open Go
def setLv (q:List Int) (b:BitVec 64) (l:Nat):List Int:=(List.range q.length).map fun w=>if b.getLsbD w=true then (l:Int) else q.getD w 0
def lvlR (c:BitVec 64→BitVec 64):Nat→Nat→BitVec 64→List Int→Option (List Int)
 | 0,_,S,q=>if S=0#64 then some q else none
 | m+1,l,S,q=>if S=0#64 then some q else if c S&&&S=0#64 then none else lvlR c m (l+1) (S &&& ~~~(c S&&&S)) (setLv q (c S&&&S) l)
def Chs (N:Nat) (o:List Int) (c:BitVec 64→BitVec 64):Prop:=∀ S,Ovr N S→∀ w,has (c S) w↔w<N∧has S w∧∀ v,v<N→has S v→o.getD w 0≤o.getD v 0
section
variable {N:Nat} {o:List Int} {c:BitVec 64→BitVec 64} (hN:N≤64) (ho:o.length=N) (hc:Chs N o c)
include hN ho hc
structure LvI (l:Nat) (S:BitVec 64) (q:List Int):Prop where
 len:q.length=N
 ovr:Ovr N S
 lt:∀ w,w<N→¬ has S w→q.getD w 0<(l:Int)
 ord:∀ w v,w<N→v<N→¬ has S w→¬ has S v→(q.getD w 0<q.getD v 0↔o.getD w 0<o.getD v 0)
 sep:∀ w v,w<N→v<N→¬ has S w→has S v→o.getD w 0<o.getD v 0
end
end Am

namespace Am
open Go
theorem qir (a b:Nat):List.range (a*b)=(List.range a).flatMap fun i=>(List.range b).map fun j=>i*b+j:=by
 induction a with
 | zero=>simp
 | succ a ih=>rw[Nat.succ_mul,List.range_add,ih,List.range_succ,List.flatMap_append];simp
theorem qpg {α β:Type} {l:List α} {f g:α→List β} (h:∀ x∈l,f x=g x):l.flatMap f=l.flatMap g:=by rw[List.flatMap_def,List.flatMap_def,List.map_congr_left h]
def trip (N s:Nat):List (Nat × Nat × Nat):=(List.range N).flatMap fun k=>(List.range N).flatMap fun f=>(List.range s).map fun g=>(k,f,g)
theorem qddb {N s:Nat} (hN:0<N) (hs:0<s):(List.range (N*N*s)).map (fun n=>(n / s / N,n / s % N,n % s))=trip N s:=by
 rw[Nat.mul_assoc,qir,List.map_flatMap];unfold trip;refine qpg fun k _=>?_
 rw[qir,List.map_flatMap,List.map_flatMap];refine qpg fun f hf=>?_
 have hf:=List.mem_range.1 hf;rw[List.map_map,List.map_map];refine List.map_congr_left fun g hg=>?_
 have hg:=List.mem_range.1 hg
 have e1:(k*(N*s)+(f*s+g)) / s=k*N+f:=by
  rw[show k*(N*s)+(f*s+g)=g+(k*N+f)*s by rw[Nat.add_mul,Nat.mul_assoc];omega,Nat.add_mul_div_right _ _ hs,Nat.div_eq_of_lt hg,Nat.zero_add]
 have e2:(k*(N*s)+(f*s+g)) % s=g:=by
  rw[show k*(N*s)+(f*s+g)=g+(k*N+f)*s by rw[Nat.add_mul,Nat.mul_assoc];omega,Nat.add_mul_mod_self_right,Nat.mod_eq_of_lt hg]
 have e3:(k*N+f) / N=k:=by rw[Nat.add_comm,Nat.add_mul_div_right _ _ hN,Nat.div_eq_of_lt hf,Nat.zero_add]
 have e4:(k*N+f) % N=f:=by rw[Nat.add_comm,Nat.add_mul_mod_self_right,Nat.mod_eq_of_lt hf]
 simp only[Function.comp_apply,e1,e2,e3,e4]
theorem qyob {N s:Nat} {x:Nat × Nat × Nat}:x∈trip N s↔x.1<N∧x.2.1<N∧x.2.2<s:=by
 obtain ⟨k,f,g⟩:=x;simp only[trip,List.mem_flatMap,List.mem_map,List.mem_range,Prod.mk.injEq]
 constructor
 · rintro ⟨a,ha,b,hb,c,hc,rfl,rfl,rfl⟩;exact ⟨ha,hb,hc⟩
 · rintro ⟨ha,hb,hc⟩;exact ⟨k,ha,f,hb,g,hc,rfl,rfl,rfl⟩
abbrev Brc:=Nat × Nat × Nat × Nat
def Brc.lt (a b:Brc):Prop:=a.1<b.1∨a.1=b.1∧(a.2.1<b.2.1∨a.2.1=b.2.1∧(a.2.2.1<b.2.2.1∨a.2.2.1=b.2.2.1∧a.2.2.2<b.2.2.2))
def brL (h:Nat→Nat→Nat→Nat→Bool) (all fst N:Nat):List Brc:=(List.range all).flatMap fun i=>((trip N (if i<fst then 1 else N)).filter fun x=>!h (i+1) x.1 x.2.1 x.2.2).map fun x=>(i+1,x)
theorem qhu {h:Nat→Nat→Nat→Nat→Bool} {all fst N:Nat} (b:Brc):b∈brL h all fst N↔1≤b.1∧b.1≤all∧b.2.1<N∧b.2.2.1<N∧b.2.2.2<N∧(b.1≤fst→b.2.2.2=0)∧h b.1 b.2.1 b.2.2.1 b.2.2.2=false:=by
 obtain ⟨p,k,f,g⟩:=b;simp only[brL,List.mem_flatMap,List.mem_map,List.mem_range,List.mem_filter,qyob,Prod.mk.injEq,Bool.not_eq_true']
 constructor
 · rintro ⟨i,hi,⟨k',f',g'⟩,⟨⟨h1,h2,h3⟩,h4⟩,rfl,e⟩;simp only[Prod.mk.injEq] at e;obtain ⟨rfl,rfl,rfl⟩:=e
   dsimp only at h1 h2 h3 h4
   refine ⟨by omega,by omega,h1,h2,?_,fun hp=>?_,h4⟩
   · split at h3<;>omega
   · rw[if_pos (by omega)] at h3;omega
 · rintro ⟨h1,h2,h3,h4,h5,h6,h7⟩;refine ⟨p-1,by omega,(k,f,g),⟨⟨h3,h4,?_⟩,?_⟩,by omega,rfl⟩
   · dsimp only
     split
     · have:=h6 (by omega);omega
     · exact h5
   · rw[show p-1+1=p by omega];exact h7
end Am

namespace Am
open Go
def tabD (rows:List (List Int)):D:=.sl (rows.map fun r=>[numsD r])
def szT (a:Int):Nat:=if a=1 then 4 else if a=2 then 16 else 0
structure Vld (a:Int) (rows:List (List Int)):Prop where
 at_:a=1∨a=2
 len:rows.length=szT a
 row:∀ r∈rows,r.length=szT a
 ent:∀ r∈rows,∀ x∈r,0≤x∧x<(szT a:Int)
def vldB (a:Int) (rows:List (List Int)):Bool:=(decide (a=1) || decide (a=2))&&(decide (rows.length=szT a)&&rows.all fun r=>decide (r.length=szT a)&&r.all fun x=>decide (0≤x)&&decide (x<(szT a:Int)))
theorem qrg {a:Int} {rows:List (List Int)}:vldB a rows=true↔Vld a rows:=by
 simp only[vldB,Bool.and_eq_true,Bool.or_eq_true,decide_eq_true_eq,List.all_eq_true]
 constructor
 · rintro ⟨h1,h2,h3⟩;exact ⟨h1,h2,fun r hr=>(h3 r hr).1,fun r hr=>(h3 r hr).2⟩
 · rintro ⟨h1,h2,h3,h4⟩;exact ⟨h1,h2,fun r hr=>⟨h3 r hr,h4 r hr⟩⟩
instance (a:Int) (rows:List (List Int)):Decidable (Vld a rows):=decidable_of_iff _ qrg
def tOf (rows:List (List Int)):Tbl:=fun k f=>BitVec.ofInt 64 ((rows.getD k.toNat []).getD f.toNat 0)
def rowAt (rows:List (List Int)) (k:BitVec 64):List Int:=rows.getD k.toNat []
theorem qcu (a:Int):szT a=0∨szT a=4∨szT a=16:=by
 unfold szT;split
 · exact .inr (.inl rfl)
 · split
   · exact .inr (.inr rfl)
   · exact .inl rfl
theorem qn (a:Int):szT a≤16:=by rcases qcu a with h|h|h<;>omega
theorem sm {N:Nat} (h16:N≤16) {x:BitVec 64} (h:x.toNat<N):Sml x:=by unfold Sml;omega
theorem qmf {N:Nat} {x y:BitVec 64} (h:x.toNat<N):(x&&&y).toNat<N:=by
 rw[BitVec.toNat_and];exact Nat.lt_of_le_of_lt Nat.and_le_left h
theorem qfhb {a:Int} {x y:BitVec 64} (h:x.toNat<szT a) (h':y.toNat<szT a):(x|||y).toNat<szT a:=by
 rw[BitVec.toNat_or];rcases qcu a with e|e|e
 · omega
 · rw[e] at h h' ⊢;exact Nat.or_lt_two_pow (n:=2) h h'
 · rw[e] at h h' ⊢;exact Nat.or_lt_two_pow (n:=4) h h'
section
variable {a:Int} {rows:List (List Int)} (hv:Vld a rows) {k f:BitVec 64} (hk:k.toNat<szT a) (hf:f.toNat<szT a)
include hv hk
theorem qvub:rowAt rows k∈rows:=by
 unfold rowAt;rw[gd' (by rw[hv.len];exact hk)]
 exact List.getElem_mem _
 where gd' {rows:List (List Int)} {i:Nat} (h:i<rows.length):rows.getD i []=rows[i]:=by simp[h]
theorem tr:PO.eval (.row 1) [tabD rows,ivD k]=some [numsD (rowAt rows k)]:=by
 have h1:k.toNat<rows.length:=by rw[hv.len];exact hk
 have h2:(rows.map fun r=>[numsD r])[k.toNat]? = some [numsD (rowAt rows k)]:=by
  simp[rowAt,h1]
 show (if (0:Int)≤(k.toNat:Int) then (match (rows.map fun r=>[numsD r])[(k.toNat:Int).toNat]? with|some r=>if r.length=1 then some r else none|none=>none) else none)=_
 rw[if_pos (by omega),Int.toNat_natCast,h2]
 rfl
include hf
theorem qmhb:∃ x:Int,(rowAt rows k)[f.toNat]? = some x∧0≤x∧x<(szT a:Int)∧tOf rows k f=BitVec.ofInt 64 x:=by
 have hm:=qvub hv hk;have hl:=hv.row _ hm;have h1:f.toNat<(rowAt rows k).length:=by omega
 refine ⟨(rowAt rows k)[f.toNat],by simp[h1],(hv.ent _ hm _ (List.getElem_mem h1)).1,(hv.ent _ hm _ (List.getElem_mem h1)).2,?_⟩
 unfold tOf
 show BitVec.ofInt 64 ((rowAt rows k).getD f.toNat 0)=_
 simp[h1]
theorem t_lt:(tOf rows k f).toNat<szT a:=by
 obtain ⟨x,_,h0,h1,e⟩:=qmhb hv hk hf;have:=qn a;rw[e];obtain ⟨n,rfl⟩:=Int.eq_ofNat_of_zero_le h0
 have:(BitVec.ofInt 64 (n:Int)).toNat=n:=by
  rw[BitVec.ofInt_natCast,BitVec.toNat_ofNat];omega
 rw[this];omega
theorem qcdc:∃ x:Int,(rowAt rows k)[f.toNat]? = some x∧x=((tOf rows k f).toNat:Int):=by
 obtain ⟨x,hx,h0,h1,e⟩:=qmhb hv hk hf;refine ⟨x,hx,?_⟩;have:=qn a;rw[e];obtain ⟨n,rfl⟩:=Int.eq_ofNat_of_zero_le h0
 have:(BitVec.ofInt 64 (n:Int)).toNat=n:=by
  rw[BitVec.ofInt_natCast,BitVec.toNat_ofNat];omega
 rw[this]
theorem tc:PO.eval (.row 1) [numsD (rowAt rows k),ivD f]=some [ivD (tOf rows k f)]:=by
 obtain ⟨x,hx,e⟩:=qcdc hv hk hf
 have h2:((rowAt rows k).map numR)[f.toNat]? = some [ivD (tOf rows k f)]:=by
  rw[List.getElem?_map,hx,Option.map_some,e];rfl
 show (if (0:Int)≤(f.toNat:Int) then (match ((rowAt rows k).map numR)[(f.toNat:Int).toNat]? with|some r=>if r.length=1 then some r else none|none=>none) else none)=_
 rw[if_pos (by omega),Int.toNat_natCast,h2]
 rfl
end
theorem qwq (tb:Bool) (x:BitVec 64):PO.eval (.bin .eql tb) [ivD x,.int .i64 0]=some [.bool (decide (x=0#64))]:=by
 show one1 (some (.bool ((x.toNat:Int) == 0)))=_
 rw[show ((x.toNat:Int) == 0)=decide (x=0#64) by rw[Bool.eq_iff_iff];simp only[beq_iff_eq,decide_eq_true_eq];exact qykb];rfl
theorem qlqb (tb:Bool) (x:BitVec 64):PO.eval (.bin .neq tb) [ivD x,.int .i64 0]=some [.bool (!decide (x=0#64))]:=by
 show one1 (some (.bool (!((x.toNat:Int) == 0))))=_
 rw[show ((x.toNat:Int) == 0)=decide (x=0#64) by rw[Bool.eq_iff_iff];simp only[beq_iff_eq,decide_eq_true_eq];exact qykb];rfl
theorem qln (tb:Bool) (x y:BitVec 64):PO.eval (.bin .eql tb) [ivD x,ivD y]=some [.bool (decide (x=y))]:=by
 show one1 (some (.bool ((x.toNat:Int) == (y.toNat:Int))))=_
 rw[show ((x.toNat:Int) == (y.toNat:Int))=decide (x=y) by rw[Bool.eq_iff_iff];simp only[beq_iff_eq,decide_eq_true_eq];exact qdsb];rfl
section
variable (t:Tbl) (A k f g:BitVec 64)
theorem qxqb:revT t 1 k f g=subB (t k f) f:=rfl
theorem qlsb:revT t 2 k f g=(decide (k&&&f=0#64) || decide (t k f=k&&&f)):=rfl
theorem qqzb:revT t 3 k f g=(decide (f=0#64) || !decide (t k f=0#64)):=rfl
theorem qjac:revT t 4 k f g=subB (t k f&&&g) (t k (f&&&g)):=rfl
theorem qvac:revT t 5 k f g=(decide (t k f&&&g=0#64) || subB (t k (f&&&g)) (t k f&&&g)):=rfl
theorem qtzb:conT A t 1 k f g=subB k (t k f):=rfl
theorem qaac:conT A t 2 k f g=(subB k f || decide (t k f=k)):=rfl
theorem qoyb:conT A t 3 k f g=(decide (f=A) || !subB (t k f) f):=rfl
theorem qjbc:conT A t 4 k f g=subB (t k f&&&f) k:=rfl
theorem qbzb:conT A t 5 k f g=subB (t k (f&&&g)) (t k f|||t k g):=rfl
theorem qrzb:conT A t 6 k f g=(subB (t k (f&&&g)) f || subB (t k f) (t k (f&&&g))):=rfl
theorem qpbc:updT t 1 k f g=subB (t k f) f:=rfl
theorem qtyb:updT t 2 k f g=(!subB k f || decide (t k f=k)):=rfl
theorem qdbc:updT t 3 k f g=(decide (k=0#64) || (decide (f=0#64) || !decide (t k f=0#64))):=rfl
theorem qgzb:updT t 4 k f g=subB (t k f&&&g) (t k (f&&&g)):=rfl
theorem qobc:updT t 5 k f g=(!subB (t k f) g || (!subB (t k g) f || decide (t k f=t k g))):=rfl
theorem qlyb:updT t 6 k f g=(!oneW k || subB (t k f&&&t k g) (t k (f|||g))):=rfl
theorem qqbc:updT t 7 k f g=decide (t (k|||g) f=t k f|||t g f):=rfl
end
def idxP {α:Type} (q:α→Bool):Nat→List α→Int
 | _,[]=>-1
 | i,x::l=>if q x=true then i else idxP q (i+1) l
theorem qqv {α:Type} (q:α→Bool):∀ (l:List α) (i:Nat),decide (idxP q i l≥0)=l.any q
 | [],i=>rfl
 | x::l,i=>by
  simp only[idxP,List.any_cons]
  by_cases h:q x=true
  · simp[h]
  · simp[h,qqv q l (i+1)]
theorem qfs {α:Type} (q:α→Bool) {l:List α} {i:Nat} (h:i<l.length):idxP q i (l.drop i)=if q l[i]=true then (i:Int) else idxP q (i+1) (l.drop (i+1)):=by
 rw[List.drop_eq_getElem_cons h];rfl
def badS (S:Int) (x:Int):Bool:=decide (x<0) || decide (x≥S)
def badR (S:Int) (r:List Int):Bool:=decide ((r.length:Int)≠S) || r.any (badS S)
theorem qdub {rows:List (List Int)} {i:Nat} (h:i<rows.length):PO.eval (.row 1) [tabD rows,.int .i64 i]=some [numsD rows[i]]:=
 qhk (by omega) (by simp[h]) rfl
theorem qya (rows:List (List Int)):PO.eval .lenL [tabD rows]=some [.int .i64 rows.length]:=by simp[tabD,qte]
theorem qceb {a:Int} (ha:a=1∨a=2) (rows:List (List Int)):vldB a rows = !(decide ((rows.length:Int)≠(szT a:Int)) || rows.any (badR (szT a:Int))):=by
 rw[Bool.eq_iff_iff,Bool.not_eq_true',Bool.or_eq_false_iff,decide_eq_false_iff_not,List.any_eq_false];rw[qrg]
 constructor
 · rintro ⟨_,h2,h3,h4⟩;refine ⟨by omega,fun r hr=>?_⟩
   rw[Bool.not_eq_true,badR,Bool.or_eq_false_iff,decide_eq_false_iff_not,List.any_eq_false];refine ⟨by have:=h3 r hr;omega,fun x hx=>?_⟩
   have:=h4 r hr x hx;simp[badS];omega
 · rintro ⟨h2,h3⟩;refine ⟨ha,by omega,fun r hr=>?_,fun r hr x hx=>?_⟩
   · have:=h3 r hr;rw[Bool.not_eq_true,badR,Bool.or_eq_false_iff,decide_eq_false_iff_not] at this;omega
   · have:=h3 r hr;rw[Bool.not_eq_true,badR,Bool.or_eq_false_iff,List.any_eq_false] at this;have:=this.2 x hx;simp[badS] at this;omega
end Am
