/- Lemmas. -/
import Derived.Test.YtefjlhhicgepfaaGreatDoorAm6
set_option linter.unusedSimpArgs false
set_option linter.unusedVariables false
set_option linter.unusedSectionVars false
open BitVec (allOnes ofInt ofNat toNat_and toNat_or)
open Bool (eq_false_iff not_eq_false not_eq_true not_eq_true' or_eq_false_iff or_eq_true)
open List (getElem_mem mem_range range)
namespace Am
open Go
def ivD(x:BitVec 64):D:=.int .i64 (x.toNat:Int)
def Sml(x:BitVec 64):Prop:=x.toNat<9223372036854775808
theorem qto(x:BitVec 64):ofInt 64 (x.toNat:Int)=x:=qbf x
theorem agp{x:BitVec 64}(h:Sml x):IntKind.i64.wrap (x.toNat:Int)=(x.toNat:Int):=wr (by omega) (by unfold Sml at h;omega)
theorem aot{x y:BitVec 64}(h:Sml x):Sml (x&&&y):=by
 unfold Sml at *;rw[toNat_and];exact Nat.lt_of_le_of_lt Nat.and_le_left h
theorem aqz{x y:BitVec 64}(h:Sml x)(h':Sml y):Sml (x|||y):=by
 unfold Sml at *;rw[toNat_or];exact Nat.or_lt_two_pow (n:=63) h h'
theorem aod(tb:Bool){x y:BitVec 64}(h:Sml x):PO.eval (.bin .and tb) [ivD x,ivD y]=some [ivD (x&&&y)]:=by
 show one1 (some (.int .i64 (IntKind.i64.wrap ((ofInt 64 (x.toNat:Int)&&&ofInt 64 (y.toNat:Int)).toNat:Int))))=_
 rw[qto,qto,agp (aot h)];rfl
theorem ag7(tb:Bool){x y:BitVec 64}(h:Sml x)(h':Sml y):PO.eval (.bin .or tb) [ivD x,ivD y]=some [ivD (x|||y)]:=by
 show one1 (some (.int .i64 (IntKind.i64.wrap ((ofInt 64 (x.toNat:Int)|||ofInt 64 (y.toNat:Int)).toNat:Int))))=_
 rw[qto,qto,agp (aqz h h')];rfl
theorem qys(tb:Bool){x y:BitVec 64}(h:Sml x):PO.eval (.bin .andNot tb) [ivD x,ivD y]=some [ivD (x &&& ~~~y)]:=by
 show one1 (some (.int .i64 (IntKind.i64.wrap ((ofInt 64 (x.toNat:Int) &&& ~~~ofInt 64 (y.toNat:Int)).toNat:Int))))=_
 rw[qto,qto,agp (aot h)];rfl
theorem ak0{x y:BitVec 64}:(x.toNat:Int)=(y.toNat:Int)↔x=y:=by
 constructor
 · intro h;exact BitVec.eq_of_toNat_eq (by omega)
 · rintro rfl;rfl
theorem alp{x:BitVec 64}:(x.toNat:Int)=0↔x=0#64:=by
 have:=ak0 (x:=x) (y:=0#64)
 simpa using this
def i8(a b:BitVec 64):Bool:=decide (a &&& ~~~b=0#64)
abbrev Tbl:=BitVec 64→BitVec 64→BitVec 64
def aft(t:Tbl)(p:Nat)(k f g:BitVec 64):Bool:=
 if p=1 then i8 (t k f) f
 else if p=2 then decide (k&&&f=0#64) || decide (t k f=k&&&f)
 else if p=3 then decide (f=0#64) || !decide (t k f=0#64)
 else if p=4 then i8 (t k f&&&g) (t k (f&&&g))
 else decide (t k f&&&g=0#64) || i8 (t k (f&&&g)) (t k f&&&g)
def ae7(all:BitVec 64)(t:Tbl)(p:Nat)(k f g:BitVec 64):Bool:=
 if p=1 then i8 k (t k f)
 else if p=2 then i8 k f || decide (t k f=k)
 else if p=3 then decide (f=all) || !i8 (t k f) f
 else if p=4 then i8 (t k f&&&f) k
 else if p=5 then i8 (t k (f&&&g)) (t k f|||t k g)
 else i8 (t k (f&&&g)) f || i8 (t k f) (t k (f&&&g))
def agn(k:BitVec 64):Bool:=decide (k=1#64) || (decide (k=2#64) || (decide (k=4#64) || decide (k=8#64)))
def ae0(t:Tbl)(p:Nat)(k f g:BitVec 64):Bool:=
 if p=1 then i8 (t k f) f
 else if p=2 then !i8 k f || decide (t k f=k)
 else if p=3 then decide (k=0#64) || (decide (f=0#64) || !decide (t k f=0#64))
 else if p=4 then i8 (t k f&&&g) (t k (f&&&g))
 else if p=5 then !i8 (t k f) g || (!i8 (t k g) f || decide (t k f=t k g))
 else if p=6 then !agn k || i8 (t k f&&&t k g) (t k (f|||g))
 else decide (t (k|||g) f=t k f|||t g f)
def afb(kind:Int)(all:BitVec 64)(t:Tbl)(p:Nat)(k f g:BitVec 64):Bool:=if kind=1 then aft t p k f g else if kind=2 then ae7 all t p k f g else ae0 t p k f g
def iy(kind:Int):Nat × Nat:=if kind=1 then (5,3) else if kind=2 then (6,4) else if kind=3 then (7,3) else (0,0)
theorem qqb{a b:BitVec 64}:i8 a b=true↔∀ w,has a w→has b w:=by
 unfold i8;rw[decide_eq_true_eq,aon]
section
variable {N:Nat}{r:Nat→Int}{L:BitVec 64→BitVec 64}(hL:Lst N r L)
include hL
theorem a2b(f:BitVec 64):i8 (L f) f=true:=qqb.2 fun w hw=>((hL.get f w).1 hw).2.1
theorem aol(f g:BitVec 64):i8 (L f&&&g) (L (f&&&g))=true:=qqb.2 fun w hw=>by
 rw[qy,hL.get] at hw;exact (hL.get _ _).2 ⟨hw.1.1,qy.2 ⟨hw.1.2.1,hw.2⟩,fun v hv h=>hw.1.2.2 v hv (qy.1 h).1⟩
theorem a5w(f g:BitVec 64)(h:L f&&&g≠0#64):i8 (L (f&&&g)) (L f&&&g)=true:=qqb.2 fun w hw=>by
 obtain ⟨u,hu⟩:=qph h;rw[qy,hL.get] at hu;rw[hL.get] at hw;have tq:=qy.1 hw.2.1;refine qy.2 ⟨(hL.get _ _).2 ⟨hw.1,tq.1,fun v hv hf=>?_⟩,tq.2⟩
 exact Int.le_trans (hw.2.2 u hu.1.1 (qy.2 ⟨hu.1.2.1,hu.2⟩)) (hu.1.2.2 v hv hf)
theorem ar5(f g:BitVec 64):i8 (L f&&&L g) (L (f|||g))=true:=qqb.2 fun w hw=>by
 rw[qy,hL.get,hL.get] at hw;refine (hL.get _ _).2 ⟨hw.1.1,qic.2 (.inl hw.1.2.1),fun v hv h=>?_⟩
 rcases qic.1 h with h|h
 · exact hw.1.2.2 v hv h
 · exact hw.2.2.2 v hv h
end
end Am

namespace Am
open Go
def Ovr(N:Nat)(x:BitVec 64):Prop:=∀ w,has x w→w<N
def Fit(k:BitVec 64)(L:BitVec 64→BitVec 64):Prop:=k≠0#64→L (allOnes 64)=k
theorem qak{a b:BitVec 64}:i8 a b=false↔∃ w,has a w∧¬ has b w:=by
 unfold i8;rw[decide_eq_false_iff_not]
 constructor
 · intro h;obtain ⟨w,hw⟩:=qph h;exact ⟨w,qfb.1 hw⟩
 · rintro ⟨w,hw⟩;exact qgd (qfb.2 hw)
section
variable {N:Nat}{r:Nat→Int}{L:BitVec 64→BitVec 64}(hL:Lst N r L){k f g A:BitVec 64}{t:Tbl}
include hL
theorem qmq(hf:Ovr N f)(h:f≠0#64):∃ w,has (L f) w:=by
 obtain ⟨v,hv⟩:=qph h;exact hL.ex (hf v hv) hv
theorem qwm(hk:Fit k L){w:Nat}(h:has k w):w<N∧∀ v,v<N→r w≤r v:=by
 have:=hk (qgd h);rw[← this,hL.get] at h;exact ⟨h.1,fun v hv=>h.2.2 v hv (qwj.2 (Nat.lt_of_lt_of_le hv hL.le))⟩
theorem qlx(hk:Fit k L){w u:Nat}(h:has k w)(hu:u<N)(hr:∀ v,v<N→r u≤r v):has k u:=by
 have:=hk (qgd h);rw[← this,hL.get];exact ⟨hu,qwj.2 (Nat.lt_of_lt_of_le hu hL.le),fun v hv _=>hr v hv⟩
theorem axo(hk:Fit k L)(ht:∀ x,Ovr N x→t k x=L x)(hf:Ovr N f)(p:Nat):aft t p k f g=true:=by
 have hfg:Ovr N (f&&&g):=fun w h=>hf w (qy.1 h).1
 unfold aft;rw[ht f hf,ht _ hfg]
 split
 · exact a2b hL f
 split
 · rw[or_eq_true,decide_eq_true_eq,decide_eq_true_eq];refine Classical.or_iff_not_imp_left.2 fun h0=>qzb fun w=>?_
   obtain ⟨u,hu⟩:=qph h0;rw[qy] at hu;obtain ⟨hu1,hu2⟩:=qwm hL hk hu.1;rw[hL.get,qy]
   constructor
   · rintro ⟨h1,h2,h3⟩;exact ⟨qlx hL hk hu.1 h1 fun v hv=>Int.le_trans (h3 u hu1 hu.2) (hu2 v hv),h2⟩
   · rintro ⟨h1,h2⟩;obtain ⟨h3,h4⟩:=qwm hL hk h1;exact ⟨h3,h2,fun v hv _=>h4 v hv⟩
 split
 · rw[or_eq_true,decide_eq_true_eq,not_eq_true',decide_eq_false_iff_not];refine Classical.or_iff_not_imp_left.2 fun h0=>?_
   obtain ⟨w,hw⟩:=qmq hL hf h0;exact qgd hw
 split
 · exact aol hL f g
 · rw[or_eq_true,decide_eq_true_eq];exact Classical.or_iff_not_imp_left.2 fun h0=>a5w hL f g h0
theorem av2(hA:∀ w,has A w↔w<N)(hk:Fit k L)(ht:∀ x,Ovr N x→t k x=k|||L (A &&& ~~~x))(hf:Ovr N f)(hg:Ovr N g)(p:Nat):ae7 A t p k f g=true:=by
 have hfg:Ovr N (f&&&g):=fun w h=>hf w (qy.1 h).1
 have hm:∀ x w,has (L (A &&& ~~~x)) w↔w<N∧¬ has x w∧∀ v,v<N→¬ has x v→r w≤r v:=fun x w=>by
  rw[hL.get,qfb,hA]
  constructor
  · rintro ⟨h1,h2,h3⟩;exact ⟨h1,h2.2,fun v hv h=>h3 v hv (qfb.2 ⟨(hA v).2 hv,h⟩)⟩
  · rintro ⟨h1,h2,h3⟩;exact ⟨h1,⟨h1,h2⟩,fun v hv h=>h3 v hv (qfb.1 h).2⟩
 unfold ae7;rw[ht f hf,ht g hg,ht _ hfg]
 split
 · exact qqb.2 fun w h=>qic.2 (.inl h)
 split
 · rw[or_eq_true,decide_eq_true_eq];refine Classical.or_iff_not_imp_left.2 fun h0=>qzb fun w=>?_
   obtain ⟨u,hu1,hu2⟩:=qak.1 (Bool.eq_false_iff.2 h0);obtain ⟨hu3,hu4⟩:=qwm hL hk hu1;rw[qic,hm];refine ⟨?_,.inl⟩;rintro (h|⟨h1,h2,h3⟩)
   · exact h
   · exact qlx hL hk hu1 h1 fun v hv=>Int.le_trans (h3 u hu3 hu2) (hu4 v hv)
 split
 · rw[or_eq_true,decide_eq_true_eq,not_eq_true'];refine Classical.or_iff_not_imp_left.2 fun h0=>qak.2 ?_
   have:A &&& ~~~f≠0#64:=fun h=>h0 (qzb fun w=>⟨fun hw=>(hA w).2 (hf w hw),aon.1 h w⟩)
   obtain ⟨w,hw⟩:=qmq hL (fun w h=>(hA w).1 (qfb.1 h).1) this
   exact ⟨w,qic.2 (.inr hw),((hm f w).1 hw).2.1⟩
 split
 · refine qqb.2 fun w h=>?_
   rw[qy,qic,hm] at h;rcases h.1 with h1|h1
   · exact h1
   · exact absurd h.2 h1.2.1
 split
 · refine qqb.2 fun w h=>?_
   rw[qic,hm] at h;rw[qic,qic,qic,hm,hm];rcases h with h|⟨h1,h2,h3⟩
   · exact .inl (.inl h)
   · by_cases jb:has f w
     · have:¬ has g w:=fun hw=>h2 (qy.2 ⟨jb,hw⟩)
       exact .inr (.inr ⟨h1,this,fun v hv hn=>h3 v hv fun hh=>hn (qy.1 hh).2⟩)
     · exact .inl (.inr ⟨h1,jb,fun v hv hn=>h3 v hv fun hh=>hn (qy.1 hh).1⟩)
 · rw[or_eq_true];refine Classical.or_iff_not_imp_left.2 fun h0=>qqb.2 fun w h=>?_
   obtain ⟨u,hu1,hu2⟩:=qak.1 (Bool.eq_false_iff.2 h0);rw[qic,hm] at h hu1;rw[qic,hm];rcases h with h|⟨h1,h2,h3⟩
   · exact .inl h
   rcases hu1 with hu|⟨hu3,hu4,hu5⟩
   · obtain ⟨hu3,hu4⟩:=qwm hL hk hu;exact .inl (qlx hL hk hu h1 fun v hv=>Int.le_trans (h3 u hu3 hu2) (hu4 v hv))
   · exact .inr ⟨h1,fun hh=>h2 (qy.1 hh).1,fun v hv hn=>Int.le_trans (h3 u hu3 hu2) (hu5 v hv hn)⟩
end
section
variable {N:Nat}{r:Nat→Nat→Int}{L:Nat→BitVec 64→BitVec 64}(hL:∀ v,v<N→Lst N (r v) (L v))(hk:∀ v,v<N→∀ w,has (L v (allOnes 64)) w↔w=v){t:Tbl}
 (ht:∀ k f,Ovr N k→Ovr N f→∀ w,has (t k f) w↔∃ v,v<N∧has k v∧has (L v f) w) {k f g:BitVec 64}
include hL hk ht
theorem a2u(h4:N≤4)(ok:Ovr N k)(of:Ovr N f)(og:Ovr N g)(p:Nat):ae0 t p k f g=true:=by
 have ofg:Ovr N (f&&&g):=fun w h=>of w (qy.1 h).1
 have oo:∀ {a b},Ovr N a→Ovr N b→Ovr N (a|||b):=fun ha hb w h=>(qic.1 h).elim (ha w) (hb w)
 have ael:∀ v,v<N→has f v→∀ w,has (L v f) w↔w=v:=fun v hv hf w=>by
  have h1:=(hk v hv v).2 rfl;rw[(hL v hv).get] at h1;have h1':∀ u,u<N→r v v≤r v u:=fun u hu=>h1.2.2 u hu (qwj.2 (Nat.lt_of_lt_of_le hu (hL v hv).le))
  rw[(hL v hv).get]
  constructor
  · rintro ⟨h2,h3,h4⟩;refine (hk v hv w).1 (((hL v hv).get _ _).2 ⟨h2,qwj.2 (Nat.lt_of_lt_of_le h2 (hL v hv).le),fun u hu _=>Int.le_trans (h4 v hv hf) (h1' u hu)⟩)
  · rintro rfl;exact ⟨hv,hf,fun u hu _=>h1' u hu⟩
 have my:∀ k f,Ovr N k→Ovr N f→∀ w,has (t k f) w→has f w:=fun k f ok of w h=>by
  obtain ⟨v,hv,_,h2⟩:=(ht k f ok of w).1 h;exact (((hL v hv).get _ _).1 h2).2.1
 unfold ae0
 split
 · exact qqb.2 (my k f ok of)
 split
 · rw[or_eq_true,not_eq_true',decide_eq_true_eq];refine Classical.or_iff_not_imp_left.2 fun h0=>qzb fun w=>?_
   have hs:=qqb.1 (not_eq_false _ ▸ h0:i8 k f=true);rw[ht k f ok of]
   constructor
   · rintro ⟨v,hv,h1,h2⟩;rw[(ael v hv (hs v h1) w).1 h2];exact h1
   · intro h;exact ⟨w,ok w h,h,(ael w (ok w h) (hs w h) w).2 rfl⟩
 split
 · rw[or_eq_true,or_eq_true,decide_eq_true_eq,decide_eq_true_eq,not_eq_true',decide_eq_false_iff_not];refine Classical.or_iff_not_imp_left.2 fun h0=>Classical.or_iff_not_imp_left.2 fun h1=>?_
   obtain ⟨v,hv⟩:=qph h0;obtain ⟨w,hw⟩:=qmq (hL v (ok v hv)) of h1;exact qgd ((ht k f ok of w).2 ⟨v,ok v hv,hv,hw⟩)
 split
 · refine qqb.2 fun w h=>?_
   rw[qy,ht k f ok of] at h;obtain ⟨⟨v,hv,h1,h2⟩,h3⟩:=h;exact (ht _ _ ok ofg w).2 ⟨v,hv,h1,qqb.1 (aol (hL v hv) f g) w (qy.2 ⟨h2,h3⟩)⟩
 split
 · rw[or_eq_true,or_eq_true,decide_eq_true_eq,not_eq_true',not_eq_true'];refine Classical.or_iff_not_imp_left.2 fun h0=>Classical.or_iff_not_imp_left.2 fun h1=>qzb fun w=>?_
   have s1:=qqb.1 (not_eq_false _ ▸ h0:i8 (t k f) g=true);have s2:=qqb.1 (not_eq_false _ ▸ h1:i8 (t k g) f=true)
   have key:∀ f g,Ovr N f→Ovr N g→(∀ w,has (t k f) w→has g w)→(∀ w,has (t k g) w→has f w)→∀ w,has (t k f) w→has (t k g) w:=by
    intro f g of og s1 s2 w h;have hw:=h;rw[ht k f ok of] at h;obtain ⟨v,hv,h1,h2⟩:=h;refine (ht _ _ ok og w).2 ⟨v,hv,h1,?_⟩;rw[(hL v hv).get] at h2 ⊢;refine ⟨h2.1,s1 w hw,fun u hu hgu=>?_⟩
    obtain ⟨x,hx⟩:=(hL v hv).ex hu hgu;have na:=hx;rw[(hL v hv).get] at na;exact Int.le_trans (h2.2.2 x na.1 (s2 x ((ht _ _ ok og x).2 ⟨v,hv,h1,hx⟩))) (na.2.2 u hu hgu)
   exact ⟨key f g of og s1 s2 w,key g f og of s2 s1 w⟩
 split
 · rw[or_eq_true,not_eq_true'];refine Classical.or_iff_not_imp_left.2 fun h0=>qqb.2 fun w h=>?_
   have h1:agn k=true:=not_eq_false _ ▸ h0
   have h2:∃ v,v<4∧k=ofNat 64 (2^v):=by
    simp only[agn,or_eq_true,decide_eq_true_eq] at h1;rcases h1 with h|h|h|h
    · exact ⟨0,by omega,h⟩
    · exact ⟨1,by omega,h⟩
    · exact ⟨2,by omega,h⟩
    · exact ⟨3,by omega,h⟩
   obtain ⟨v,hv,rfl⟩:=h2
   have h3:∀ u,has (ofNat 64 (2^v)) u→u=v:=fun u hu=>by
    have hl:=qya hu;rw[has] at hu;have hh:∀ v:_root_.Fin 4,∀ u:_root_.Fin 64,(ofNat 64 (2^v.1)).getLsbD u.1=true→u.1=v.1:=by decide
    exact hh ⟨v,hv⟩ ⟨u,hl⟩ hu
   rw[qy,ht _ f ok of,ht _ g ok og] at h;obtain ⟨⟨a,ha,a1,a2⟩,b,hb,b1,b2⟩:=h;obtain rfl:=h3 a a1;obtain rfl:=h3 b b1;exact (ht _ _ ok (oo of og) w).2 ⟨b,hb,b1,qqb.1 (ar5 (hL b hb) f g) w (qy.2 ⟨a2,b2⟩)⟩
 · rw[decide_eq_true_eq];refine qzb fun w=>?_
   rw[qic,ht _ f (oo ok og) of,ht k f ok of,ht g f og of]
   constructor
   · rintro ⟨v,hv,h1,h2⟩;exact (qic.1 h1).elim (fun h=>.inl ⟨v,hv,h,h2⟩) fun h=>.inr ⟨v,hv,h,h2⟩
   · rintro (⟨v,hv,h1,h2⟩|⟨v,hv,h1,h2⟩)
     · exact ⟨v,hv,qic.2 (.inl h1),h2⟩
     · exact ⟨v,hv,qic.2 (.inr h1),h2⟩
end
end Am

namespace Am
open Go
section
variable {n:Nat}(hn:n≤64){K A B M X Y:BitVec 64}{d:Int}{v:Int}
include hn
end
end Am

namespace Am
open Go
def two(a b:Nat):BitVec 64:=1#64 <<< a|||1#64 <<< b
theorem que{a b w:Nat}(ha:a<64)(hb:b<64):has (two a b) w↔w=a∨w=b:=by
 unfold two;rw[qic,has,has,qwc _ _ ha,qwc _ _ hb,decide_eq_true_eq,decide_eq_true_eq]
def rkc(c:BitVec 64→BitVec 64)(N:Nat)(a:Nat):Nat:=(range N).countP fun b=>decide (c (two a b)&&&two a b=1#64 <<< b) && !decide (a=b)
structure Cho(N:Nat)(c:BitVec 64→BitVec 64):Prop where
 le:N≤64
 sub:∀ f w,Ovr N f→has (c f) w→has f w
 some:∀ f,Ovr N f→f≠0#64→∃ w,has (c f) w
 up:∀ f g w,Ovr N f→Ovr N g→has (c f) w→has g w→has (c (f&&&g)) w
 cap:∀ f g u w,Ovr N f→Ovr N g→has (c f) u→has g u→has (c (f&&&g)) w→has (c f) w
section
variable {N:Nat}{c:BitVec 64→BitVec 64}(h:Cho N c)
include h
theorem Cho.ovr{a b:Nat}(ha:a<N)(hb:b<N):Ovr N (two a b):=fun w hw=>by
 have:=h.le;rcases (que (by omega) (by omega)).1 hw with rfl|rfl<;>assumption
theorem Cho.cut{f:BitVec 64}{a b:Nat}(ha:a<N)(hb:b<N)(fa:has f a)(fb:has f b):f&&&two a b=two a b:=by
 have:=h.le;refine qzb fun w=>?_
 rw[qy,que (by omega) (by omega)]
 constructor
 · exact fun x=>x.2
 · rintro (rfl|rfl)
   · exact ⟨fa,.inl rfl⟩
   · exact ⟨fb,.inr rfl⟩
theorem Cho.comm{a b:Nat}(ha:a<N)(hb:b<N):two a b=two b a:=qzb fun w=>by
 have:=h.le;rw[que (by omega) (by omega),que (by omega) (by omega)];exact or_comm
def lec(c:BitVec 64→BitVec 64)(a b:Nat):Prop:=has (c (two a b)) a
theorem Cho.total{a b:Nat}(ha:a<N)(hb:b<N):lec c a b∨lec c b a:=by
 have hN:=h.le;obtain ⟨w,hw⟩:=h.some (two a b) (h.ovr ha hb) (qgd ((que (by omega) (by omega)).2 (.inl rfl)))
 rcases (que (by omega) (by omega)).1 (h.sub _ _ (h.ovr ha hb) hw) with rfl|rfl
 · exact .inl hw
 · right;unfold lec;rw[h.comm hb ha];exact hw
theorem Cho.down{f:BitVec 64}(hf:Ovr N f){w v:Nat}(hw:has (c f) w)(hv:has f v):lec c w v:=by
 have hN:=h.le;have fw:=h.sub _ _ hf hw;have:=h.up f (two w v) w hf (h.ovr (hf w fw) (hf v hv)) hw ((que (by have:=hf w fw;omega) (by have:=hf v hv;omega)).2 (.inl rfl))
 rwa [h.cut (hf w fw) (hf v hv) fw hv] at this
theorem Cho.step{f:BitVec 64}(hf:Ovr N f){u w:Nat}(hu:has (c f) u)(fw:has f w)(hl:lec c w u):has (c f) w:=by
 have hN:=h.le;have fu:=h.sub _ _ hf hu;have hwN:=hf w fw;have huN:=hf u fu;refine h.cap f (two w u) u w hf (h.ovr hwN huN) hu ((que (by omega) (by omega)).2 (.inr rfl)) ?_
 rw[h.cut hwN huN fw fu];exact hl
theorem Cho.trans{a b d:Nat}(ha:a<N)(hb:b<N)(hd:d<N)(h1:lec c a b)(h2:lec c b d):lec c a d:=by
 have hN:=h.le
 have hm:∀ w,has (two a b|||two b d) w↔w=a∨w=b∨w=d:=fun w=>by
  rw[qic,que (by omega) (by omega),que (by omega) (by omega)]
  constructor
  · rintro ((h|h)|(h|h))<;>simp[h]
  · rintro (h|h|h)<;>simp[h]
 have ho:Ovr N (two a b|||two b d):=fun w hw=>by
  rcases (hm w).1 hw with rfl|rfl|rfl<;>assumption
 have fa:=(hm a).2 (.inl rfl);have fb:=(hm b).2 (.inr (.inl rfl));have fd:=(hm d).2 (.inr (.inr rfl));obtain ⟨u,hu⟩:=h.some _ ho (qgd fa)
 have key:has (c (two a b|||two b d)) a:=by
  rcases (hm u).1 (h.sub _ _ ho hu) with rfl|rfl|rfl
  · exact hu
  · exact h.step ho hu fa h1
  · exact h.step ho (h.step ho hu fb h2) fa h1
 exact h.down ho key fd
theorem Cho.before{a b:Nat}(ha:a<N)(hb:b<N):(decide (c (two a b)&&&two a b=1#64 <<< b) && !decide (a=b))=true↔¬ lec c a b:=by
 have hN:=h.le;rw[Bool.and_eq_true,decide_eq_true_eq,not_eq_true',decide_eq_false_iff_not]
 have hs:c (two a b)&&&two a b=c (two a b):=qzb fun w=>by
  rw[qy];exact ⟨fun x=>x.1,fun x=>⟨x,h.sub _ _ (h.ovr ha hb) x⟩⟩
 rw[hs]
 constructor
 · rintro ⟨h1,h2⟩ hl;unfold lec at hl;rw[h1,has,qwc _ _ (by omega),decide_eq_true_eq] at hl
   exact h2 hl
 · intro hl;refine ⟨qzb fun w=>?_,fun e=>?_⟩
   · have yr : has (1#64 <<< b) w ↔ w = b := by
      rw[has,qwc _ _ (by omega),decide_eq_true_eq]
     rw[yr]
     constructor
     · intro hw;rcases (que (by omega) (by omega)).1 (h.sub _ _ (h.ovr ha hb) hw) with rfl|rfl
       · exact absurd hw hl
       · rfl
     · rintro rfl;have:=(h.total ha hb).resolve_left hl;unfold lec at this
       rwa [h.comm hb ha] at this
   · subst e;exact hl ((h.total ha ha).elim id id)
omit h in
theorem qen{l:List Nat}{p q:Nat→Bool}(hpq:∀ x∈l,p x=true→q x=true){y:Nat}(hy:y∈l)(hp:p y=false)(hq:q y=true):l.countP p<l.countP q:=by
 induction l with
 | nil=>cases hy
 | cons a l ih=>
  have hm:l.countP p≤l.countP q:=List.countP_mono_left fun x hx=>hpq x (List.mem_cons_of_mem _ hx)
  rw[List.countP_cons,List.countP_cons];rcases List.mem_cons.1 hy with rfl|hy
  · rw[hp,hq];simp;omega
  · have:=ih (fun x hx=>hpq x (List.mem_cons_of_mem _ hx)) hy
    have:=hpq a List.mem_cons_self;cases ha:p a
    · simp;split<;>omega
    · rw[this ha];simp;omega
theorem Cho.rk{a b:Nat}(ha:a<N)(hb:b<N):rkc c N a≤rkc c N b↔lec c a b:=by
 unfold rkc
 constructor
 · intro hr;refine Classical.byContradiction fun hl=>?_
   have sa:=(h.total ha hb).resolve_left hl;refine absurd hr (Nat.not_le.2 (qen (y:=b) (fun x hx hp=>?_) (List.mem_range.2 hb) ?_ ((h.before ha hb).2 hl)))
   · have hx:=List.mem_range.1 hx;exact (h.before ha hx).2 fun hax=>(h.before hb hx).1 hp (h.trans hb ha hx sa hax)
   · exact Bool.eq_false_iff.2 fun hp=>(h.before hb hb).1 hp ((h.total hb hb).elim id id)
 · intro hl;refine List.countP_mono_left fun x hx hp=>?_
   have hx:=List.mem_range.1 hx;exact (h.before hb hx).2 fun hbx=>(h.before ha hx).1 hp (h.trans ha hb hx hl hbx)
end
section
variable {N:Nat}(hN:N≤64){t:Tbl}{k A:BitVec 64}(hA:∀ w,has A w↔w<N)(ok:Ovr N k)(ot:∀ f,Ovr N f→Ovr N (t k f))
include hN hA ok
end
end Am

namespace Am
open Go
def oz(q:List Int)(b:BitVec 64)(l:Nat):List Int:=(range q.length).map fun w=>if b.getLsbD w=true then (l:Int) else q.getD w 0
theorem qwi(q:List Int)(b:BitVec 64)(l:Nat):(oz q b l).length=q.length:=by simp[oz]
theorem qcn(q:List Int)(b:BitVec 64)(l:Nat){w:Nat}(h:w<q.length):(oz q b l).getD w 0=if b.getLsbD w=true then (l:Int) else q.getD w 0:=by
 rw[gd (by rw[qwi];exact h)];simp[oz]
def ku(c:BitVec 64→BitVec 64):Nat→Nat→BitVec 64→List Int→Option (List Int)
 | 0,_,S,q=>if S=0#64 then some q else none
 | m+1,l,S,q=>if S=0#64 then some q else if c S&&&S=0#64 then none else ku c m (l+1) (S &&& ~~~(c S&&&S)) (oz q (c S&&&S) l)
def Chs(N:Nat)(o:List Int)(c:BitVec 64→BitVec 64):Prop:=∀ S,Ovr N S→∀ w,has (c S) w↔w<N∧has S w∧∀ v,v<N→has S v→o.getD w 0≤o.getD v 0
section
variable {N:Nat}{o:List Int}{c:BitVec 64→BitVec 64}(hN:N≤64)(ho:o.length=N)(hc:Chs N o c)
include hN ho hc
theorem a39{S:BitVec 64}(hS:Ovr N S)(h:S≠0#64):∃ w,has (c S) w:=by
 obtain ⟨v,hv⟩:=qph h;obtain ⟨w,h1,h2,h3⟩:=afx (fun w=>o.getD w 0) (fun v=>has S v) N ⟨v,hS v hv,hv⟩
 exact ⟨w,(hc S hS w).2 ⟨h1,h2,h3⟩⟩
structure LvI(l:Nat)(S:BitVec 64)(q:List Int):Prop where
 len:q.length=N
 ovr:Ovr N S
 lt:∀ w,w<N→¬ has S w→q.getD w 0<(l:Int)
 ord:∀ w v,w<N→v<N→¬ has S w→¬ has S v→(q.getD w 0<q.getD v 0↔o.getD w 0<o.getD v 0)
 sep:∀ w v,w<N→v<N→¬ has S w→has S v→o.getD w 0<o.getD v 0
theorem az9:∀ (m l:Nat) (S:BitVec 64) (q:List Int),LvI (N:=N) (o:=o) l S q→((range N).countP fun w=>S.getLsbD w)≤m→∃ out,ku c m l S q=some out∧Pat out o:=by
 intro m
 induction m with
 | zero=>
  intro l S q h hm
  have hz:S=0#64:=qxb.2 fun w hw=>by
   have:=List.countP_eq_zero.1 (Nat.le_zero.1 hm) w (List.mem_range.2 (h.ovr w hw));exact this hw
  refine ⟨q,by unfold ku;rw[if_pos hz],h.len.trans ho.symm,fun i j hi hj=>?_⟩
  have hl:=h.len;exact h.ord i j (by omega) (by omega) (hz ▸ (qxb.1 rfl) i) (hz ▸ (qxb.1 rfl) j)
 | succ m ih=>
  intro l S q h hm;have hl:=h.len
  by_cases hz:S=0#64
  · refine ⟨q,by unfold ku;rw[if_pos hz],h.len.trans ho.symm,fun i j hi hj=>?_⟩
    exact h.ord i j (by omega) (by omega) (hz ▸ (qxb.1 rfl) i) (hz ▸ (qxb.1 rfl) j)
  have kr:c S&&&S=c S:=qzb fun w=>by
   rw[qy];exact ⟨fun x=>x.1,fun x=>⟨x,((hc S h.ovr w).1 x).2.1⟩⟩
  obtain ⟨u,hu⟩:=a39 hN ho hc h.ovr hz;have hu':=(hc S h.ovr u).1 hu;have fq:∀ w,has (S &&& ~~~(c S)) w↔has S w∧¬ has (c S) w:=fun w=>qfb
  have aef:∀ w,w<N→¬ has (S &&& ~~~(c S)) w→has (c S) w∨¬ has S w:=fun w hw hn=>by
   by_cases hx:has (c S) w
   · exact .inl hx
   · exact .inr fun hs=>hn ((fq w).2 ⟨hs,hx⟩)
  unfold ku;rw[if_neg hz,kr,if_neg (qgd hu)];refine ih (l+1) _ _ ⟨by rw[qwi];exact h.len,fun w hw=>h.ovr w ((fq w).1 hw).1,fun w hw hn=>?_,fun w v hw hv hnw hnv=>?_,fun w v hw hv hnw hv'=>?_⟩ ?_
  · rw[qcn _ _ _ (by omega)]
    rcases aef w hw hn with hx|hx
    · rw[if_pos hx];omega
    · have:=h.lt w hw hx
      split<;>omega
  · rw[qcn _ _ _ (by omega),qcn _ _ _ (by omega)]
    have hcS:∀ x,x<N→¬ has S x→¬ (c S).getLsbD x=true:=fun x hx hs hcx=>hs ((hc S h.ovr x).1 hcx).2.1
    rcases aef w hw hnw with hx|hx<;>rcases aef v hv hnv with hy|hy
    · rw[if_pos hx,if_pos hy];have h1:=((hc S h.ovr w).1 hx).2.2 v hv ((hc S h.ovr v).1 hy).2.1;have h2:=((hc S h.ovr v).1 hy).2.2 w hw ((hc S h.ovr w).1 hx).2.1
      constructor<;>intro<;>omega
    · rw[if_pos hx,if_neg (hcS v hv hy)];have h1:=h.lt v hv hy;have h2:=h.sep v w hv hw hy ((hc S h.ovr w).1 hx).2.1
      constructor<;>intro<;>omega
    · rw[if_neg (hcS w hw hx),if_pos hy];have h1:=h.lt w hw hx;have h2:=h.sep w v hw hv hx ((hc S h.ovr v).1 hy).2.1
      constructor<;>intro<;>omega
    · rw[if_neg (hcS w hw hx),if_neg (hcS v hv hy)];exact h.ord w v hw hv hx hy
  · have hv2:=(fq v).1 hv';rcases aef w hw hnw with hx|hx
    · refine Int.not_le.1 fun j7=>hv2.2 ((hc S h.ovr v).2 ⟨hv,hv2.1,fun z hz hs=>Int.le_trans j7 (((hc S h.ovr w).1 hx).2.2 z hz hs)⟩)
    · exact h.sep w v hw hv hx hv2.1
  · have : ((range N).countP fun w => (S &&& ~~~(c S)).getLsbD w) < ((range N).countP fun w => S.getLsbD w) :=
     qen (fun x _ hp=>((fq x).1 hp).1) (List.mem_range.2 hu'.1) (Bool.eq_false_iff.2 fun hx=>((fq u).1 hx).2 hu) hu'.2.1
    omega
theorem a2z{A:BitVec 64}(hA:∀ w,has A w↔w<N)(hr:mo o=true):∃ out,ku c N 0 A (List.replicate N 0)=some out∧bg out=o:=by
 obtain ⟨out,h1,h2⟩:=az9 hN ho hc N 0 A (List.replicate N 0) ⟨by simp,fun w h=>(hA w).1 h,fun w hw hn=>absurd ((hA w).2 hw) hn,fun w v hw hv hn _=>absurd ((hA w).2 hw) hn,fun w v hw hv hn _=>absurd ((hA w).2 hw) hn⟩ (by
  have:=List.countP_le_length (p:=fun w=>A.getLsbD w) (l:=range N);simpa using this)
 exact ⟨out,h1,by rw[asj h2,qjp hr]⟩
end
end Am

namespace Am
open Go
def ae2(N s:Nat):List (Nat × Nat × Nat):=(range N).flatMap fun k=>(range N).flatMap fun f=>(range s).map fun g=>(k,f,g)
theorem awz{N s:Nat}{x:Nat × Nat × Nat}:x∈ae2 N s↔x.1<N∧x.2.1<N∧x.2.2<s:=by
 obtain ⟨k,f,g⟩:=x;simp only[ae2,List.mem_flatMap,List.mem_map,mem_range,Prod.mk.injEq]
 constructor
 · rintro ⟨a,ha,b,hb,c,hc,rfl,rfl,rfl⟩;exact ⟨ha,hb,hc⟩
 · rintro ⟨ha,hb,hc⟩;exact ⟨k,ha,f,hb,g,hc,rfl,rfl,rfl⟩
abbrev Brc:=Nat × Nat × Nat × Nat
def Brc.lt(a b:Brc):Prop:=a.1<b.1∨a.1=b.1∧(a.2.1<b.2.1∨a.2.1=b.2.1∧(a.2.2.1<b.2.2.1∨a.2.2.1=b.2.2.1∧a.2.2.2<b.2.2.2))
def brL(h:Nat→Nat→Nat→Nat→Bool)(all fst N:Nat):List Brc:=(range all).flatMap fun i=>((ae2 N (if i<fst then 1 else N)).filter fun x=>!h (i+1) x.1 x.2.1 x.2.2).map fun x=>(i+1,x)
theorem a3v{h:Nat→Nat→Nat→Nat→Bool}{all fst N:Nat}(b:Brc):b∈brL h all fst N↔1≤b.1∧b.1≤all∧b.2.1<N∧b.2.2.1<N∧b.2.2.2<N∧(b.1≤fst→b.2.2.2=0)∧h b.1 b.2.1 b.2.2.1 b.2.2.2=false:=by
 obtain ⟨p,k,f,g⟩:=b;simp only[brL,List.mem_flatMap,List.mem_map,mem_range,List.mem_filter,awz,Prod.mk.injEq,not_eq_true']
 constructor
 · rintro ⟨i,hi,⟨k',f',g'⟩,⟨⟨h1,h2,h3⟩,h4⟩,rfl,e⟩;simp only[Prod.mk.injEq] at e;obtain ⟨rfl,rfl,rfl⟩:=e
   dsimp only at h1 h2 h3 h4
   refine ⟨by omega,by omega,h1,h2,?_,fun hp=>?_,h4⟩
   · split at h3<;>omega
   · rw[if_pos (by omega)] at h3;omega
 · rintro ⟨h1,h2,h3,h4,h5,h6,h7⟩;refine ⟨p-1,by omega,(k,f,g),⟨⟨h3,h4,?_⟩,?_⟩,by omega,rfl⟩
   · dsimp only
     split
     · have:=h6 (by omega);omega
     · exact h5
   · rw[show p-1+1=p by omega];exact h7
def jo(rows:List (List Int)):D:=.sl (rows.map fun r=>[ab r])
def szT(a:Int):Nat:=if a=1 then 4 else if a=2 then 16 else 0
structure Vld(a:Int)(rows:List (List Int)):Prop where
 at_:a=1∨a=2
 len:rows.length=szT a
 row:∀ r∈rows,r.length=szT a
 ent:∀ r∈rows,∀ x∈r,0≤x∧x<(szT a:Int)
def ac9(a:Int)(rows:List (List Int)):Bool:=(decide (a=1) || decide (a=2))&&(decide (rows.length=szT a)&&rows.all fun r=>decide (r.length=szT a)&&r.all fun x=>decide (0≤x)&&decide (x<(szT a:Int)))
theorem qkl{a:Int}{rows:List (List Int)}:ac9 a rows=true↔Vld a rows:=by
 simp only[ac9,Bool.and_eq_true,or_eq_true,decide_eq_true_eq,List.all_eq_true]
 constructor
 · rintro ⟨h1,h2,h3⟩;exact ⟨h1,h2,fun r hr=>(h3 r hr).1,fun r hr=>(h3 r hr).2⟩
 · rintro ⟨h1,h2,h3,h4⟩;exact ⟨h1,h2,fun r hr=>⟨h3 r hr,h4 r hr⟩⟩
instance (a:Int) (rows:List (List Int)):Decidable (Vld a rows):=decidable_of_iff _ qkl
def tOf(rows:List (List Int)):Tbl:=fun k f=>ofInt 64 ((rows.getD k.toNat []).getD f.toNat 0)
def rowAt(rows:List (List Int))(k:BitVec 64):List Int:=rows.getD k.toNat []
theorem qnt(a:Int):szT a=0∨szT a=4∨szT a=16:=by
 unfold szT;split
 · exact .inr (.inl rfl)
 · split
   · exact .inr (.inr rfl)
   · exact .inl rfl
theorem qcj(a:Int):szT a≤16:=by rcases qnt a with h|h|h<;>omega
theorem ahr{N:Nat}{x y:BitVec 64}(h:x.toNat<N):(x&&&y).toNat<N:=by
 rw[toNat_and];exact Nat.lt_of_le_of_lt Nat.and_le_left h
theorem arj{a:Int}{x y:BitVec 64}(h:x.toNat<szT a)(h':y.toNat<szT a):(x|||y).toNat<szT a:=by
 rw[toNat_or];rcases qnt a with e|e|e
 · omega
 · rw[e] at h h' ⊢;exact Nat.or_lt_two_pow (n:=2) h h'
 · rw[e] at h h' ⊢;exact Nat.or_lt_two_pow (n:=4) h h'
section
variable {a:Int}{rows:List (List Int)}(hv:Vld a rows){k f:BitVec 64}(hk:k.toNat<szT a)(hf:f.toNat<szT a)
include hv hk
theorem aw7:rowAt rows k∈rows:=by
 unfold rowAt;rw[gd' (by rw[hv.len];exact hk)]
 exact getElem_mem _
 where gd' {rows:List (List Int)} {i:Nat} (h:i<rows.length):rows.getD i []=rows[i]:=by simp[h]
theorem tr:PO.eval (.row 1) [jo rows,ivD k]=some [ab (rowAt rows k)]:=by
 have h1:k.toNat<rows.length:=by rw[hv.len];exact hk
 have h2:(rows.map fun r=>[ab r])[k.toNat]? = some [ab (rowAt rows k)]:=by
  simp[rowAt,h1]
 show (if (0:Int)≤(k.toNat:Int) then (match (rows.map fun r=>[ab r])[(k.toNat:Int).toNat]? with|some r=>if r.length=1 then some r else none|none=>none) else none)=_
 rw[if_pos (by omega),Int.toNat_natCast,h2]
 rfl
include hf
theorem ahg:∃ x:Int,(rowAt rows k)[f.toNat]? = some x∧0≤x∧x<(szT a:Int)∧tOf rows k f=ofInt 64 x:=by
 have hm:=aw7 hv hk;have hl:=hv.row _ hm;have h1:f.toNat<(rowAt rows k).length:=by omega
 refine ⟨(rowAt rows k)[f.toNat],by simp[h1],(hv.ent _ hm _ (getElem_mem h1)).1,(hv.ent _ hm _ (getElem_mem h1)).2,?_⟩
 unfold tOf
 show ofInt 64 ((rowAt rows k).getD f.toNat 0)=_
 simp[h1]
theorem ak6:(tOf rows k f).toNat<szT a:=by
 obtain ⟨x,_,h0,h1,e⟩:=ahg hv hk hf;have:=qcj a;rw[e];obtain ⟨n,rfl⟩:=Int.eq_ofNat_of_zero_le h0
 have:(ofInt 64 (n:Int)).toNat=n:=by
  rw[BitVec.ofInt_natCast,BitVec.toNat_ofNat];omega
 rw[this];omega
theorem a6k:∃ x:Int,(rowAt rows k)[f.toNat]? = some x∧x=((tOf rows k f).toNat:Int):=by
 obtain ⟨x,hx,h0,h1,e⟩:=ahg hv hk hf;refine ⟨x,hx,?_⟩;have:=qcj a;rw[e];obtain ⟨n,rfl⟩:=Int.eq_ofNat_of_zero_le h0
 have:(ofInt 64 (n:Int)).toNat=n:=by
  rw[BitVec.ofInt_natCast,BitVec.toNat_ofNat];omega
 rw[this]
theorem tc:PO.eval (.row 1) [ab (rowAt rows k),ivD f]=some [ivD (tOf rows k f)]:=by
 obtain ⟨x,hx,e⟩:=a6k hv hk hf
 have h2:((rowAt rows k).map ie)[f.toNat]? = some [ivD (tOf rows k f)]:=by
  rw[List.getElem?_map,hx,Option.map_some,e];rfl
 show (if (0:Int)≤(f.toNat:Int) then (match ((rowAt rows k).map ie)[(f.toNat:Int).toNat]? with|some r=>if r.length=1 then some r else none|none=>none) else none)=_
 rw[if_pos (by omega),Int.toNat_natCast,h2]
 rfl
end
theorem atd(tb:Bool)(x:BitVec 64):PO.eval (.bin .eql tb) [ivD x,.int .i64 0]=some [.bool (decide (x=0#64))]:=by
 show one1 (some (.bool ((x.toNat:Int) == 0)))=_
 rw[show ((x.toNat:Int) == 0)=decide (x=0#64) by rw[Bool.eq_iff_iff];simp only[beq_iff_eq,decide_eq_true_eq];exact alp];rfl
theorem a0v(tb:Bool)(x:BitVec 64):PO.eval (.bin .neq tb) [ivD x,.int .i64 0]=some [.bool (!decide (x=0#64))]:=by
 show one1 (some (.bool (!((x.toNat:Int) == 0))))=_
 rw[show ((x.toNat:Int) == 0)=decide (x=0#64) by rw[Bool.eq_iff_iff];simp only[beq_iff_eq,decide_eq_true_eq];exact alp];rfl
theorem aql(tb:Bool)(x y:BitVec 64):PO.eval (.bin .eql tb) [ivD x,ivD y]=some [.bool (decide (x=y))]:=by
 show one1 (some (.bool ((x.toNat:Int) == (y.toNat:Int))))=_
 rw[show ((x.toNat:Int) == (y.toNat:Int))=decide (x=y) by rw[Bool.eq_iff_iff];simp only[beq_iff_eq,decide_eq_true_eq];exact ak0];rfl
section
variable (t:Tbl)(A k f g:BitVec 64)
end
def uo{α:Type}(q:α→Bool):Nat→List α→Int
 | _,[]=>-1
 | i,x::l=>if q x=true then i else uo q (i+1) l
theorem qsw{α:Type}(q:α→Bool):∀ (l:List α) (i:Nat),decide (uo q i l≥0)=l.any q
 | [],i=>rfl
 | x::l,i=>by
  simp only[uo,List.any_cons]
  by_cases h:q x=true
  · simp[h]
  · simp[h,qsw q l (i+1)]
theorem qfu{α:Type}(q:α→Bool){l:List α}{i:Nat}(h:i<l.length):uo q i (l.drop i)=if q l[i]=true then (i:Int) else uo q (i+1) (l.drop (i+1)):=by
 rw[List.drop_eq_getElem_cons h];rfl
def ua(S:Int)(x:Int):Bool:=decide (x<0) || decide (x≥S)
def rf(S:Int)(r:List Int):Bool:=decide ((r.length:Int)≠S) || r.any (ua S)
theorem ad1{rows:List (List Int)}{i:Nat}(h:i<rows.length):PO.eval (.row 1) [jo rows,.int .i64 i]=some [ab rows[i]]:=
 qpg (by omega) (by simp[h]) rfl
theorem qht(rows:List (List Int)):PO.eval .lenL [jo rows]=some [.int .i64 rows.length]:=by simp[jo,qkd]
theorem a49{a:Int}(ha:a=1∨a=2)(rows:List (List Int)):ac9 a rows = !(decide ((rows.length:Int)≠(szT a:Int)) || rows.any (rf (szT a:Int))):=by
 rw[Bool.eq_iff_iff,not_eq_true',or_eq_false_iff,decide_eq_false_iff_not,List.any_eq_false];rw[qkl]
 constructor
 · rintro ⟨_,h2,h3,h4⟩;refine ⟨by omega,fun r hr=>?_⟩
   rw[not_eq_true,rf,or_eq_false_iff,decide_eq_false_iff_not,List.any_eq_false];refine ⟨by have:=h3 r hr;omega,fun x hx=>?_⟩
   have:=h4 r hr x hx;simp[ua];omega
 · rintro ⟨h2,h3⟩;refine ⟨ha,by omega,fun r hr=>?_,fun r hr x hx=>?_⟩
   · have:=h3 r hr;rw[not_eq_true,rf,or_eq_false_iff,decide_eq_false_iff_not] at this;omega
   · have:=h3 r hr;rw[not_eq_true,rf,or_eq_false_iff,List.any_eq_false] at this;have:=this.2 x hx;simp[ua] at this;omega
end Am
