/- What functions of the program compute: lemmas. -/
import Derived.Test.YtnfecjmddbehiaaAm6
set_option linter.unusedSimpArgs false
set_option linter.unusedVariables false
set_option linter.unusedSectionVars false
namespace Am
open Go
def ivD (x : BitVec 64) : D := .int .i64 (x.toNat : Int)
def Sml (x : BitVec 64) : Prop := x.toNat < 9223372036854775808
theorem ofIntV (x : BitVec 64) : BitVec.ofInt 64 (x.toNat : Int) = x := ofIntU x
theorem wrapV {x : BitVec 64} (h : Sml x) : IntKind.i64.wrap (x.toNat : Int) = (x.toNat : Int) := wr (by omega) (by unfold Sml at h; omega)
theorem sml_and {x y : BitVec 64} (h : Sml x) : Sml (x &&& y) := by
 unfold Sml at *
 rw [BitVec.toNat_and]
 exact Nat.lt_of_le_of_lt Nat.and_le_left h
theorem sml_or {x y : BitVec 64} (h : Sml x) (h' : Sml y) : Sml (x ||| y) := by
 unfold Sml at *
 rw [BitVec.toNat_or]
 exact Nat.or_lt_two_pow (n := 63) h h'
theorem iv_and (tb : Bool) {x y : BitVec 64} (h : Sml x) : PO.eval (.bin .and tb) [ivD x,ivD y] = some [ivD (x &&& y)] := by
 show one1 (some (.int .i64 (IntKind.i64.wrap ((BitVec.ofInt 64 (x.toNat : Int) &&& BitVec.ofInt 64 (y.toNat : Int)).toNat : Int)))) = _
 rw [ofIntV,ofIntV,wrapV (sml_and h)]; rfl
theorem iv_or (tb : Bool) {x y : BitVec 64} (h : Sml x) (h' : Sml y) : PO.eval (.bin .or tb) [ivD x,ivD y] = some [ivD (x ||| y)] := by
 show one1 (some (.int .i64 (IntKind.i64.wrap ((BitVec.ofInt 64 (x.toNat : Int) ||| BitVec.ofInt 64 (y.toNat : Int)).toNat : Int)))) = _
 rw [ofIntV,ofIntV,wrapV (sml_or h h')]; rfl
theorem iv_andNot (tb : Bool) {x y : BitVec 64} (h : Sml x) : PO.eval (.bin .andNot tb) [ivD x,ivD y] = some [ivD (x &&& ~~~y)] := by
 show one1 (some (.int .i64 (IntKind.i64.wrap ((BitVec.ofInt 64 (x.toNat : Int) &&& ~~~BitVec.ofInt 64 (y.toNat : Int)).toNat : Int)))) = _
 rw [ofIntV,ofIntV,wrapV (sml_and h)]; rfl
theorem iv_inj {x y : BitVec 64} : (x.toNat : Int) = (y.toNat : Int) ↔ x = y := by
 constructor
 · intro h; exact BitVec.eq_of_toNat_eq (by omega)
 · rintro rfl; rfl
theorem iv_zero {x : BitVec 64} : (x.toNat : Int) = 0 ↔ x = 0#64 := by
 have := iv_inj (x := x) (y := 0#64)
 simpa using this
def subB (a b : BitVec 64) : Bool := decide (a &&& ~~~b = 0#64)
abbrev Tbl := BitVec 64 → BitVec 64 → BitVec 64
def revT (t : Tbl) (p : Nat) (k f g : BitVec 64) : Bool :=
 if p = 1 then subB (t k f) f
 else if p = 2 then decide (k &&& f = 0#64) || decide (t k f = k &&& f)
 else if p = 3 then decide (f = 0#64) || !decide (t k f = 0#64)
 else if p = 4 then subB (t k f &&& g) (t k (f &&& g))
 else decide (t k f &&& g = 0#64) || subB (t k (f &&& g)) (t k f &&& g)
def conT (all : BitVec 64) (t : Tbl) (p : Nat) (k f g : BitVec 64) : Bool :=
 if p = 1 then subB k (t k f)
 else if p = 2 then subB k f || decide (t k f = k)
 else if p = 3 then decide (f = all) || !subB (t k f) f
 else if p = 4 then subB (t k f &&& f) k
 else if p = 5 then subB (t k (f &&& g)) (t k f ||| t k g)
 else subB (t k (f &&& g)) f || subB (t k f) (t k (f &&& g))
def oneW (k : BitVec 64) : Bool := decide (k = 1#64) || (decide (k = 2#64) || (decide (k = 4#64) || decide (k = 8#64)))
def updT (t : Tbl) (p : Nat) (k f g : BitVec 64) : Bool :=
 if p = 1 then subB (t k f) f
 else if p = 2 then !subB k f || decide (t k f = k)
 else if p = 3 then decide (k = 0#64) || (decide (f = 0#64) || !decide (t k f = 0#64))
 else if p = 4 then subB (t k f &&& g) (t k (f &&& g))
 else if p = 5 then !subB (t k f) g || (!subB (t k g) f || decide (t k f = t k g))
 else if p = 6 then !oneW k || subB (t k f &&& t k g) (t k (f ||| g))
 else decide (t (k ||| g) f = t k f ||| t g f)
def holdsB (kind : Int) (all : BitVec 64) (t : Tbl) (p : Nat) (k f g : BitVec 64) : Bool := if kind = 1 then revT t p k f g else if kind = 2 then conT all t p k f g else updT t p k f g
def postN (kind : Int) : Nat × Nat := if kind = 1 then (5,3) else if kind = 2 then (6,4) else if kind = 3 then (7,3) else (0,0)
theorem subB_iff {a b : BitVec 64} : subB a b = true ↔ ∀ w,has a w → has b w := by
 unfold subB
 rw [decide_eq_true_eq,set_sub]
section
variable {N : Nat} {r : Nat → Int} {L : BitVec 64 → BitVec 64} (hL : Lst N r L)
include hL
theorem lst_sub (f : BitVec 64) : subB (L f) f = true := subB_iff.2 fun w hw => ((hL.get f w).1 hw).2.1
theorem lst_and (f g : BitVec 64) : subB (L f &&& g) (L (f &&& g)) = true := subB_iff.2 fun w hw => by
 rw [has_and,hL.get] at hw
 exact (hL.get _ _).2 ⟨hw.1.1,has_and.2 ⟨hw.1.2.1,hw.2⟩,fun v hv h => hw.1.2.2 v hv (has_and.1 h).1⟩
theorem lst_cap (f g : BitVec 64) (h : L f &&& g ≠ 0#64) : subB (L (f &&& g)) (L f &&& g) = true := subB_iff.2 fun w hw => by
 obtain ⟨u,hu⟩ := set_ne h
 rw [has_and,hL.get] at hu
 rw [hL.get] at hw
 have hw2 := has_and.1 hw.2.1
 refine has_and.2 ⟨(hL.get _ _).2 ⟨hw.1,hw2.1,fun v hv hf => ?_⟩,hw2.2⟩
 exact Int.le_trans (hw.2.2 u hu.1.1 (has_and.2 ⟨hu.1.2.1,hu.2⟩)) (hu.1.2.2 v hv hf)
theorem lst_or (f g : BitVec 64) : subB (L f &&& L g) (L (f ||| g)) = true := subB_iff.2 fun w hw => by
 rw [has_and,hL.get,hL.get] at hw
 refine (hL.get _ _).2 ⟨hw.1.1,has_or.2 (.inl hw.1.2.1),fun v hv h => ?_⟩
 rcases has_or.1 h with h | h
 · exact hw.1.2.2 v hv h
 · exact hw.2.2.2 v hv h
end
end Am

namespace Am
open Go
def Ovr (N : Nat) (x : BitVec 64) : Prop := ∀ w,has x w → w < N
def Fit (k : BitVec 64) (L : BitVec 64 → BitVec 64) : Prop := k ≠ 0#64 → L (BitVec.allOnes 64) = k
theorem subB_false {a b : BitVec 64} : subB a b = false ↔ ∃ w,has a w ∧ ¬ has b w := by
 unfold subB
 rw [decide_eq_false_iff_not]
 constructor
 · intro h
   obtain ⟨w,hw⟩ := set_ne h
   exact ⟨w,has_diff.1 hw⟩
 · rintro ⟨w,hw⟩
   exact ne_of_has (has_diff.2 hw)
section
variable {N : Nat} {r : Nat → Int} {L : BitVec 64 → BitVec 64} (hL : Lst N r L) {k f g A : BitVec 64} {t : Tbl}
include hL
theorem lst_some (hf : Ovr N f) (h : f ≠ 0#64) : ∃ w,has (L f) w := by
 obtain ⟨v,hv⟩ := set_ne h
 exact hL.ex (hf v hv) hv
theorem fit_mem (hk : Fit k L) {w : Nat} (h : has k w) : w < N ∧ ∀ v,v < N → r w ≤ r v := by
 have := hk (ne_of_has h)
 rw [← this,hL.get] at h
 exact ⟨h.1,fun v hv => h.2.2 v hv (has_top.2 (Nat.lt_of_lt_of_le hv hL.le))⟩
theorem fit_has (hk : Fit k L) {w u : Nat} (h : has k w) (hu : u < N) (hr : ∀ v,v < N → r u ≤ r v) : has k u := by
 have := hk (ne_of_has h)
 rw [← this,hL.get]
 exact ⟨hu,has_top.2 (Nat.lt_of_lt_of_le hu hL.le),fun v hv _ => hr v hv⟩
theorem rev_none (hk : Fit k L) (ht : ∀ x,Ovr N x → t k x = L x) (hf : Ovr N f) (p : Nat) : revT t p k f g = true := by
 have hfg : Ovr N (f &&& g) := fun w h => hf w (has_and.1 h).1
 unfold revT
 rw [ht f hf,ht _ hfg]
 split
 · exact lst_sub hL f
 split
 · rw [Bool.or_eq_true,decide_eq_true_eq,decide_eq_true_eq]
   refine Classical.or_iff_not_imp_left.2 fun h0 => set_eq fun w => ?_
   obtain ⟨u,hu⟩ := set_ne h0
   rw [has_and] at hu
   obtain ⟨hu1,hu2⟩ := fit_mem hL hk hu.1
   rw [hL.get,has_and]
   constructor
   · rintro ⟨h1,h2,h3⟩
     exact ⟨fit_has hL hk hu.1 h1 fun v hv => Int.le_trans (h3 u hu1 hu.2) (hu2 v hv),h2⟩
   · rintro ⟨h1,h2⟩
     obtain ⟨h3,h4⟩ := fit_mem hL hk h1
     exact ⟨h3,h2,fun v hv _ => h4 v hv⟩
 split
 · rw [Bool.or_eq_true,decide_eq_true_eq,Bool.not_eq_true',decide_eq_false_iff_not]
   refine Classical.or_iff_not_imp_left.2 fun h0 => ?_
   obtain ⟨w,hw⟩ := lst_some hL hf h0
   exact ne_of_has hw
 split
 · exact lst_and hL f g
 · rw [Bool.or_eq_true,decide_eq_true_eq]
   exact Classical.or_iff_not_imp_left.2 fun h0 => lst_cap hL f g h0
theorem con_none (hA : ∀ w,has A w ↔ w < N) (hk : Fit k L) (ht : ∀ x,Ovr N x → t k x = k ||| L (A &&& ~~~x)) (hf : Ovr N f) (hg : Ovr N g) (p : Nat) : conT A t p k f g = true := by
 have hfg : Ovr N (f &&& g) := fun w h => hf w (has_and.1 h).1
 have hm : ∀ x w,has (L (A &&& ~~~x)) w ↔ w < N ∧ ¬ has x w ∧ ∀ v,v < N → ¬ has x v → r w ≤ r v := fun x w => by
  rw [hL.get,has_diff,hA]
  constructor
  · rintro ⟨h1,h2,h3⟩; exact ⟨h1,h2.2,fun v hv h => h3 v hv (has_diff.2 ⟨(hA v).2 hv,h⟩)⟩
  · rintro ⟨h1,h2,h3⟩; exact ⟨h1,⟨h1,h2⟩,fun v hv h => h3 v hv (has_diff.1 h).2⟩
 unfold conT
 rw [ht f hf,ht g hg,ht _ hfg]
 split
 · exact subB_iff.2 fun w h => has_or.2 (.inl h)
 split
 · rw [Bool.or_eq_true,decide_eq_true_eq]
   refine Classical.or_iff_not_imp_left.2 fun h0 => set_eq fun w => ?_
   obtain ⟨u,hu1,hu2⟩ := subB_false.1 (Bool.eq_false_iff.2 h0)
   obtain ⟨hu3,hu4⟩ := fit_mem hL hk hu1
   rw [has_or,hm]
   refine ⟨?_,.inl⟩
   rintro (h | ⟨h1,h2,h3⟩)
   · exact h
   · exact fit_has hL hk hu1 h1 fun v hv => Int.le_trans (h3 u hu3 hu2) (hu4 v hv)
 split
 · rw [Bool.or_eq_true,decide_eq_true_eq,Bool.not_eq_true']
   refine Classical.or_iff_not_imp_left.2 fun h0 => subB_false.2 ?_
   have : A &&& ~~~f ≠ 0#64 := fun h => h0 (set_eq fun w => ⟨fun hw => (hA w).2 (hf w hw),set_sub.1 h w⟩)
   obtain ⟨w,hw⟩ := lst_some hL (fun w h => (hA w).1 (has_diff.1 h).1) this
   exact ⟨w,has_or.2 (.inr hw),((hm f w).1 hw).2.1⟩
 split
 · refine subB_iff.2 fun w h => ?_
   rw [has_and,has_or,hm] at h
   rcases h.1 with h1 | h1
   · exact h1
   · exact absurd h.2 h1.2.1
 split
 · refine subB_iff.2 fun w h => ?_
   rw [has_or,hm] at h
   rw [has_or,has_or,has_or,hm,hm]
   rcases h with h | ⟨h1,h2,h3⟩
   · exact .inl (.inl h)
   · by_cases hwf : has f w
     · have : ¬ has g w := fun hw => h2 (has_and.2 ⟨hwf,hw⟩)
       exact .inr (.inr ⟨h1,this,fun v hv hn => h3 v hv fun hh => hn (has_and.1 hh).2⟩)
     · exact .inl (.inr ⟨h1,hwf,fun v hv hn => h3 v hv fun hh => hn (has_and.1 hh).1⟩)
 · rw [Bool.or_eq_true]
   refine Classical.or_iff_not_imp_left.2 fun h0 => subB_iff.2 fun w h => ?_
   obtain ⟨u,hu1,hu2⟩ := subB_false.1 (Bool.eq_false_iff.2 h0)
   rw [has_or,hm] at h hu1
   rw [has_or,hm]
   rcases h with h | ⟨h1,h2,h3⟩
   · exact .inl h
   rcases hu1 with hu | ⟨hu3,hu4,hu5⟩
   · obtain ⟨hu3,hu4⟩ := fit_mem hL hk hu
     exact .inl (fit_has hL hk hu h1 fun v hv => Int.le_trans (h3 u hu3 hu2) (hu4 v hv))
   · exact .inr ⟨h1,fun hh => h2 (has_and.1 hh).1,fun v hv hn => Int.le_trans (h3 u hu3 hu2) (hu5 v hv hn)⟩
end
section
variable {N : Nat} {r : Nat → Nat → Int} {L : Nat → BitVec 64 → BitVec 64} (hL : ∀ v,v < N → Lst N (r v) (L v)) (hk : ∀ v,v < N → ∀ w,has (L v (BitVec.allOnes 64)) w ↔ w = v) {t : Tbl}
 (ht : ∀ k f,Ovr N k → Ovr N f → ∀ w,has (t k f) w ↔ ∃ v,v < N ∧ has k v ∧ has (L v f) w) {k f g : BitVec 64}
include hL hk ht
theorem upd_none (h4 : N ≤ 4) (ok : Ovr N k) (of : Ovr N f) (og : Ovr N g) (p : Nat) : updT t p k f g = true := by
 have ofg : Ovr N (f &&& g) := fun w h => of w (has_and.1 h).1
 have oo : ∀ {a b},Ovr N a → Ovr N b → Ovr N (a ||| b) := fun ha hb w h => (has_or.1 h).elim (ha w) (hb w)
 have hself : ∀ v,v < N → has f v → ∀ w,has (L v f) w ↔ w = v := fun v hv hf w => by
  have h1 := (hk v hv v).2 rfl
  rw [(hL v hv).get] at h1
  have h1' : ∀ u,u < N → r v v ≤ r v u := fun u hu => h1.2.2 u hu (has_top.2 (Nat.lt_of_lt_of_le hu (hL v hv).le))
  rw [(hL v hv).get]
  constructor
  · rintro ⟨h2,h3,h4⟩
    refine (hk v hv w).1 (((hL v hv).get _ _).2 ⟨h2,has_top.2 (Nat.lt_of_lt_of_le h2 (hL v hv).le),fun u hu _ => Int.le_trans (h4 v hv hf) (h1' u hu)⟩)
  · rintro rfl; exact ⟨hv,hf,fun u hu _ => h1' u hu⟩
 have hsub : ∀ k f,Ovr N k → Ovr N f → ∀ w,has (t k f) w → has f w := fun k f ok of w h => by
  obtain ⟨v,hv,_,h2⟩ := (ht k f ok of w).1 h
  exact (((hL v hv).get _ _).1 h2).2.1
 unfold updT
 split
 · exact subB_iff.2 (hsub k f ok of)
 split
 · rw [Bool.or_eq_true,Bool.not_eq_true',decide_eq_true_eq]
   refine Classical.or_iff_not_imp_left.2 fun h0 => set_eq fun w => ?_
   have hs := subB_iff.1 (Bool.not_eq_false _ ▸ h0 : subB k f = true)
   rw [ht k f ok of]
   constructor
   · rintro ⟨v,hv,h1,h2⟩
     rw [(hself v hv (hs v h1) w).1 h2]; exact h1
   · intro h; exact ⟨w,ok w h,h,(hself w (ok w h) (hs w h) w).2 rfl⟩
 split
 · rw [Bool.or_eq_true,Bool.or_eq_true,decide_eq_true_eq,decide_eq_true_eq,Bool.not_eq_true',decide_eq_false_iff_not]
   refine Classical.or_iff_not_imp_left.2 fun h0 => Classical.or_iff_not_imp_left.2 fun h1 => ?_
   obtain ⟨v,hv⟩ := set_ne h0
   obtain ⟨w,hw⟩ := lst_some (hL v (ok v hv)) of h1
   exact ne_of_has ((ht k f ok of w).2 ⟨v,ok v hv,hv,hw⟩)
 split
 · refine subB_iff.2 fun w h => ?_
   rw [has_and,ht k f ok of] at h
   obtain ⟨⟨v,hv,h1,h2⟩,h3⟩ := h
   exact (ht _ _ ok ofg w).2 ⟨v,hv,h1,subB_iff.1 (lst_and (hL v hv) f g) w (has_and.2 ⟨h2,h3⟩)⟩
 split
 · rw [Bool.or_eq_true,Bool.or_eq_true,decide_eq_true_eq,Bool.not_eq_true',Bool.not_eq_true']
   refine Classical.or_iff_not_imp_left.2 fun h0 => Classical.or_iff_not_imp_left.2 fun h1 => set_eq fun w => ?_
   have s1 := subB_iff.1 (Bool.not_eq_false _ ▸ h0 : subB (t k f) g = true)
   have s2 := subB_iff.1 (Bool.not_eq_false _ ▸ h1 : subB (t k g) f = true)
   have key : ∀ f g,Ovr N f → Ovr N g → (∀ w,has (t k f) w → has g w) → (∀ w,has (t k g) w → has f w) → ∀ w,has (t k f) w → has (t k g) w := by
    intro f g of og s1 s2 w h
    have hw := h
    rw [ht k f ok of] at h
    obtain ⟨v,hv,h1,h2⟩ := h
    refine (ht _ _ ok og w).2 ⟨v,hv,h1,?_⟩
    rw [(hL v hv).get] at h2 ⊢
    refine ⟨h2.1,s1 w hw,fun u hu hgu => ?_⟩
    obtain ⟨x,hx⟩ := (hL v hv).ex hu hgu
    have hx' := hx
    rw [(hL v hv).get] at hx'
    exact Int.le_trans (h2.2.2 x hx'.1 (s2 x ((ht _ _ ok og x).2 ⟨v,hv,h1,hx⟩))) (hx'.2.2 u hu hgu)
   exact ⟨key f g of og s1 s2 w,key g f og of s2 s1 w⟩
 split
 · rw [Bool.or_eq_true,Bool.not_eq_true']
   refine Classical.or_iff_not_imp_left.2 fun h0 => subB_iff.2 fun w h => ?_
   have h1 : oneW k = true := Bool.not_eq_false _ ▸ h0
   have h2 : ∃ v,v < 4 ∧ k = BitVec.ofNat 64 (2 ^ v) := by
    simp only [oneW,Bool.or_eq_true,decide_eq_true_eq] at h1
    rcases h1 with h | h | h | h
    · exact ⟨0,by omega,h⟩
    · exact ⟨1,by omega,h⟩
    · exact ⟨2,by omega,h⟩
    · exact ⟨3,by omega,h⟩
   obtain ⟨v,hv,rfl⟩ := h2
   have h3 : ∀ u,has (BitVec.ofNat 64 (2 ^ v)) u → u = v := fun u hu => by
    have hl := has_lt hu
    rw [has] at hu
    have hh : ∀ v : _root_.Fin 4,∀ u : _root_.Fin 64,(BitVec.ofNat 64 (2 ^ v.1)).getLsbD u.1 = true → u.1 = v.1 := by decide
    exact hh ⟨v,hv⟩ ⟨u,hl⟩ hu
   rw [has_and,ht _ f ok of,ht _ g ok og] at h
   obtain ⟨⟨a,ha,a1,a2⟩,b,hb,b1,b2⟩ := h
   obtain rfl := h3 a a1
   obtain rfl := h3 b b1
   exact (ht _ _ ok (oo of og) w).2 ⟨b,hb,b1,subB_iff.1 (lst_or (hL b hb) f g) w (has_and.2 ⟨a2,b2⟩)⟩
 · rw [decide_eq_true_eq]
   refine set_eq fun w => ?_
   rw [has_or,ht _ f (oo ok og) of,ht k f ok of,ht g f og of]
   constructor
   · rintro ⟨v,hv,h1,h2⟩
     exact (has_or.1 h1).elim (fun h => .inl ⟨v,hv,h,h2⟩) fun h => .inr ⟨v,hv,h,h2⟩
   · rintro (⟨v,hv,h1,h2⟩ | ⟨v,hv,h1,h2⟩)
     · exact ⟨v,hv,has_or.2 (.inl h1),h2⟩
     · exact ⟨v,hv,has_or.2 (.inr h1),h2⟩
end
end Am

namespace Am
open Go
section
variable {n : Nat} (hn : n ≤ 64) {K A B M X Y : BitVec 64} {d : Int} {v : Int}
include hn
end
end Am

namespace Am
open Go
end Am

namespace Am
open Go
def two (a b : Nat) : BitVec 64 := 1#64 <<< a ||| 1#64 <<< b
theorem has_two {a b w : Nat} (ha : a < 64) (hb : b < 64) : has (two a b) w ↔ w = a ∨ w = b := by
 unfold two
 rw [has_or,has,has,one_shl_get _ _ ha,one_shl_get _ _ hb,decide_eq_true_eq,decide_eq_true_eq]
def rkc (c : BitVec 64 → BitVec 64) (N : Nat) (a : Nat) : Nat := (List.range N).countP fun b => decide (c (two a b) &&& two a b = 1#64 <<< b) && !decide (a = b)
structure Cho (N : Nat) (c : BitVec 64 → BitVec 64) : Prop where
 le : N ≤ 64
 sub : ∀ f w,Ovr N f → has (c f) w → has f w
 some : ∀ f,Ovr N f → f ≠ 0#64 → ∃ w,has (c f) w
 up : ∀ f g w,Ovr N f → Ovr N g → has (c f) w → has g w → has (c (f &&& g)) w
 cap : ∀ f g u w,Ovr N f → Ovr N g → has (c f) u → has g u → has (c (f &&& g)) w → has (c f) w
section
variable {N : Nat} {c : BitVec 64 → BitVec 64} (h : Cho N c)
include h
theorem Cho.ovr {a b : Nat} (ha : a < N) (hb : b < N) : Ovr N (two a b) := fun w hw => by
 have := h.le
 rcases (has_two (by omega) (by omega)).1 hw with rfl | rfl <;> assumption
theorem Cho.cut {f : BitVec 64} {a b : Nat} (ha : a < N) (hb : b < N) (fa : has f a) (fb : has f b) : f &&& two a b = two a b := by
 have := h.le
 refine set_eq fun w => ?_
 rw [has_and,has_two (by omega) (by omega)]
 constructor
 · exact fun x => x.2
 · rintro (rfl | rfl)
   · exact ⟨fa,.inl rfl⟩
   · exact ⟨fb,.inr rfl⟩
theorem Cho.comm {a b : Nat} (ha : a < N) (hb : b < N) : two a b = two b a := set_eq fun w => by
 have := h.le
 rw [has_two (by omega) (by omega),has_two (by omega) (by omega)]; exact or_comm
def lec (c : BitVec 64 → BitVec 64) (a b : Nat) : Prop := has (c (two a b)) a
theorem Cho.total {a b : Nat} (ha : a < N) (hb : b < N) : lec c a b ∨ lec c b a := by
 have hN := h.le
 obtain ⟨w,hw⟩ := h.some (two a b) (h.ovr ha hb) (ne_of_has ((has_two (by omega) (by omega)).2 (.inl rfl)))
 rcases (has_two (by omega) (by omega)).1 (h.sub _ _ (h.ovr ha hb) hw) with rfl | rfl
 · exact .inl hw
 · right; unfold lec; rw [h.comm hb ha]; exact hw
theorem Cho.down {f : BitVec 64} (hf : Ovr N f) {w v : Nat} (hw : has (c f) w) (hv : has f v) : lec c w v := by
 have hN := h.le
 have fw := h.sub _ _ hf hw
 have := h.up f (two w v) w hf (h.ovr (hf w fw) (hf v hv)) hw ((has_two (by have := hf w fw; omega) (by have := hf v hv; omega)).2 (.inl rfl))
 rwa [h.cut (hf w fw) (hf v hv) fw hv] at this
theorem Cho.step {f : BitVec 64} (hf : Ovr N f) {u w : Nat} (hu : has (c f) u) (fw : has f w) (hl : lec c w u) : has (c f) w := by
 have hN := h.le
 have fu := h.sub _ _ hf hu
 have hwN := hf w fw
 have huN := hf u fu
 refine h.cap f (two w u) u w hf (h.ovr hwN huN) hu ((has_two (by omega) (by omega)).2 (.inr rfl)) ?_
 rw [h.cut hwN huN fw fu]; exact hl
theorem Cho.trans {a b d : Nat} (ha : a < N) (hb : b < N) (hd : d < N) (h1 : lec c a b) (h2 : lec c b d) : lec c a d := by
 have hN := h.le
 have hm : ∀ w,has (two a b ||| two b d) w ↔ w = a ∨ w = b ∨ w = d := fun w => by
  rw [has_or,has_two (by omega) (by omega),has_two (by omega) (by omega)]
  constructor
  · rintro ((h | h) | (h | h)) <;> simp [h]
  · rintro (h | h | h) <;> simp [h]
 have ho : Ovr N (two a b ||| two b d) := fun w hw => by
  rcases (hm w).1 hw with rfl | rfl | rfl <;> assumption
 have fa := (hm a).2 (.inl rfl)
 have fb := (hm b).2 (.inr (.inl rfl))
 have fd := (hm d).2 (.inr (.inr rfl))
 obtain ⟨u,hu⟩ := h.some _ ho (ne_of_has fa)
 have key : has (c (two a b ||| two b d)) a := by
  rcases (hm u).1 (h.sub _ _ ho hu) with rfl | rfl | rfl
  · exact hu
  · exact h.step ho hu fa h1
  · exact h.step ho (h.step ho hu fb h2) fa h1
 exact h.down ho key fd
theorem Cho.before {a b : Nat} (ha : a < N) (hb : b < N) : (decide (c (two a b) &&& two a b = 1#64 <<< b) && !decide (a = b)) = true ↔ ¬ lec c a b := by
 have hN := h.le
 rw [Bool.and_eq_true,decide_eq_true_eq,Bool.not_eq_true',decide_eq_false_iff_not]
 have hs : c (two a b) &&& two a b = c (two a b) := set_eq fun w => by
  rw [has_and]; exact ⟨fun x => x.1,fun x => ⟨x,h.sub _ _ (h.ovr ha hb) x⟩⟩
 rw [hs]
 constructor
 · rintro ⟨h1,h2⟩ hl
   unfold lec at hl
   rw [h1,has,one_shl_get _ _ (by omega),decide_eq_true_eq] at hl
   exact h2 hl
 · intro hl
   refine ⟨set_eq fun w => ?_,fun e => ?_⟩
   · have hw1 : has (1#64 <<< b) w ↔ w = b := by
      rw [has,one_shl_get _ _ (by omega),decide_eq_true_eq]
     rw [hw1]
     constructor
     · intro hw
       rcases (has_two (by omega) (by omega)).1 (h.sub _ _ (h.ovr ha hb) hw) with rfl | rfl
       · exact absurd hw hl
       · rfl
     · rintro rfl
       have := (h.total ha hb).resolve_left hl
       unfold lec at this
       rwa [h.comm hb ha] at this
   · subst e
     exact hl ((h.total ha ha).elim id id)
omit h in
theorem countP_lt {l : List Nat} {p q : Nat → Bool} (hpq : ∀ x ∈ l,p x = true → q x = true) {y : Nat} (hy : y ∈ l) (hp : p y = false) (hq : q y = true) : l.countP p < l.countP q := by
 induction l with
 | nil => cases hy
 | cons a l ih =>
  have hm : l.countP p ≤ l.countP q := List.countP_mono_left fun x hx => hpq x (List.mem_cons_of_mem _ hx)
  rw [List.countP_cons,List.countP_cons]
  rcases List.mem_cons.1 hy with rfl | hy
  · rw [hp,hq]; simp; omega
  · have := ih (fun x hx => hpq x (List.mem_cons_of_mem _ hx)) hy
    have := hpq a List.mem_cons_self
    cases ha : p a
    · simp; split <;> omega
    · rw [this ha]; simp; omega
theorem Cho.rk {a b : Nat} (ha : a < N) (hb : b < N) : rkc c N a ≤ rkc c N b ↔ lec c a b := by
 unfold rkc
 constructor
 · intro hr
   refine Classical.byContradiction fun hl => ?_
   have hl' := (h.total ha hb).resolve_left hl
   refine absurd hr (Nat.not_le.2 (countP_lt (y := b) (fun x hx hp => ?_) (List.mem_range.2 hb) ?_ ((h.before ha hb).2 hl)))
   · have hx := List.mem_range.1 hx
     exact (h.before ha hx).2 fun hax => (h.before hb hx).1 hp (h.trans hb ha hx hl' hax)
   · exact Bool.eq_false_iff.2 fun hp => (h.before hb hb).1 hp ((h.total hb hb).elim id id)
 · intro hl
   refine List.countP_mono_left fun x hx hp => ?_
   have hx := List.mem_range.1 hx
   exact (h.before hb hx).2 fun hbx => (h.before ha hx).1 hp (h.trans ha hb hx hl hbx)
end
section
variable {N : Nat} (hN : N ≤ 64) {t : Tbl} {k A : BitVec 64} (hA : ∀ w,has A w ↔ w < N) (ok : Ovr N k) (ot : ∀ f,Ovr N f → Ovr N (t k f))
include hN hA ok
end
end Am

namespace Am
open Go
def Chs (N : Nat) (o : List Int) (c : BitVec 64 → BitVec 64) : Prop := ∀ S,Ovr N S → ∀ w,has (c S) w ↔ w < N ∧ has S w ∧ ∀ v,v < N → has S v → o.getD w 0 ≤ o.getD v 0
section
variable {N : Nat} {o : List Int} {c : BitVec 64 → BitVec 64} (hN : N ≤ 64) (ho : o.length = N) (hc : Chs N o c)
include hN ho hc
structure LvI (l : Nat) (S : BitVec 64) (q : List Int) : Prop where
 len : q.length = N
 ovr : Ovr N S
 lt : ∀ w,w < N → ¬ has S w → q.getD w 0 < (l : Int)
 ord : ∀ w v,w < N → v < N → ¬ has S w → ¬ has S v → (q.getD w 0 < q.getD v 0 ↔ o.getD w 0 < o.getD v 0)
 sep : ∀ w v,w < N → v < N → ¬ has S w → has S v → o.getD w 0 < o.getD v 0
end
end Am

namespace Am
open Go
theorem range_mul (a b : Nat) : List.range (a * b) = (List.range a).flatMap fun i => (List.range b).map fun j => i * b + j := by
 induction a with
 | zero => simp
 | succ a ih => rw [Nat.succ_mul,List.range_add,ih,List.range_succ,List.flatMap_append]; simp
theorem flatMap_cg {α β : Type} {l : List α} {f g : α → List β} (h : ∀ x ∈ l,f x = g x) : l.flatMap f = l.flatMap g := by rw [List.flatMap_def,List.flatMap_def,List.map_congr_left h]
def trip (N s : Nat) : List (Nat × Nat × Nat) := (List.range N).flatMap fun k => (List.range N).flatMap fun f => (List.range s).map fun g => (k,f,g)
theorem range_trip {N s : Nat} (hN : 0 < N) (hs : 0 < s) : (List.range (N * N * s)).map (fun n => (n / s / N,n / s % N,n % s)) = trip N s := by
 rw [Nat.mul_assoc,range_mul,List.map_flatMap]
 unfold trip
 refine flatMap_cg fun k _ => ?_
 rw [range_mul,List.map_flatMap,List.map_flatMap]
 refine flatMap_cg fun f hf => ?_
 have hf := List.mem_range.1 hf
 rw [List.map_map,List.map_map]
 refine List.map_congr_left fun g hg => ?_
 have hg := List.mem_range.1 hg
 have e1 : (k * (N * s) + (f * s + g)) / s = k * N + f := by
  rw [show k * (N * s) + (f * s + g) = g + (k * N + f) * s by rw [Nat.add_mul,Nat.mul_assoc]; omega,Nat.add_mul_div_right _ _ hs,Nat.div_eq_of_lt hg,Nat.zero_add]
 have e2 : (k * (N * s) + (f * s + g)) % s = g := by
  rw [show k * (N * s) + (f * s + g) = g + (k * N + f) * s by rw [Nat.add_mul,Nat.mul_assoc]; omega,Nat.add_mul_mod_self_right,Nat.mod_eq_of_lt hg]
 have e3 : (k * N + f) / N = k := by rw [Nat.add_comm,Nat.add_mul_div_right _ _ hN,Nat.div_eq_of_lt hf,Nat.zero_add]
 have e4 : (k * N + f) % N = f := by rw [Nat.add_comm,Nat.add_mul_mod_self_right,Nat.mod_eq_of_lt hf]
 simp only [Function.comp_apply,e1,e2,e3,e4]
theorem mem_trip {N s : Nat} {x : Nat × Nat × Nat} : x ∈ trip N s ↔ x.1 < N ∧ x.2.1 < N ∧ x.2.2 < s := by
 obtain ⟨k,f,g⟩ := x
 simp only [trip,List.mem_flatMap,List.mem_map,List.mem_range,Prod.mk.injEq]
 constructor
 · rintro ⟨a,ha,b,hb,c,hc,rfl,rfl,rfl⟩; exact ⟨ha,hb,hc⟩
 · rintro ⟨ha,hb,hc⟩; exact ⟨k,ha,f,hb,g,hc,rfl,rfl,rfl⟩
abbrev Brc := Nat × Nat × Nat × Nat
def Brc.lt (a b : Brc) : Prop := a.1 < b.1 ∨ a.1 = b.1 ∧ (a.2.1 < b.2.1 ∨ a.2.1 = b.2.1 ∧ (a.2.2.1 < b.2.2.1 ∨ a.2.2.1 = b.2.2.1 ∧ a.2.2.2 < b.2.2.2))
def brL (h : Nat → Nat → Nat → Nat → Bool) (all fst N : Nat) : List Brc := (List.range all).flatMap fun i => ((trip N (if i < fst then 1 else N)).filter fun x => !h (i + 1) x.1 x.2.1 x.2.2).map fun x => (i + 1,x)
theorem mem_brL {h : Nat → Nat → Nat → Nat → Bool} {all fst N : Nat} (b : Brc) : b ∈ brL h all fst N ↔ 1 ≤ b.1 ∧ b.1 ≤ all ∧ b.2.1 < N ∧ b.2.2.1 < N ∧ b.2.2.2 < N ∧ (b.1 ≤ fst → b.2.2.2 = 0) ∧ h b.1 b.2.1 b.2.2.1 b.2.2.2 = false := by
 obtain ⟨p,k,f,g⟩ := b
 simp only [brL,List.mem_flatMap,List.mem_map,List.mem_range,List.mem_filter,mem_trip,Prod.mk.injEq,Bool.not_eq_true']
 constructor
 · rintro ⟨i,hi,⟨k',f',g'⟩,⟨⟨h1,h2,h3⟩,h4⟩,rfl,e⟩
   simp only [Prod.mk.injEq] at e
   obtain ⟨rfl,rfl,rfl⟩ := e
   dsimp only at h1 h2 h3 h4
   refine ⟨by omega,by omega,h1,h2,?_,fun hp => ?_,h4⟩
   · split at h3 <;> omega
   · rw [if_pos (by omega)] at h3; omega
 · rintro ⟨h1,h2,h3,h4,h5,h6,h7⟩
   refine ⟨p - 1,by omega,(k,f,g),⟨⟨h3,h4,?_⟩,?_⟩,by omega,rfl⟩
   · dsimp only
     split
     · have := h6 (by omega); omega
     · exact h5
   · rw [show p - 1 + 1 = p by omega]; exact h7
theorem brL_sorted (h : Nat → Nat → Nat → Nat → Bool) (all fst N : Nat) : (brL h all fst N).Pairwise Brc.lt := by
 unfold brL
 rw [List.pairwise_flatMap]
 refine ⟨fun i _ => ?_,List.Pairwise.imp (fun {a b} hab => fun x hx y hy => ?_) List.pairwise_lt_range⟩
 · rw [List.pairwise_map]
   refine List.Pairwise.filter _ ?_
   unfold trip
   rw [List.pairwise_flatMap]
   refine ⟨fun k _ => ?_,List.Pairwise.imp (fun {a b} hab => fun x hx y hy => ?_) List.pairwise_lt_range⟩
   · rw [List.pairwise_flatMap]
     refine ⟨fun f _ => ?_,List.Pairwise.imp (fun {a b} hab => fun x hx y hy => ?_) List.pairwise_lt_range⟩
     · rw [List.pairwise_map]
       exact List.Pairwise.imp (fun {a b} hab => .inr ⟨rfl,.inr ⟨rfl,.inr ⟨rfl,hab⟩⟩⟩) List.pairwise_lt_range
     · obtain ⟨_,_,rfl⟩ := List.mem_map.1 hx
       obtain ⟨_,_,rfl⟩ := List.mem_map.1 hy
       exact .inr ⟨rfl,.inr ⟨rfl,.inl hab⟩⟩
   · obtain ⟨_,_,hx⟩ := List.mem_flatMap.1 hx
     obtain ⟨_,_,hy⟩ := List.mem_flatMap.1 hy
     obtain ⟨_,_,rfl⟩ := List.mem_map.1 hx
     obtain ⟨_,_,rfl⟩ := List.mem_map.1 hy
     exact .inr ⟨rfl,.inl hab⟩
 · obtain ⟨_,_,rfl⟩ := List.mem_map.1 hx
   obtain ⟨_,_,rfl⟩ := List.mem_map.1 hy
   exact .inl (Nat.succ_lt_succ hab)
theorem brL_least {h : Nat → Nat → Nat → Nat → Bool} {all fst N : Nat} {b : Brc} (hb : (brL h all fst N).head? = some b) {c : Brc} (hc : c ∈ brL h all fst N) : ¬ Brc.lt c b := by
 have hs := brL_sorted h all fst N
 cases e : brL h all fst N with
 | nil => rw [e] at hb; simp at hb
 | cons a l =>
  rw [e] at hb hc hs
  simp only [List.head?_cons,Option.some.injEq] at hb
  subst hb
  rcases List.mem_cons.1 hc with rfl | hc
  · unfold Brc.lt; omega
  · have := (List.pairwise_cons.1 hs).1 c hc
    unfold Brc.lt at *; omega
end Am

namespace Am
open Go
def tabD (rows : List (List Int)) : D := .sl (rows.map fun r => [numsD r])
def szT (a : Int) : Nat := if a = 1 then 4 else if a = 2 then 16 else 0
structure Vld (a : Int) (rows : List (List Int)) : Prop where
 at_ : a = 1 ∨ a = 2
 len : rows.length = szT a
 row : ∀ r ∈ rows,r.length = szT a
 ent : ∀ r ∈ rows,∀ x ∈ r,0 ≤ x ∧ x < (szT a : Int)
def vldB (a : Int) (rows : List (List Int)) : Bool := (decide (a = 1) || decide (a = 2)) && (decide (rows.length = szT a) && rows.all fun r => decide (r.length = szT a) && r.all fun x => decide (0 ≤ x) && decide (x < (szT a : Int)))
theorem vldB_iff {a : Int} {rows : List (List Int)} : vldB a rows = true ↔ Vld a rows := by
 simp only [vldB,Bool.and_eq_true,Bool.or_eq_true,decide_eq_true_eq,List.all_eq_true]
 constructor
 · rintro ⟨h1,h2,h3⟩
   exact ⟨h1,h2,fun r hr => (h3 r hr).1,fun r hr => (h3 r hr).2⟩
 · rintro ⟨h1,h2,h3,h4⟩
   exact ⟨h1,h2,fun r hr => ⟨h3 r hr,h4 r hr⟩⟩
instance (a : Int) (rows : List (List Int)) : Decidable (Vld a rows) := decidable_of_iff _ vldB_iff
def tOf (rows : List (List Int)) : Tbl := fun k f => BitVec.ofInt 64 ((rows.getD k.toNat []).getD f.toNat 0)
def rowAt (rows : List (List Int)) (k : BitVec 64) : List Int := rows.getD k.toNat []
theorem szT_cases (a : Int) : szT a = 0 ∨ szT a = 4 ∨ szT a = 16 := by
 unfold szT; split
 · exact .inr (.inl rfl)
 · split
   · exact .inr (.inr rfl)
   · exact .inl rfl
theorem szT_le (a : Int) : szT a ≤ 16 := by rcases szT_cases a with h | h | h <;> omega
theorem sm {N : Nat} (h16 : N ≤ 16) {x : BitVec 64} (h : x.toNat < N) : Sml x := by unfold Sml; omega
theorem and_lt {N : Nat} {x y : BitVec 64} (h : x.toNat < N) : (x &&& y).toNat < N := by
 rw [BitVec.toNat_and]
 exact Nat.lt_of_le_of_lt Nat.and_le_left h
theorem or_lt {a : Int} {x y : BitVec 64} (h : x.toNat < szT a) (h' : y.toNat < szT a) : (x ||| y).toNat < szT a := by
 rw [BitVec.toNat_or]
 rcases szT_cases a with e | e | e
 · omega
 · rw [e] at h h' ⊢; exact Nat.or_lt_two_pow (n := 2) h h'
 · rw [e] at h h' ⊢; exact Nat.or_lt_two_pow (n := 4) h h'
section
variable {a : Int} {rows : List (List Int)} (hv : Vld a rows) {k f : BitVec 64} (hk : k.toNat < szT a) (hf : f.toNat < szT a)
include hv hk
theorem row_mem : rowAt rows k ∈ rows := by
 unfold rowAt
 rw [gd' (by rw [hv.len]; exact hk)]
 exact List.getElem_mem _
 where gd' {rows : List (List Int)} {i : Nat} (h : i < rows.length) : rows.getD i [] = rows[i] := by simp [h]
theorem tr : PO.eval (.row 1) [tabD rows,ivD k] = some [numsD (rowAt rows k)] := by
 have h1 : k.toNat < rows.length := by rw [hv.len]; exact hk
 have h2 : (rows.map fun r => [numsD r])[k.toNat]? = some [numsD (rowAt rows k)] := by
  simp [rowAt,h1]
 show (if (0 : Int) ≤ (k.toNat : Int) then (match (rows.map fun r => [numsD r])[(k.toNat : Int).toNat]? with | some r => if r.length = 1 then some r else none | none => none) else none) = _
 rw [if_pos (by omega),Int.toNat_natCast,h2]
 rfl
include hf
theorem cell_in : ∃ x : Int,(rowAt rows k)[f.toNat]? = some x ∧ 0 ≤ x ∧ x < (szT a : Int) ∧ tOf rows k f = BitVec.ofInt 64 x := by
 have hm := row_mem hv hk
 have hl := hv.row _ hm
 have h1 : f.toNat < (rowAt rows k).length := by omega
 refine ⟨(rowAt rows k)[f.toNat],by simp [h1],(hv.ent _ hm _ (List.getElem_mem h1)).1,(hv.ent _ hm _ (List.getElem_mem h1)).2,?_⟩
 unfold tOf
 show BitVec.ofInt 64 ((rowAt rows k).getD f.toNat 0) = _
 simp [h1]
theorem t_lt : (tOf rows k f).toNat < szT a := by
 obtain ⟨x,_,h0,h1,e⟩ := cell_in hv hk hf
 have := szT_le a
 rw [e]
 obtain ⟨n,rfl⟩ := Int.eq_ofNat_of_zero_le h0
 have : (BitVec.ofInt 64 (n : Int)).toNat = n := by
  rw [BitVec.ofInt_natCast,BitVec.toNat_ofNat]; omega
 rw [this]; omega
theorem t_val : ∃ x : Int,(rowAt rows k)[f.toNat]? = some x ∧ x = ((tOf rows k f).toNat : Int) := by
 obtain ⟨x,hx,h0,h1,e⟩ := cell_in hv hk hf
 refine ⟨x,hx,?_⟩
 have := szT_le a
 rw [e]
 obtain ⟨n,rfl⟩ := Int.eq_ofNat_of_zero_le h0
 have : (BitVec.ofInt 64 (n : Int)).toNat = n := by
  rw [BitVec.ofInt_natCast,BitVec.toNat_ofNat]; omega
 rw [this]
theorem tc : PO.eval (.row 1) [numsD (rowAt rows k),ivD f] = some [ivD (tOf rows k f)] := by
 obtain ⟨x,hx,e⟩ := t_val hv hk hf
 have h2 : ((rowAt rows k).map numR)[f.toNat]? = some [ivD (tOf rows k f)] := by
  rw [List.getElem?_map,hx,Option.map_some,e]; rfl
 show (if (0 : Int) ≤ (f.toNat : Int) then (match ((rowAt rows k).map numR)[(f.toNat : Int).toNat]? with | some r => if r.length = 1 then some r else none | none => none) else none) = _
 rw [if_pos (by omega),Int.toNat_natCast,h2]
 rfl
end
theorem iv_eqz (tb : Bool) (x : BitVec 64) : PO.eval (.bin .eql tb) [ivD x,.int .i64 0] = some [.bool (decide (x = 0#64))] := by
 show one1 (some (.bool ((x.toNat : Int) == 0))) = _
 rw [show ((x.toNat : Int) == 0) = decide (x = 0#64) by rw [Bool.eq_iff_iff]; simp only [beq_iff_eq,decide_eq_true_eq]; exact iv_zero]; rfl
theorem iv_nez (tb : Bool) (x : BitVec 64) : PO.eval (.bin .neq tb) [ivD x,.int .i64 0] = some [.bool (!decide (x = 0#64))] := by
 show one1 (some (.bool (!((x.toNat : Int) == 0)))) = _
 rw [show ((x.toNat : Int) == 0) = decide (x = 0#64) by rw [Bool.eq_iff_iff]; simp only [beq_iff_eq,decide_eq_true_eq]; exact iv_zero]; rfl
theorem iv_eql (tb : Bool) (x y : BitVec 64) : PO.eval (.bin .eql tb) [ivD x,ivD y] = some [.bool (decide (x = y))] := by
 show one1 (some (.bool ((x.toNat : Int) == (y.toNat : Int)))) = _
 rw [show ((x.toNat : Int) == (y.toNat : Int)) = decide (x = y) by rw [Bool.eq_iff_iff]; simp only [beq_iff_eq,decide_eq_true_eq]; exact iv_inj]; rfl
section
variable (t : Tbl) (A k f g : BitVec 64)
theorem revT_1 : revT t 1 k f g = subB (t k f) f := rfl
theorem revT_2 : revT t 2 k f g = (decide (k &&& f = 0#64) || decide (t k f = k &&& f)) := rfl
theorem revT_3 : revT t 3 k f g = (decide (f = 0#64) || !decide (t k f = 0#64)) := rfl
theorem revT_4 : revT t 4 k f g = subB (t k f &&& g) (t k (f &&& g)) := rfl
theorem revT_5 : revT t 5 k f g = (decide (t k f &&& g = 0#64) || subB (t k (f &&& g)) (t k f &&& g)) := rfl
theorem conT_1 : conT A t 1 k f g = subB k (t k f) := rfl
theorem conT_2 : conT A t 2 k f g = (subB k f || decide (t k f = k)) := rfl
theorem conT_3 : conT A t 3 k f g = (decide (f = A) || !subB (t k f) f) := rfl
theorem conT_4 : conT A t 4 k f g = subB (t k f &&& f) k := rfl
theorem conT_5 : conT A t 5 k f g = subB (t k (f &&& g)) (t k f ||| t k g) := rfl
theorem conT_6 : conT A t 6 k f g = (subB (t k (f &&& g)) f || subB (t k f) (t k (f &&& g))) := rfl
theorem updT_1 : updT t 1 k f g = subB (t k f) f := rfl
theorem updT_2 : updT t 2 k f g = (!subB k f || decide (t k f = k)) := rfl
theorem updT_3 : updT t 3 k f g = (decide (k = 0#64) || (decide (f = 0#64) || !decide (t k f = 0#64))) := rfl
theorem updT_4 : updT t 4 k f g = subB (t k f &&& g) (t k (f &&& g)) := rfl
theorem updT_5 : updT t 5 k f g = (!subB (t k f) g || (!subB (t k g) f || decide (t k f = t k g))) := rfl
theorem updT_6 : updT t 6 k f g = (!oneW k || subB (t k f &&& t k g) (t k (f ||| g))) := rfl
theorem updT_7 : updT t 7 k f g = decide (t (k ||| g) f = t k f ||| t g f) := rfl
end
def idxP {α : Type} (q : α → Bool) : Nat → List α → Int
 | _,[] => -1
 | i,x :: l => if q x = true then i else idxP q (i + 1) l
theorem idxP_ge {α : Type} (q : α → Bool) : ∀ (l : List α) (i : Nat),decide (idxP q i l ≥ 0) = l.any q
 | [],i => rfl
 | x :: l,i => by
  simp only [idxP,List.any_cons]
  by_cases h : q x = true
  · simp [h]
  · simp [h,idxP_ge q l (i + 1)]
theorem idxP_drop {α : Type} (q : α → Bool) {l : List α} {i : Nat} (h : i < l.length) : idxP q i (l.drop i) = if q l[i] = true then (i : Int) else idxP q (i + 1) (l.drop (i + 1)) := by
 rw [List.drop_eq_getElem_cons h]; rfl
def badS (S : Int) (x : Int) : Bool := decide (x < 0) || decide (x ≥ S)
def badR (S : Int) (r : List Int) : Bool := decide ((r.length : Int) ≠ S) || r.any (badS S)
theorem row_T {rows : List (List Int)} {i : Nat} (h : i < rows.length) : PO.eval (.row 1) [tabD rows,.int .i64 i] = some [numsD rows[i]] :=
 ev_row (by omega) (by simp [h]) rfl
theorem len_T (rows : List (List Int)) : PO.eval .lenL [tabD rows] = some [.int .i64 rows.length] := by simp [tabD,ev_lenL]
theorem vldB_eq {a : Int} (ha : a = 1 ∨ a = 2) (rows : List (List Int)) : vldB a rows = !(decide ((rows.length : Int) ≠ (szT a : Int)) || rows.any (badR (szT a : Int))) := by
 rw [Bool.eq_iff_iff,Bool.not_eq_true',Bool.or_eq_false_iff,decide_eq_false_iff_not,List.any_eq_false]
 rw [vldB_iff]
 constructor
 · rintro ⟨_,h2,h3,h4⟩
   refine ⟨by omega,fun r hr => ?_⟩
   rw [Bool.not_eq_true,badR,Bool.or_eq_false_iff,decide_eq_false_iff_not,List.any_eq_false]
   refine ⟨by have := h3 r hr; omega,fun x hx => ?_⟩
   have := h4 r hr x hx
   simp [badS]; omega
 · rintro ⟨h2,h3⟩
   refine ⟨ha,by omega,fun r hr => ?_,fun r hr x hx => ?_⟩
   · have := h3 r hr
     rw [Bool.not_eq_true,badR,Bool.or_eq_false_iff,decide_eq_false_iff_not] at this
     omega
   · have := h3 r hr
     rw [Bool.not_eq_true,badR,Bool.or_eq_false_iff,List.any_eq_false] at this
     have := this.2 x hx
     simp [badS] at this; omega
end Am
