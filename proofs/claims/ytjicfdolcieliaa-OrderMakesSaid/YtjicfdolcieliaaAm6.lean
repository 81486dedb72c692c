/- What functions of the program compute: lemmas. -/
import Derived.Test.YtjicfdolcieliaaAm5
set_option linter.unusedSimpArgs false
set_option linter.unusedVariables false
set_option linter.unusedSectionVars false
namespace Am
open Go
namespace F
mutual
theorem beq_true : ∀ f g : F,beq f g = true → f = g
 | mk o s a,mk o' s' a',h => by
  simp only [beq,Bool.and_eq_true,decide_eq_true_eq] at h
  obtain ⟨rfl,rfl,h3,h4⟩ := h
  rw [beqs_true a a' h3 h4]
theorem beqs_true : ∀ l l' : List F,l.length = l'.length → beqs l l' = true → l = l'
 | [],[],_,_ => rfl
 | [],_ :: _,h,_ => by simp at h
 | x :: l,[],h,_ => by simp at h
 | x :: l,y :: l',h,h2 => by
  simp only [beqs,Bool.and_eq_true] at h2
  rw [beq_true x y h2.1,beqs_true l l' (by simpa using h) h2.2]
end
end F
def hf (S : BitVec 64) (b i : Nat) : BitVec 64 := bitsTo (fun u => decide (2 * u + b < i) && S.getLsbD (2 * u + b)) 64
end Am

namespace Am
open Go
abbrev has (X : BitVec 64) (w : Nat) : Prop := X.getLsbD w = true
theorem has_lt {X : BitVec 64} {w : Nat} (h : has X w) : w < 64 := by
 refine Decidable.byContradiction fun hn => ?_
 have := BitVec.getLsbD_of_ge X w (by omega)
 rw [has,this] at h; cases h
theorem has_diff {X Y : BitVec 64} {w : Nat} : has (X &&& ~~~Y) w ↔ has X w ∧ ¬ has Y w := by
 constructor
 · intro h
   have hw := has_lt h
   simpa [has,hw] using h
 · rintro ⟨h1,h2⟩
   have hw := has_lt h1
   simpa [has,hw,h1] using h2
theorem min_ex (r : Nat → Int) (P : Nat → Prop) : ∀ N : Nat,(∃ v,v < N ∧ P v) → ∃ w,w < N ∧ P w ∧ ∀ v,v < N → P v → r w ≤ r v
 | 0,⟨v,h,_⟩ => by omega
 | N + 1,⟨v,hv,hp⟩ => by
  by_cases hN : ∃ v,v < N ∧ P v
  · obtain ⟨w,h1,h2,h3⟩ := min_ex r P N hN
    by_cases hc : P N ∧ r N < r w
    · refine ⟨N,by omega,hc.1,fun u hu hpu => ?_⟩
      by_cases huN : u = N
      · subst huN; omega
      · have := h3 u (by omega) hpu; omega
    · refine ⟨w,by omega,h2,fun u hu hpu => ?_⟩
      by_cases huN : u = N
      · subst huN
        have : ¬ r u < r w := fun h => hc ⟨hpu,h⟩
        omega
      · exact h3 u (by omega) hpu
  · have : v = N := Classical.byContradiction fun h => hN ⟨v,by omega,hp⟩
    subst this
    refine ⟨v,by omega,hp,fun u hu hpu => ?_⟩
    by_cases huN : u = v
    · subst huN; omega
    · exact absurd ⟨u,by omega,hpu⟩ hN
structure Lst (N : Nat) (r : Nat → Int) (L : BitVec 64 → BitVec 64) : Prop where
 le : N ≤ 64
 get : ∀ S w,has (L S) w ↔ w < N ∧ has S w ∧ ∀ v,v < N → has S v → r w ≤ r v
theorem Lst.ex {N : Nat} {r : Nat → Int} {L : BitVec 64 → BitVec 64} (h : Lst N r L) {S : BitVec 64} {v : Nat} (hv : v < N) (hs : has S v) : ∃ w,has (L S) w := by
 obtain ⟨w,h1,h2,h3⟩ := min_ex r (fun v => has S v) N ⟨v,hv,hs⟩
 exact ⟨w,(h.get S w).2 ⟨h1,h2,h3⟩⟩
theorem leastS_lst {names : List (List UInt8)} {ranks : List Int} (h : orderE names ranks = 0) : Lst ranks.length (fun w => ranks.getD w (-1)) (leastS names ranks) :=
 ⟨(orderE_len h).1,fun S w => least_get h S w⟩
section
variable {N : Nat} {r : Nat → Int} {L : BitVec 64 → BitVec 64} (hL : Lst N r L)
include hL
variable {A M K : BitVec 64} (hA : ∀ w,has A w ↔ w < N) (hM : ∀ w,has M w → w < N) (hK : ∀ w,has K w → w < N)
include hA
theorem Lst.rest (w : Nat) : has (L (A &&& ~~~M)) w ↔ w < N ∧ ¬ has M w ∧ ∀ v,v < N → ¬ has M v → r w ≤ r v := by
 rw [hL.get,has_diff]
 constructor
 · rintro ⟨h1,⟨_,h2⟩,h3⟩
   exact ⟨h1,h2,fun v hv hm => h3 v hv (has_diff.2 ⟨(hA v).2 hv,hm⟩)⟩
 · rintro ⟨h1,h2,h3⟩
   exact ⟨h1,⟨(hA w).2 h1,h2⟩,fun v hv hm => h3 v hv (has_diff.1 hm).2⟩
end
def Wth (N : Nat) (r : Nat → Int) (M W : BitVec 64) : Prop := ∀ w,has W w ↔ w < N ∧ ((∃ u,u < N ∧ ¬ has M u) → ∀ v,v < N → ¬ has M v → r w ≤ r v) ∧ ((∀ u,u < N → has M u) → ∀ v,v < N → r w ≤ r v)
section
variable {N : Nat} {r : Nat → Int} {L : BitVec 64 → BitVec 64} (hL : Lst N r L) {A M K W V : BitVec 64} (hA : ∀ w,has A w ↔ w < N) (hM : ∀ w,has M w → w < N) (hW : Wth N r M W) (hV : Wth N r K V)
include hL hW
end
end Am

namespace Am
open Go
end Am

namespace Am
open Go
def sortI (l : List Int) : List Int := l.mergeSort fun x y => decide (x ≤ y)
theorem sortI_len (l : List Int) : (sortI l).length = l.length := by simp [sortI]
theorem sortI_mem (l : List Int) (x : Int) : x ∈ sortI l ↔ x ∈ l := List.mem_mergeSort
theorem sortI_sorted (l : List Int) : (sortI l).Pairwise fun x y => x ≤ y := by
 have := List.pairwise_mergeSort (le := fun x y : Int => decide (x ≤ y)) (fun a b c h1 h2 => by simp only [decide_eq_true_eq] at *; omega) (fun a b => by simp only [Bool.or_eq_true,decide_eq_true_eq]; omega) l
 exact this.imp fun h => by simpa using h
theorem upToI_ok {zs : List Int} (hs : zs.Pairwise fun x y => x ≤ y) : ∀ m,m ≤ zs.length →
 (∀ x,x ∈ Lib.compactUpTo zs.toArray m ↔ x ∈ zs.take m) ∧ (Lib.compactUpTo zs.toArray m).Pairwise (fun x y => x < y) ∧ ∀ x ∈ Lib.compactUpTo zs.toArray m,∀ (h : m - 1 < zs.length),x ≤ zs[m - 1] := by
 intro m
 induction m with
 | zero => intro _; simp [Lib.compactUpTo]
 | succ m ih =>
  intro hm
  obtain ⟨h1,h2,h3⟩ := ih (by omega)
  have hg : zs.toArray[m]! = zs[m] := by simp [show m < zs.length by omega]
  have hle : ∀ x ∈ zs.take m,x ≤ zs[m] := by
   intro x hx
   obtain ⟨i,hi,rfl⟩ := List.getElem_of_mem hx
   simp only [List.length_take] at hi
   rw [List.getElem_take]
   exact List.pairwise_iff_getElem.1 hs i m (by omega) (by omega) (by omega)
  rw [Lib.compactUpTo_succ]
  by_cases hk : Lib.keeps zs.toArray m = true
  · rw [if_pos hk,hg]
    refine ⟨fun x => ?_,?_,?_⟩
    · rw [List.mem_append,h1,← take_snoc (show m < zs.length by omega),List.mem_append]
    · rw [List.pairwise_append]
      refine ⟨h2,by simp,fun x hx y hy => ?_⟩
      simp only [List.mem_singleton] at hy
      subst hy
      have hx' := (h1 x).1 hx
      rcases Nat.eq_zero_or_pos m with rfl | hm0
      · simp at hx'
      · have hx3 := h3 x hx (by omega)
        have hlt : zs[m - 1] ≤ zs[m] := List.pairwise_iff_getElem.1 hs (m - 1) m (by omega) (by omega) (by omega)
        have hne : zs[m] ≠ zs[m - 1] := by
         unfold Lib.keeps at hk
         simp only [decide_eq_true_eq] at hk
         have hg' : zs.toArray[m - 1]! = zs[m - 1] := by simp [show m - 1 < zs.length by omega]
         rw [hg,hg'] at hk
         rcases hk with h | h
         · omega
         · exact h
        have hxm := Int.le_trans hx3 hlt
        exact Decidable.byContradiction fun hn => hne (Int.le_antisymm (Int.le_trans (Int.not_lt.1 hn) hx3) hlt)
    · intro x hx h
      simp only [Nat.add_sub_cancel]
      rcases List.mem_append.1 hx with hx | hx
      · exact hle x ((h1 x).1 hx)
      · simp only [List.mem_singleton] at hx; subst hx; exact Int.le_refl _
  · rw [if_neg hk,List.append_nil]
    have hm0 : 0 < m ∧ zs[m] = zs[m - 1] := by
     unfold Lib.keeps at hk
     simp only [decide_eq_true_eq,not_or,Decidable.not_not] at hk
     have hg' : zs.toArray[m - 1]! = zs[m - 1] := by simp [show m - 1 < zs.length by omega]
     rw [hg,hg'] at hk
     exact ⟨by omega,hk.2⟩
    refine ⟨fun x => ?_,h2,?_⟩
    · rw [h1,← take_snoc (show m < zs.length by omega),List.mem_append]
      constructor
      · exact .inl
      · rintro (h | h)
        · exact h
        · simp only [List.mem_singleton] at h
          rw [h,hm0.2]
          exact List.mem_take_iff_getElem.2 ⟨m - 1,by omega,rfl⟩
    · intro x hx h
      exact hle x ((h1 x).1 hx)
def canonI (l : List Int) : List Int := Lib.compact (sortI l)
theorem canonI_mem (l : List Int) (x : Int) : x ∈ canonI l ↔ x ∈ l := by
 unfold canonI Lib.compact
 rw [(upToI_ok (sortI_sorted l) _ (Nat.le_refl _)).1,List.take_length,sortI_mem]
theorem canonI_asc (l : List Int) : (canonI l).Pairwise fun x y => x < y := by
 unfold canonI Lib.compact
 exact (upToI_ok (sortI_sorted l) _ (Nat.le_refl _)).2.1
theorem canonI_len (l : List Int) : (canonI l).length ≤ l.length := nodup_le ((canonI_asc l).imp fun h e => by subst e; exact Int.lt_irrefl _ h) fun x hx => (canonI_mem l x).1 hx
def lessN (t : Int) (l : List Int) : Nat := (l.filter fun x => decide (x < t)).length
theorem lessN_le (t : Int) (l : List Int) : lessN t l ≤ l.length := List.length_filter_le _ _
theorem lessN_take : ∀ {l : List Int},l.Pairwise (fun x y => x < y) → ∀ (t : Int) (i : Nat) (hi : i < l.length),l[i] < t ↔ i < lessN t l
 | [],_,_,i,hi => by simp at hi
 | a :: l,h,t,i,hi => by
  have h' := List.pairwise_cons.1 h
  unfold lessN
  by_cases ha : a < t
  · rw [List.filter_cons_of_pos (by simpa using ha)]
    cases i with
    | zero => simp [ha]
    | succ i =>
     have := lessN_take h'.2 t i (by simpa using hi)
     unfold lessN at this
     simp only [List.getElem_cons_succ,List.length_cons]
     omega
  · rw [List.filter_cons_of_neg (by simpa using ha)]
    have hnone : l.filter (fun x => decide (x < t)) = [] := List.filter_eq_nil_iff.2 fun x hx => by
     have := h'.1 x hx
     simp; omega
    rw [hnone]
    cases i with
    | zero => simp only [List.getElem_cons_zero,List.length_nil]; omega
    | succ i =>
     have := h'.1 _ (List.getElem_mem (show i < l.length by simpa using hi))
     simp only [List.getElem_cons_succ,List.length_nil]
     omega
theorem lessN_below (r : Int) (l : List Int) : lessN r (canonI l) = (belowL r l).length := by
 unfold lessN
 have hn : ((canonI l).filter fun x => decide (x < r)).Nodup := ((canonI_asc l).imp (S := fun a b => a ≠ b) fun h e => by subst e; exact Int.lt_irrefl _ h).filter _
 refine nodup_eq hn (belowL_nodup r l) fun x => ?_
 rw [List.mem_filter,canonI_mem,belowL_mem]
 simp
end Am

namespace Am
open Go
def Pat (l m : List Int) : Prop := l.length = m.length ∧ ∀ i j,i < l.length → j < l.length → (l.getD i 0 < l.getD j 0 ↔ m.getD i 0 < m.getD j 0)
theorem Pat.symm {l m : List Int} (h : Pat l m) : Pat m l := ⟨h.1.symm,fun i j hi hj => (h.2 i j (h.1 ▸ hi) (h.1 ▸ hj)).symm⟩
theorem Pat.trans {l m k : List Int} (h : Pat l m) (h' : Pat m k) : Pat l k := ⟨h.1.trans h'.1,fun i j hi hj => (h.2 i j hi hj).trans (h'.2 i j (h.1 ▸ hi) (h.1 ▸ hj))⟩
theorem Pat.eq {l m : List Int} (h : Pat l m) {i j : Nat} (hi : i < l.length) (hj : j < l.length) : l.getD i 0 = l.getD j 0 ↔ m.getD i 0 = m.getD j 0 := by
 have h1 := h.2 i j hi hj
 have h2 := h.2 j i hj hi
 constructor <;> intro e <;> omega
theorem gd {l : List Int} {i : Nat} (h : i < l.length) : l.getD i 0 = l[i] := by simp [h]
theorem below_pat {l m : List Int} (h : Pat l m) {i : Nat} (hi : i < l.length) : ∀ k,k ≤ l.length →
 ∃ js : List Nat,(∀ j ∈ js,j < l.length) ∧ (l.take k).foldl (belowF (l.getD i 0)) [] = js.map (fun j => l.getD j 0) ∧ (m.take k).foldl (belowF (m.getD i 0)) [] = js.map (fun j => m.getD j 0)
 | 0,_ => ⟨[],by simp,by simp,by simp⟩
 | k + 1,hk => by
  obtain ⟨js,h1,h2,h3⟩ := below_pat h hi k (by omega)
  have hm := h.1
  have tl : l.take (k + 1) = l.take k ++ [l.getD k 0] := by rw [List.take_add_one,List.getElem?_eq_getElem (by omega),gd (by omega)]; rfl
  have tm : m.take (k + 1) = m.take k ++ [m.getD k 0] := by rw [List.take_add_one,List.getElem?_eq_getElem (by omega),gd (by omega)]; rfl
  rw [tl,tm,List.foldl_append,List.foldl_append,h2,h3]
  simp only [List.foldl_cons,List.foldl_nil]
  have e1 := h.2 k i (by omega) hi
  have e2 : (l.getD k 0 ∈ js.map fun j => l.getD j 0) ↔ (m.getD k 0 ∈ js.map fun j => m.getD j 0) := by
   simp only [List.mem_map]
   exact ⟨fun ⟨j,hj,he⟩ => ⟨j,hj,(h.eq (h1 j hj) (by omega)).1 he⟩,fun ⟨j,hj,he⟩ => ⟨j,hj,(h.eq (h1 j hj) (by omega)).2 he⟩⟩
  by_cases c : l.getD k 0 < l.getD i 0 ∧ l.getD k 0 ∉ js.map fun j => l.getD j 0
  · have c' : m.getD k 0 < m.getD i 0 ∧ m.getD k 0 ∉ js.map fun j => m.getD j 0 := ⟨e1.1 c.1,fun hx => c.2 (e2.2 hx)⟩
    refine ⟨js ++ [k],fun j hj => ?_,?_,?_⟩
    · rcases List.mem_append.1 hj with hj | hj
      · exact h1 j hj
      · simp only [List.mem_singleton] at hj; omega
    · unfold belowF; rw [if_pos c]; simp
    · unfold belowF; rw [if_pos c']; simp
  · have c' : ¬ (m.getD k 0 < m.getD i 0 ∧ m.getD k 0 ∉ js.map fun j => m.getD j 0) := fun ⟨a,b⟩ => c ⟨e1.2 a,fun hx => b (e2.1 hx)⟩
    exact ⟨js,h1,by unfold belowF; rw [if_neg c],by unfold belowF; rw [if_neg c']⟩
theorem norm_pat {l m : List Int} (h : Pat l m) : normS l = normS m := by
 have hm := h.1
 unfold normS
 refine List.ext_getElem (by simp [hm]) fun i h1 h2 => ?_
 have hi : i < l.length := by simpa using h1
 obtain ⟨js,_,e1,e2⟩ := below_pat h hi l.length (Nat.le_refl _)
 rw [List.take_length] at e1
 rw [hm,List.take_length] at e2
 simp only [List.getElem_map,belowL,← gd hi,← gd (show i < m.length by omega),e1,e2,List.length_map]
def lexR (a b : List Int) : List Int := (List.range a.length).map fun w => a.getD w 0 * a.length + b.getD w 0
theorem lexR_len (a b : List Int) : (lexR a b).length = a.length := by simp [lexR]
theorem lexR_get (a b : List Int) {i : Nat} (hi : i < a.length) : (lexR a b).getD i 0 = a.getD i 0 * a.length + b.getD i 0 := by
 rw [gd (by rw [lexR_len]; exact hi)]; simp [lexR]
theorem lexR_lt {a b : List Int} (hab : b.length = a.length) (hb : ∀ r ∈ b,0 ≤ r ∧ r < a.length) {i j : Nat} (hi : i < a.length) (hj : j < a.length) :
 (lexR a b).getD i 0 < (lexR a b).getD j 0 ↔ a.getD i 0 < a.getD j 0 ∨ (a.getD i 0 = a.getD j 0 ∧ b.getD i 0 < b.getD j 0) := by
 rw [lexR_get a b hi,lexR_get a b hj]
 have hbi := hb (b.getD i 0) (by rw [gd (by omega)]; exact List.getElem_mem _)
 have hbj := hb (b.getD j 0) (by rw [gd (by omega)]; exact List.getElem_mem _)
 generalize a.getD i 0 = x at *
 generalize a.getD j 0 = y at *
 generalize b.getD i 0 = u at *
 generalize b.getD j 0 = v at *
 have hN : (0 : Int) ≤ (a.length : Int) := by omega
 generalize (a.length : Int) = N at *
 have key : ∀ p q : Int,p < q → p * N + N ≤ q * N := fun p q h => by
  have := Int.mul_le_mul_of_nonneg_right (show p + 1 ≤ q by omega) hN
  rw [Int.add_mul,Int.one_mul] at this
  exact this
 rcases Int.lt_trichotomy x y with h | h | h
 · have := key x y h
   constructor
   · intro _; exact .inl h
   · intro _; omega
 · subst h
   constructor
   · intro h; exact .inr ⟨rfl,by omega⟩
   · rintro (h | ⟨_,h⟩) <;> omega
 · have := key y x h
   constructor
   · intro _; omega
   · rintro (h' | ⟨h',_⟩) <;> omega
def Rk (N : Nat) (l : List Int) : Prop := l.length = N ∧ ∀ r ∈ l,0 ≤ r ∧ r < N
end Am

namespace Am
open Go
def sp (X : BitVec 64) (b i : Nat) : BitVec 64 := bitsTo (fun u => X.getLsbD (2 * u + b)) i
end Am

namespace Am
open Go
structure Ord (names : List (List UInt8)) (N : Nat) (o : List Int) : Prop where
 ok : orderE names o = 0
 rk : Rk N o
theorem Ord.least {names : List (List UInt8)} {N : Nat} {o : List Int} (h : Ord names N o) (S : BitVec 64) (w : Nat) : has (leastS names o S) w ↔ w < N ∧ has S w ∧ ∀ v,v < N → has S v → ¬ o.getD v 0 < o.getD w 0 := by
 have hl := (leastS_lst h.ok).get S w
 obtain ⟨rfl,_⟩ := h.rk
 have g0 : ∀ {i : Nat},i < o.length → o.getD i (-1) = o.getD i 0 := fun h => by simp [h]
 rw [hl]
 constructor
 · rintro ⟨h1,h2,h3⟩
   refine ⟨h1,h2,fun v hv hs => ?_⟩
   have := h3 v hv hs
   rw [g0 h1,g0 hv] at this
   omega
 · rintro ⟨h1,h2,h3⟩
   refine ⟨h1,h2,fun v hv hs => ?_⟩
   have := h3 v hv hs
   rw [g0 h1,g0 hv]
   omega
theorem Ord.ex {names : List (List UInt8)} {N : Nat} {o : List Int} (h : Ord names N o) {S : BitVec 64} {v : Nat} (hv : v < N) (hs : has S v) : ∃ w,has (leastS names o S) w := by
 have := (leastS_lst h.ok).ex (S := S) (v := v) (by rw [h.rk.1]; exact hv) hs
 exact this
theorem Ord.le {names : List (List UInt8)} {N : Nat} {o : List Int} (h : Ord names N o) : N ≤ 64 := by
 have := (orderE_len h.ok).1
 rw [h.rk.1] at this; exact this
section
variable {names : List (List UInt8)} {N : Nat} {o : List Int} (h : Ord names N o) {k : Int} (hk : k = 1 ∨ k = 2 ∨ k = 3)
include h hk
end
theorem norm_valid {o : List Int} (h : rkOk o = true) : normS o = o := by
 have hin := rkIn_mem (rkOk_in h)
 have hall : ∀ k : Nat,k < (maxR o).toNat → (k : Int) ∈ o := fun k hk => by
  unfold rkOk at h
  simp only [Bool.and_eq_true,List.all_eq_true,List.mem_range,decide_eq_true_eq] at h
  exact h.2 k hk
 refine List.ext_getElem (by simp [normS]) fun i h1 h2 => ?_
 rw [norm_get h2]
 have hr := hin o[i] (List.getElem_mem h2)
 have hx := maxF_mem o 0 o[i] (List.getElem_mem h2)
 obtain ⟨n,hn⟩ := Int.eq_ofNat_of_zero_le hr.1
 rw [hn] at hx ⊢
 have hnd : ((List.range n).map fun k : Nat => (k : Int)).Nodup := by
  rw [List.nodup_iff_pairwise_ne,List.pairwise_map]
  exact List.nodup_range.imp fun h e => h (by omega)
 have := nodup_eq (belowL_nodup (n : Int) o) hnd fun x => by
  rw [belowL_mem,List.mem_map]
  constructor
  · rintro ⟨a,b⟩
    have := hin x a
    exact ⟨x.toNat,List.mem_range.2 (by omega),by omega⟩
  · rintro ⟨k,hk,rfl⟩
    have := List.mem_range.1 hk
    exact ⟨hall k (by unfold maxR; omega),by omega⟩
 rw [this]
 simp
end Am
