/- What functions of the program compute: lemmas. -/
import Derived.Test.YtjicfdolcieliaaRw0
import Derived.Test.YtjicfdolcieliaaAm5
set_option linter.unusedSimpArgs false
set_option linter.unusedVariables false
set_option linter.unusedSectionVars false
namespace Go.Proofs.Ytjicfdolcieliaa
open Go Am
set_option maxRecDepth 100000
theorem uOrder : ∃ fs,Try.prog.underlying 30 = some (.struct fs) ∧ fs.toList.map (·.type) = [28,22] := by
 have h : (match Try.prog.underlying 30 with | some (.struct fs) => some (fs.toList.map (·.type)) | _ => none) = some [28,22] := by kernel_rfl
 split at h
 · rename_i fs hu
   exact ⟨fs,hu,Option.some.inj h⟩
 · cases h
theorem uU64 : Try.prog.underlying 38 = some (.int .u64) := by kernel_rfl
theorem wt_u64 {n : Nat} {d : List D} (h : WT Try.prog n 38 d) : ∃ x : BitVec 64,d = [bvD x] := by
 cases n with
 | zero => exact h.elim
 | succ n =>
  simp only [WT,uU64] at h
  obtain ⟨x,rfl,hx⟩ := h
  simp only [Lit.wf,Bool.and_eq_true,decide_eq_true_eq] at hx
  have h0 : (0 : Int) ≤ x := hx.1
  have h1 : x ≤ 18446744073709551615 := hx.2
  refine ⟨BitVec.ofNat 64 x.toNat,?_⟩
  have h2 : (BitVec.ofNat 64 x.toNat).toNat = x.toNat := by rw [BitVec.toNat_ofNat]; exact Nat.mod_eq_of_lt (by omega)
  unfold bvD
  rw [h2]
  have h3 : ((x.toNat : Nat) : Int) = x := Int.toNat_of_nonneg h0
  rw [h3]
theorem wt_order {n : Nat} {d : List D} (h : WT Try.prog n 30 d) : ∃ (a : List (List UInt8)) (l : List Int),d = [strsD a,numsD l] ∧ ∀ s ∈ a,s.length ≤ maxLen := by
 cases n with
 | zero => exact h.elim
 | succ n =>
  obtain ⟨fs,hu,ht⟩ := uOrder
  simp only [WT,hu,ht] at h
  obtain ⟨a1,b1,rfl,h1,a2,b2,rfl,h2,h4⟩ := h
  simp only [catW] at h4
  subst h4
  obtain ⟨a,rfl,_,ha⟩ := wt_strs h1
  obtain ⟨l,rfl,_⟩ := wt_ints h2
  exact ⟨a,l,rfl,ha⟩
theorem uU64s : Try.prog.underlying 36 = some (.slice 38) := by kernel_rfl
theorem wt_u64s {n : Nat} {d : List D} (h : WT Try.prog n 36 d) : ∃ l : List (BitVec 64),d = [bvsD l] := by
 cases n with
 | zero => exact h.elim
 | succ n =>
  simp only [WT,uU64s] at h
  obtain ⟨xs,rfl,hl,hx⟩ := h
  have key : ∀ xs : List (List D),(∀ row ∈ xs,WT Try.prog n 38 row) → ∃ l : List (BitVec 64),xs = l.map fun x => [bvD x] := by
   intro xs
   induction xs with
   | nil => intro _; exact ⟨[],rfl⟩
   | cons r xs ih =>
    intro h
    obtain ⟨l,rfl⟩ := ih fun row hr => h row (by simp [hr])
    obtain ⟨x,rfl⟩ := wt_u64 (h r (by simp))
    exact ⟨x :: l,rfl⟩
  obtain ⟨l,rfl⟩ := key xs hx
  exact ⟨l,rfl⟩
end Go.Proofs.Ytjicfdolcieliaa
