/- What functions of the program compute: lemmas. -/
import Derived.Test.YtojkhlijbpmgpaaGreatRw0
import Derived.Test.YtojkhlijbpmgpaaGreatAm5
set_option linter.unusedSimpArgs false
set_option linter.unusedVariables false
set_option linter.unusedSectionVars false
namespace Go.Proofs.YtojkhlijbpmgpaaGreat
open Go Am
set_option maxRecDepth 100000
def LF : List Nat := 39 :: 37 :: LT
theorem simpleLF : simpleT Tryz.prog LF = true := by kernel_rfl
theorem uForms : Tryz.prog.underlying 37 = some (.slice 39) := by kernel_rfl
theorem uForm : ∃ fs,Tryz.prog.underlying 39 = some (.struct fs) ∧ fs.toList.map (·.type) = [3,9,37] := by
 have h : (match Tryz.prog.underlying 39 with | some (.struct fs) => some (fs.toList.map (·.type)) | _ => none) = some [3,9,37] := by kernel_rfl
 split at h
 · rename_i fs hu
   exact ⟨fs,hu,Option.some.inj h⟩
 · cases h
theorem uOrder : ∃ fs,Tryz.prog.underlying 28 = some (.struct fs) ∧ fs.toList.map (·.type) = [26,22] := by
 have h : (match Tryz.prog.underlying 28 with | some (.struct fs) => some (fs.toList.map (·.type)) | _ => none) = some [26,22] := by kernel_rfl
 split at h
 · rename_i fs hu
   exact ⟨fs,hu,Option.some.inj h⟩
 · cases h
theorem wt_order {n : Nat} {d : List D} (h : WT Tryz.prog n 28 d) : ∃ (a : List (List UInt8)) (l : List Int),d = [strsD a,numsD l] ∧ ∀ s ∈ a,s.length ≤ maxLen := by
 cases n with
 | zero => exact h.elim
 | succ n =>
  obtain ⟨fs,hu,ht⟩ := uOrder
  simp only [WT,hu,ht] at h
  obtain ⟨a1,b1,rfl,h1,a2,b2,rfl,h2,h4⟩ := h
  simp only [catW] at h4
  subst h4
  obtain ⟨a,rfl,_,ha⟩ := wt_strs h1
  obtain ⟨l,rfl,_⟩ := wt_ints h2
  exact ⟨a,l,rfl,ha⟩
theorem wt_form : ∀ (k n : Nat),n ≤ k → ∀ d : List D,WT Tryz.prog n 39 d → ∃ f : F,d = rowF f := by
 intro k
 induction k with
 | zero =>
  intro n hn d h
  obtain rfl : n = 0 := by omega
  exact h.elim
 | succ k ih =>
  intro n hn d h
  cases n with
  | zero => exact h.elim
  | succ n =>
   obtain ⟨fs,hu,ht⟩ := uForm
   simp only [WT,hu,ht] at h
   obtain ⟨a1,b1,rfl,h1,a2,b2,rfl,h2,a3,b3,rfl,h3,h4⟩ := h
   simp only [catW] at h4
   subst h4
   obtain ⟨o,rfl⟩ := wt_int h1
   obtain ⟨s,rfl,hs⟩ := wt_str h2
   cases n with
   | zero => exact h3.elim
   | succ n =>
    simp only [WT,uForms] at h3
    obtain ⟨xs,rfl,hl,hx⟩ := h3
    have key : ∀ xs : List (List D),(∀ row ∈ xs,WT Tryz.prog n 39 row) → ∃ l : List F,xs = F.encs l := by
     intro xs
     induction xs with
     | nil => intro _; exact ⟨[],rfl⟩
     | cons r xs ihx =>
      intro h
      obtain ⟨l,rfl⟩ := ihx fun row hr => h row (by simp [hr])
      obtain ⟨x,rfl⟩ := ih n (by omega) r (h r (by simp))
      exact ⟨x :: l,by simp only [F.encs,F.enc_eq]⟩
    obtain ⟨l,rfl⟩ := key xs hx
    exact ⟨F.mk o s l,rfl⟩
end Go.Proofs.YtojkhlijbpmgpaaGreat

namespace Go.Proofs.YtojkhlijbpmgpaaGreat
open Go Am
set_option maxRecDepth 100000
theorem wt_forms {n : Nat} {d : List D} (h : WT Tryz.prog n 37 d) : ∃ l : List F,d = [.sl (F.encs l)] ∧ l.length ≤ maxLen := by
 cases n with
 | zero => exact h.elim
 | succ n =>
  simp only [WT,uForms] at h
  obtain ⟨xs,rfl,hl,hx⟩ := h
  have key : ∀ xs : List (List D),(∀ row ∈ xs,WT Tryz.prog n 39 row) → ∃ l : List F,xs = F.encs l := by
   intro xs
   induction xs with
   | nil => intro _; exact ⟨[],rfl⟩
   | cons r xs ihx =>
    intro h
    obtain ⟨l,rfl⟩ := ihx fun row hr => h row (by simp [hr])
    obtain ⟨x,rfl⟩ := wt_form _ n (Nat.le_refl _) r (h r (by simp))
    exact ⟨x :: l,by simp only [F.encs,F.enc_eq]⟩
  obtain ⟨l,rfl⟩ := key xs hx
  exact ⟨l,rfl,by simpa [F.encs_len] using hl⟩
end Go.Proofs.YtojkhlijbpmgpaaGreat
