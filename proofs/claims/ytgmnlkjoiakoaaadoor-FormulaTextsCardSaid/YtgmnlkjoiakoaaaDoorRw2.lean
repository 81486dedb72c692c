/- Plain programs of the functions of the program and lemmas about what they compute. -/
import Derived.Test.YtgmnlkjoiakoaaaDoorRw0
import Derived.Test.YtgmnlkjoiakoaaaDoorAm4
import Derived.Test.YtgmnlkjoiakoaaaDoorSb3
import Derived.KernelRfl
set_option linter.unusedSimpArgs false
set_option linter.unusedVariables false
set_option linter.unusedSectionVars false
namespace Go.Proofs.YtgmnlkjoiakoaaaDoor
open Go Am
set_option maxRecDepth 100000
theorem uForm : ∃ fs, Tryd.prog.underlying 24 = some (.struct fs) ∧ fs.toList.map (·.type) = [3, 9, 22] := by
  have h : (match Tryd.prog.underlying 24 with | some (.struct fs) => some (fs.toList.map (·.type)) | _ => none) = some [3, 9, 22] := by kernel_rfl
  split at h
  · rename_i fs hu
    exact ⟨fs, hu, Option.some.inj h⟩
  · cases h
theorem wt_form : ∀ (k n : Nat), n ≤ k → ∀ d : List D, WT Tryd.prog n 24 d → ∃ f : F, d = rowF f := by
  intro k
  induction k with
  | zero =>
    intro n hn d h
    obtain rfl : n = 0 := by omega
    exact h.elim
  | succ k ih =>
    intro n hn d h
    cases n with
    | zero => exact h.elim
    | succ n =>
      obtain ⟨fs, hu, ht⟩ := uForm
      simp only [WT, hu, ht] at h
      obtain ⟨a1, b1, rfl, h1, a2, b2, rfl, h2, a3, b3, rfl, h3, h4⟩ := h
      simp only [catW] at h4
      subst h4
      obtain ⟨o, rfl⟩ := wt_int h1
      obtain ⟨s, rfl, hs⟩ := wt_str h2
      cases n with
      | zero => exact h3.elim
      | succ n =>
        simp only [WT, uForms] at h3
        obtain ⟨xs, rfl, hl, hx⟩ := h3
        have key : ∀ xs : List (List D), (∀ row ∈ xs, WT Tryd.prog n 24 row) → ∃ l : List F, xs = F.encs l := by
          intro xs
          induction xs with
          | nil => intro _; exact ⟨[], rfl⟩
          | cons r xs ihx =>
            intro h
            obtain ⟨l, rfl⟩ := ihx fun row hr => h row (by simp [hr])
            obtain ⟨x, rfl⟩ := ih n (by omega) r (h r (by simp))
            exact ⟨x :: l, by simp only [F.encs, F.enc_eq]⟩
        obtain ⟨l, rfl⟩ := key xs hx
        exact ⟨F.mk o s l, rfl⟩
end Go.Proofs.YtgmnlkjoiakoaaaDoor

namespace Go.Proofs.YtgmnlkjoiakoaaaDoor
open Go Am
set_option maxRecDepth 100000
theorem awake_run : run tb 20 [] = some [.bool true] := exN_run (m := 1000) 1000 _ _ _ (by kernel_rfl)
end Go.Proofs.YtgmnlkjoiakoaaaDoor
