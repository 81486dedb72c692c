/- Plain programs of the functions of the program and lemmas about what they compute. -/
import Derived.Test.YtjedjjooidohhaaGreatOa2
import Derived.Test.YtjedjjooidohhaaGreatRw1z
set_option linter.unusedSimpArgs false
set_option linter.unusedVariables false
set_option linter.unusedSectionVars false
namespace Go.Proofs.YtjedjjooidohhaaGreat
open Go Am
set_option maxRecDepth 100000
theorem orderAnswers_true (I : List (List D)) (hI : Ins Tryz.prog Tryz.f3.params.toList I) : run tb 0 I.flatten = some [.bool true] := by
  rw [Tryz.params3] at hI
  obtain _ | ⟨n1, h1, _, hI⟩ := hI
  obtain _ | ⟨n2, h2, _, hI⟩ := hI
  obtain _ | ⟨n3, h3, _, hI⟩ := hI
  obtain _ | ⟨n4, h4, _, hI⟩ := hI
  cases hI
  obtain ⟨nr, rr, rfl, hnr⟩ := wt_order h1
  obtain ⟨l, rfl, _⟩ := wt_ints h2
  obtain ⟨S, rfl⟩ := wt_u64 h3
  obtain ⟨f, rfl⟩ := wt_form _ _ (Nat.le_refl _) _ h4
  exact oanswers_run nr rr l S f fun s hs => Nat.lt_of_le_of_lt (hnr s hs) (by decide)
end Go.Proofs.YtjedjjooidohhaaGreat
