/- Plain programs of the functions of the program and lemmas about what they compute. -/
import Derived.Test.YtjedjjooidohhaaGreatCa2
import Derived.Test.YtjedjjooidohhaaGreatRw1z
set_option linter.unusedSimpArgs false
set_option linter.unusedVariables false
set_option linter.unusedSectionVars false
namespace Go.Proofs.YtjedjjooidohhaaGreat
open Go Am
set_option maxRecDepth 100000
theorem changeAnswers_true (I : List (List D)) (hI : Ins Tryz.prog Tryz.f4.params.toList I) : run tb 0 I.flatten = some [.bool true] := by
  rw [Tryz.params4] at hI
  obtain _ | ⟨n1, h1, _, hI⟩ := hI
  obtain _ | ⟨n2, h2, _, hI⟩ := hI
  obtain _ | ⟨n3, h3, _, hI⟩ := hI
  cases hI
  obtain ⟨nr, rr, rfl, hnr⟩ := wt_order h1
  obtain ⟨f, rfl⟩ := wt_form _ _ (Nat.le_refl _) _ h2
  obtain ⟨l, rfl, _⟩ := wt_ints h3
  exact canswers_run nr rr l f fun s hs => Nat.lt_of_le_of_lt (hnr s hs) (by decide)
end Go.Proofs.YtjedjjooidohhaaGreat
