/- Plain programs of the functions of the program and lemmas about what they compute. -/
import Derived.Test.YtjedjjooidohhaaOr1
import Derived.Test.YtjedjjooidohhaaRw0
set_option linter.unusedSimpArgs false
set_option linter.unusedVariables false
set_option linter.unusedSectionVars false
namespace Go.Proofs.Ytjedjjooidohhaa
open Go Am
set_option maxRecDepth 100000
theorem orderLeast_true (I : List (List D)) (hI : Ins Try.prog Try.f3.params.toList I) : run tb 0 I.flatten = some [.bool true] := by
  rw [Try.params3] at hI
  cases hI with
  | cons n h hl hr =>
    cases hr
    obtain ⟨l, rfl, hl⟩ := wt_ints h
    exact least_run l
end Go.Proofs.Ytjedjjooidohhaa
