/- Plain programs of the functions of the program and lemmas about what they compute. -/
import Derived.Test.YtjedjjooidohhaaOr2
import Derived.Test.YtjedjjooidohhaaRw0
set_option linter.unusedSimpArgs false
set_option linter.unusedVariables false
set_option linter.unusedSectionVars false
namespace Go.Proofs.Ytjedjjooidohhaa
open Go Am
set_option maxRecDepth 100000
theorem orderRefines_true (I : List (List D)) (hI : Ins Try.prog Try.f5.params.toList I) : run tb 2 I.flatten = some [.bool true] := by
  rw [Try.params5] at hI
  cases hI with
  | cons n h hl hr =>
    cases hr
    obtain ⟨l, rfl, hl⟩ := wt_ints h
    exact refines_run l
end Go.Proofs.Ytjedjjooidohhaa
