/- Plain programs of the functions of the program and lemmas about what they compute. -/
import Derived.Test.YtojkhlijbpmgpaaGreatIt5
import Derived.Test.YtojkhlijbpmgpaaGreatRw0
set_option linter.unusedSimpArgs false
set_option linter.unusedVariables false
set_option linter.unusedSectionVars false
namespace Go.Proofs.YtojkhlijbpmgpaaGreat
open Go Am
set_option maxRecDepth 100000
theorem iterateTogether_true (I : List (List D)) (hI : Ins Tryz.prog Tryz.f5.params.toList I) : run tb 0 I.flatten = some [.bool true] := by
 rw [Tryz.params5] at hI
 cases hI with
 | cons n h hl hr =>
  cases hr
  obtain ⟨l, rfl, hl⟩ := wt_ints h
  exact together35_run l
end Go.Proofs.YtojkhlijbpmgpaaGreat
