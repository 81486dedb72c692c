/- Plain programs of the functions of the program and lemmas about what they compute. -/
import Derived.Test.YtojkhlijbpmgpaaGreatIt4
import Derived.Test.YtojkhlijbpmgpaaGreatRw0
set_option linter.unusedSimpArgs false
set_option linter.unusedVariables false
set_option linter.unusedSectionVars false
namespace Go.Proofs.YtojkhlijbpmgpaaGreat
open Go Am
set_option maxRecDepth 100000
theorem iterateBeliefs_true (I : List (List D)) (hI : Ins Tryz.prog Tryz.f4.params.toList I) : run tb 1 I.flatten = some [.bool true] := by
 rw [Tryz.params4] at hI
 cases hI with
 | cons n h hl hr =>
  cases hr
  obtain ⟨l, rfl, hl⟩ := wt_ints h
  exact ibeliefs_run l
end Go.Proofs.YtojkhlijbpmgpaaGreat
