/- Plain programs of the functions of the program and lemmas about what they compute. -/
import Derived.Test.YtgmnlkjoiakoaaaDoorPl9
import Derived.Test.YtgmnlkjoiakoaaaDoorPlAw
import Derived.Test.YtgmnlkjoiakoaaaDoorRw0
set_option linter.unusedSimpArgs false
set_option linter.unusedVariables false
set_option linter.unusedSectionVars false
namespace Go.Proofs.YtgmnlkjoiakoaaaDoor
open Go Am
set_option maxRecDepth 100000
theorem formulaLaws_true (I : List (List D)) (hI : Ins Tryd.prog Tryd.f7.params.toList I) : run tb 4 I.flatten = some [.bool true] := by
  rw [Tryd.params7] at hI
  cases hI with
  | cons n h hl hr =>
    cases hr
    obtain ⟨l, rfl, hl⟩ := wt_ints h
    exact laws_run l awake_run
end Go.Proofs.YtgmnlkjoiakoaaaDoor
