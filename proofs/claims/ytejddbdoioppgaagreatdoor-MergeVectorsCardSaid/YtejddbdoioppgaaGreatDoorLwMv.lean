/- Plain programs of the functions of the program and lemmas about what they compute. -/
import Derived.Test.YtejddbdoioppgaaGreatDoorMg
import Derived.Test.YtejddbdoioppgaaGreatDoorRw0
set_option linter.unusedSimpArgs false
set_option linter.unusedVariables false
set_option linter.unusedSectionVars false
namespace Go.Proofs.YtejddbdoioppgaaGreatDoor
open Go Am
set_option maxRecDepth 100000
theorem mergeVectors_true (I : List (List D)) (hI : Ins Tryz.prog Tryz.f8.params.toList I) : run tb 4 I.flatten = some [.bool true] := by
 rw [Tryz.params8] at hI
 obtain _ | ⟨m1, h1, _, hI⟩ := hI
 cases hI
 obtain ⟨x1, rfl, _⟩ := wt_ints h1
 exact vectors36_run x1
end Go.Proofs.YtejddbdoioppgaaGreatDoor
