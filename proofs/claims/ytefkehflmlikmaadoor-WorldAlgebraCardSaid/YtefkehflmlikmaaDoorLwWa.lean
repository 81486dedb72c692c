/- Plain programs of the functions of the program and lemmas about what they compute. -/
import Derived.Test.YtefkehflmlikmaaDoorWx
import Derived.Test.YtefkehflmlikmaaDoorRw0
set_option linter.unusedSimpArgs false
set_option linter.unusedVariables false
set_option linter.unusedSectionVars false
namespace Go.Proofs.YtefkehflmlikmaaDoor
open Go Am
set_option maxRecDepth 100000
theorem worldAlgebra_true (I : List (List D)) (hI : Ins Tryd.prog Tryd.f9.params.toList I) : run tb 2 I.flatten = some [.bool true] := by
 rw [Tryd.params9] at hI
 obtain _ | ⟨n1, h1, _, hI⟩ := hI
 cases hI
 obtain ⟨l, rfl, _⟩ := wt_ints h1
 exact algebra_run l
end Go.Proofs.YtefkehflmlikmaaDoor
