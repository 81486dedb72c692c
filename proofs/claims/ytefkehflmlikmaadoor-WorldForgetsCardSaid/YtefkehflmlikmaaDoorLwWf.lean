/- Plain programs of the functions of the program and lemmas about what they compute. -/
import Derived.Test.YtefkehflmlikmaaDoorWx
import Derived.Test.YtefkehflmlikmaaDoorRw0
set_option linter.unusedSimpArgs false
set_option linter.unusedVariables false
set_option linter.unusedSectionVars false
namespace Go.Proofs.YtefkehflmlikmaaDoor
open Go Am
set_option maxRecDepth 100000
theorem worldForgets_true (I : List (List D)) (hI : Ins Tryd.prog Tryd.f11.params.toList I) : run tb 4 I.flatten = some [.bool true] := by
 rw [Tryd.params11] at hI
 obtain _ | ⟨n1, h1, _, hI⟩ := hI
 cases hI
 obtain ⟨l, rfl, _⟩ := wt_ints h1
 exact forgets03_run l
end Go.Proofs.YtefkehflmlikmaaDoor
