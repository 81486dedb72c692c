/- Plain programs of the functions of the program and lemmas about what they compute. -/
import Derived.Test.YtefkehflmlikmaaDoorWx
import Derived.Test.YtefkehflmlikmaaDoorRw0
set_option linter.unusedSimpArgs false
set_option linter.unusedVariables false
set_option linter.unusedSectionVars false
namespace Go.Proofs.YtefkehflmlikmaaDoor
open Go Am
set_option maxRecDepth 100000
theorem worldBack_true (I : List (List D)) (hI : Ins Tryd.prog Tryd.f8.params.toList I) : run tb 1 I.flatten = some [.bool true] := by
 rw [Tryd.params8] at hI
 obtain _ | ⟨n2, h2, _, hI⟩ := hI
 obtain _ | ⟨n3, h3, _, hI⟩ := hI
 cases hI
 obtain ⟨S, rfl⟩ := wt_u64 h2
 obtain ⟨l, rfl, _⟩ := wt_ints h3
 exact back03_run S l
end Go.Proofs.YtefkehflmlikmaaDoor
