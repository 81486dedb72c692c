/- Plain programs of the functions of the program and lemmas about what they compute. -/
import Derived.Test.YtefkehflmlikmaaGreatDoorWm1
import Derived.Test.YtefkehflmlikmaaGreatDoorRw1w
set_option linter.unusedSimpArgs false
set_option linter.unusedVariables false
set_option linter.unusedSectionVars false
namespace Go.Proofs.YtefkehflmlikmaaGreatDoor
open Go Am
set_option maxRecDepth 100000
theorem worldModels_true (I : List (List D)) (hI : Ins Tryz.prog Tryz.f4.params.toList I) : run tb 0 I.flatten = some [.bool true] := by
 rw [Tryz.params4] at hI
 obtain _ | ⟨n1, h1, _, hI⟩ := hI
 obtain _ | ⟨n2, h2, _, hI⟩ := hI
 obtain _ | ⟨n3, h3, _, hI⟩ := hI
 cases hI
 obtain ⟨raw, rfl, hr, _⟩ := wt_strs h1
 obtain ⟨x, rfl⟩ := wt_form _ _ (Nat.le_refl _) _ h2
 obtain ⟨l, rfl, _⟩ := wt_ints h3
 exact models03_run raw x l hr
end Go.Proofs.YtefkehflmlikmaaGreatDoor
