/- What functions of the program compute: lemmas. -/
import Derived.Test.YtnfecjmddbehiaaUp37
import Derived.Test.YtnfecjmddbehiaaRw0
set_option linter.unusedSimpArgs false
set_option linter.unusedVariables false
set_option linter.unusedSectionVars false
namespace Go.Proofs.Ytnfecjmddbehiaa
open Go Am
set_option maxRecDepth 100000
theorem postulateUpdates_true (I : List (List D)) (hI : Ins Try.prog Try.f5.params.toList I) : run tb 2 I.flatten = some [.bool true] := by
 rw [Try.params5] at hI
 obtain _ | ⟨m1,h1,_,hI⟩ := hI
 cases hI
 obtain ⟨x1,rfl,_⟩ := wt_ints h1
 exact updates37_run x1
end Go.Proofs.Ytnfecjmddbehiaa
