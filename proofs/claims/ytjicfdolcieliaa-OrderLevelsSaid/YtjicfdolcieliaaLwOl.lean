/- What functions of the program compute: lemmas. -/
import Derived.Test.YtjicfdolcieliaaFl3
import Derived.Test.YtjicfdolcieliaaRw0
set_option linter.unusedSimpArgs false
set_option linter.unusedVariables false
set_option linter.unusedSectionVars false
namespace Go.Proofs.Ytjicfdolcieliaa
open Go Am
set_option maxRecDepth 100000
theorem orderLevels_true (I : List (List D)) (hI : Ins Try.prog Try.f3.params.toList I) : run tb 0 I.flatten = some [.bool true] := by
 rw [Try.params3] at hI
 obtain _ | ⟨m1,h1,_,hI⟩ := hI
 obtain _ | ⟨m2,h2,_,hI⟩ := hI
 cases hI
 obtain ⟨x1,rfl,_⟩ := wt_ints h1
 obtain ⟨x2,rfl,_⟩ := wt_ints h2
 exact levelsL_run x1 x2
end Go.Proofs.Ytjicfdolcieliaa
