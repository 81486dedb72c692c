/- What functions of the program compute: lemmas. -/
import Derived.Test.YtccjhfmemghccaaDoorPy2
import Derived.Test.YtccjhfmemghccaaDoorPlAw
import Derived.Test.YtccjhfmemghccaaDoorRw0
set_option linter.unusedSimpArgs false
set_option linter.unusedVariables false
set_option linter.unusedSectionVars false
namespace Go.Proofs.YtccjhfmemghccaaDoor
open Go Am
set_option maxRecDepth 100000
theorem formulaBack_true (I : List (List D)) (hI : Ins Tryd.prog Tryd.f4.params.toList I) : run tb 1 I.flatten = some [.bool true] := by
 rw [Tryd.params4] at hI
 obtain _ | ⟨m1, h1, _, hI⟩ := hI
 obtain _ | ⟨m2, h2, _, hI⟩ := hI
 cases hI
 obtain ⟨x1, rfl, g1⟩ := wt_str h1
 obtain ⟨x2, rfl, _⟩ := wt_ints h2
 exact back_run x1 x2 awake_run
end Go.Proofs.YtccjhfmemghccaaDoor
