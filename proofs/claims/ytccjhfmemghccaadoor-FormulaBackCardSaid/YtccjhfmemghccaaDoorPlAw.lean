/- What functions of the program compute: lemmas. -/
import Derived.Test.YtccjhfmemghccaaDoorSb3
import Derived.Test.YtccjhfmemghccaaDoorAm4
import Derived.KernelRfl
set_option linter.unusedSimpArgs false
set_option linter.unusedVariables false
set_option linter.unusedSectionVars false
namespace Go.Proofs.YtccjhfmemghccaaDoor
open Go Am
set_option maxRecDepth 100000
theorem awake_run : run tb 11 [] = some [.bool true] := exN_run (m := 1000) 1000 _ _ _ (by kernel_rfl)
end Go.Proofs.YtccjhfmemghccaaDoor
