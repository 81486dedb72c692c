/- Plain programs of the functions of the program and lemmas about what they compute. -/
import Derived.Test.YtgmnlkjoiakoaaaDoorSb3
import Derived.Test.YtgmnlkjoiakoaaaDoorAm4
import Derived.KernelRfl
set_option linter.unusedSimpArgs false
set_option linter.unusedVariables false
set_option linter.unusedSectionVars false
namespace Go.Proofs.YtgmnlkjoiakoaaaDoor
open Go Am
set_option maxRecDepth 100000
theorem awake_run : run tb 20 [] = some [.bool true] := exN_run (m := 1000) 1000 _ _ _ (by kernel_rfl)
end Go.Proofs.YtgmnlkjoiakoaaaDoor
