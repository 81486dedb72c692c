/- What functions of the program compute: lemmas. -/
import Derived.Test.YtjicfdolcieliaaWd
import Derived.Test.YtjicfdolcieliaaAm5
import Derived.Test.YtjicfdolcieliaaPlK
set_option linter.unusedSimpArgs false
set_option linter.unusedVariables false
set_option linter.unusedSectionVars false
namespace Go.Proofs.Ytjicfdolcieliaa
open Go Am
set_option maxRecDepth 100000
end Go.Proofs.Ytjicfdolcieliaa
