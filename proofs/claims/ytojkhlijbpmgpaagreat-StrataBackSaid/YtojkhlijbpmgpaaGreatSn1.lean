/- What functions of the program compute: lemmas. -/
import Derived.Test.YtojkhlijbpmgpaaGreatSr7
import Derived.Test.YtojkhlijbpmgpaaGreatAm6
import Derived.Test.YtojkhlijbpmgpaaGreatSt
set_option linter.unusedSimpArgs false
set_option linter.unusedVariables false
set_option linter.unusedSectionVars false
namespace Go.Proofs.YtojkhlijbpmgpaaGreat
open Go Am
set_option maxRecDepth 100000
end Go.Proofs.YtojkhlijbpmgpaaGreat
