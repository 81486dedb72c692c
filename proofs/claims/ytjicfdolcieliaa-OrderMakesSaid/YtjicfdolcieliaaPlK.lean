/- What functions of the program compute: lemmas. -/
import Derived.Test.YtjicfdolcieliaaAm6
import Derived.Test.YtjicfdolcieliaaAm5
set_option linter.unusedSimpArgs false
set_option linter.unusedVariables false
set_option linter.unusedSectionVars false
namespace Am
open Go
end Am
