/- Plain programs of the functions of the program and lemmas about what they compute. -/
import Derived.Test.YtojkhlijbpmgpaaGreatWd
import Derived.Test.YtojkhlijbpmgpaaGreatOd
import Derived.Test.YtojkhlijbpmgpaaGreatAm6
set_option linter.unusedSimpArgs false
set_option linter.unusedVariables false
set_option linter.unusedSectionVars false
namespace Go.Proofs.YtojkhlijbpmgpaaGreat
open Go Am
set_option maxRecDepth 100000
set_option linter.unusedSimpArgs false
set_option linter.unusedVariables false
section
variable (names : List (List UInt8)) (ranks : List Int) (f : F) (hn : names.length < 1000000000) (hs : ∀ s ∈ names, s.length < 9223372036854775808) (hl : ranks.length < 1000000000) (hf : f.size < 1000000000) (hb : F.allF nameB f = true)
include hn hs hl hf hb
end
end Go.Proofs.YtojkhlijbpmgpaaGreat
