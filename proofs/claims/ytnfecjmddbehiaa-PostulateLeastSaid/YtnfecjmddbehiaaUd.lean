/- What functions of the program compute: lemmas. -/
import Derived.Test.YtnfecjmddbehiaaLb1
import Derived.Test.YtnfecjmddbehiaaAm6
import Derived.Test.YtnfecjmddbehiaaSb1
import Derived.Test.YtnfecjmddbehiaaWd
import Derived.Test.YtnfecjmddbehiaaOd
import Derived.Test.YtnfecjmddbehiaaAm7
import Derived.Shelf.Spec.TrailingZeros
set_option linter.unusedSimpArgs false
set_option linter.unusedVariables false
set_option linter.unusedSectionVars false
namespace Go.Proofs.Ytnfecjmddbehiaa
open Go Am
set_option maxRecDepth 100000
end Go.Proofs.Ytnfecjmddbehiaa

namespace Go.Proofs.Ytnfecjmddbehiaa
open Go Am Go.Proofs
set_option maxRecDepth 100000
variable {G : Glob}
end Go.Proofs.Ytnfecjmddbehiaa

namespace Go.Proofs.Ytnfecjmddbehiaa
open Go Am
set_option maxRecDepth 100000
end Go.Proofs.Ytnfecjmddbehiaa

namespace Go.Proofs.Ytnfecjmddbehiaa
open Go Am
set_option maxRecDepth 100000
end Go.Proofs.Ytnfecjmddbehiaa

namespace Go.Proofs.Ytnfecjmddbehiaa
open Go Am
set_option maxRecDepth 100000
set_option maxHeartbeats 2000000
end Go.Proofs.Ytnfecjmddbehiaa

namespace Go.Proofs.Ytnfecjmddbehiaa
open Go Am
set_option maxRecDepth 100000
end Go.Proofs.Ytnfecjmddbehiaa

namespace Go.Proofs.Ytnfecjmddbehiaa
open Go Am
set_option maxRecDepth 100000
section
variable (names : List (List UInt8)) (hl : names.length < 60) (hs : ∀ s ∈ names,s.length < 9223372036854775808)
include hl hs
end
end Go.Proofs.Ytnfecjmddbehiaa
