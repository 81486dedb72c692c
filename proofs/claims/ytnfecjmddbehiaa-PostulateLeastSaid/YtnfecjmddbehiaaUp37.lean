/- What functions of the program compute: lemmas. -/
import Derived.Test.YtnfecjmddbehiaaLk
import Derived.Test.YtnfecjmddbehiaaUd
set_option linter.unusedSimpArgs false
set_option linter.unusedVariables false
set_option linter.unusedSectionVars false
namespace Go.Proofs.Ytnfecjmddbehiaa
open Go Am
set_option maxRecDepth 100000
theorem checkX (n : Int) (rows : List (List Int)) (kind : Int) (hv : Vld n rows) : run tb 9 [.int .i64 n,tabD rows,.int .i64 kind] = some (chkV kind n rows) :=
 run_ext rfl (tab1_run _ _ _ (by rw [hv.len]; have := szT_le n; omega) fun r hr => by rw [hv.row r hr]; have := szT_le n; omega)
end Go.Proofs.Ytnfecjmddbehiaa
