/- Plain programs of the functions of the program and lemmas about what they compute. -/
import Derived.Test.YtefkehflmlikmaaGreatDoorWd
import Derived.Test.YtefkehflmlikmaaGreatDoorAm5
import Derived.Test.YtefkehflmlikmaaGreatDoorAm6
import Derived.Test.YtefkehflmlikmaaGreatDoorLb1
set_option linter.unusedSimpArgs false
set_option linter.unusedVariables false
set_option linter.unusedSectionVars false
namespace Go.Proofs.YtefkehflmlikmaaGreatDoor
open Go Am
set_option maxRecDepth 100000
set_option linter.unusedSimpArgs false
set_option linter.unusedVariables false
end Go.Proofs.YtefkehflmlikmaaGreatDoor

namespace Go.Proofs.YtefkehflmlikmaaGreatDoor
open Go Am
set_option maxRecDepth 100000
set_option linter.unusedSimpArgs false
set_option linter.unusedVariables false
theorem voc_run (n : Nat) (hn : n ≤ 26) : run tb 6 [.int .i64 n] = some [strsD (vocN n)] := by
 refine run_ir (x := ir6) rfl ?_
 simp (disch := omega) only [ir6, stepQ, stepL, eq_self, aBin, reduceIte, Int.reduceEq, Int.reduceLT, Int.reduceLE, Int.reduceGT, Int.reduceGE, strs_nil]
 refine loop_k (σ := Unit) n (fun _ _ => True) (fun i _ => [.int .i64 i, strsD (vocN i)]) (fun _ _ => [strsD (vocN n)]) ?_ ?_ 0 () (Nat.zero_le _) trivial
 · rintro i _ L hi _ hL
   have hnext := hL () trivial
   rw [vocN_succ] at hnext
   have hlen := vocN_len i
   simp (disch := omega) only [ir6p0, stepQ, stepL, eq_self, aBin, reduceIte, Int.reduceEq, Int.reduceLT, Int.reduceLE, Int.reduceGT, Int.reduceGE, hi, wr, w8, ev_toS1, app_S, natS, hnext]
 · rintro _ L _
   simp (disch := omega) only [ir6p0, stepQ, stepL, eq_self, aBin, reduceIte, Int.reduceEq, Int.reduceLT, Int.reduceLE, Int.reduceGT, Int.reduceGE, Nat.lt_irrefl]
end Go.Proofs.YtefkehflmlikmaaGreatDoor

namespace Go.Proofs.YtefkehflmlikmaaGreatDoor
open Go Am
set_option maxRecDepth 100000
set_option linter.unusedSimpArgs false
set_option linter.unusedVariables false
end Go.Proofs.YtefkehflmlikmaaGreatDoor
