/- Proofs about the plain programs. -/
import Derived.Test.YtgmnlkjoiakoaaaDoorSb3
set_option linter.unusedSimpArgs false
set_option linter.unusedVariables false
set_option linter.unusedSectionVars false
namespace Go.Proofs.YtgmnlkjoiakoaaaDoor
open Go Am
set_option maxRecDepth 100000
theorem mod5 (x : Int) : ∃ r : Int, run tb 20 [.int .i64 x, .int .i64 5] = some [.int .i64 r] ∧ 0 ≤ r ∧ r < 5 := by
  have hk : ∀ r, den (run tb) ir20 [.int .i64 x, .int .i64 5] [] = some r → run tb 20 [.int .i64 x, .int .i64 5] = some r := fun r h => run_ir rfl h
  have h1 : -5 < Int.tmod x 5 := Int.lt_tmod_of_pos x (by omega)
  have h2 : Int.tmod x 5 < 5 := Int.tmod_lt_of_pos x (by omega)
  have hw : IntKind.i64.wrap (Int.tmod x 5) = Int.tmod x 5 := wr (by omega) (by omega)
  by_cases h : Int.tmod x 5 < 0
  · refine ⟨Int.tmod x 5 + 5, hk _ ?_, by omega, by omega⟩
    have hw2 : IntKind.i64.wrap (Int.tmod x 5 + 5) = Int.tmod x 5 + 5 := wr (by omega) (by omega)
    simp [ir20, den, PO.eval, SA.val, one1, aBin, h, hw2, go_sem]
  · refine ⟨Int.tmod x 5, hk _ ?_, by omega, by omega⟩
    simp [ir20, den, PO.eval, SA.val, one1, aBin, h, go_sem]
end Go.Proofs.YtgmnlkjoiakoaaaDoor
