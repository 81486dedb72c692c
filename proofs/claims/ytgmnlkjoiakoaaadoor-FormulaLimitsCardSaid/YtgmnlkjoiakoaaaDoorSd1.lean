/- Proofs about the plain programs. -/
import Derived.Test.YtgmnlkjoiakoaaaDoorSb3
set_option linter.unusedSimpArgs false
set_option linter.unusedVariables false
set_option linter.unusedSectionVars false
namespace Go.Proofs.YtgmnlkjoiakoaaaDoor
open Go Am
set_option maxRecDepth 100000

/-! # FormulaLimits: the plain law, by running it at the five depths -/
def limK : IR := match ir3 with
  | .call _ _ _ _ _ k => k
  | _ => .fail
theorem ir3_eq : ir3 = .call 20 1 false [] [(.v 0), (.c (.int .i64 5))] limK := rfl
theorem awake_t : exN tb 1000 1000 17 [] = some [.bool true] := by kernel_rfl
theorem awake_run : run tb 17 [] = some [.bool true] := exN_run _ _ _ _ awake_t
def yesE : PF := fun a => match a with | [] => some [.bool true] | _ => none
def tbY : Nat → TE := fun i => match i with | 17 => .ext yesE | i => tb i
theorem tbY_ok (i : Nat) : tbY i = tb i ∨ ∃ E, tbY i = .ext E ∧ PLe E (run tb i) := by
  by_cases h : i = 17
  · subst h
    refine .inr ⟨yesE, rfl, fun a r hr => ?_⟩
    unfold yesE at hr
    split at hr
    · cases hr; exact awake_run
    · cases hr
  · left
    unfold tbY
    split
    · exact absurd rfl h
    · rfl
theorem lim0 (d : D) : ex (exN tbY 1000 1000) 1000 limK [d, .int .i64 0] [] = some [.bool true] := by kernel_rfl
theorem lim1 (d : D) : ex (exN tbY 1000 1000) 1000 limK [d, .int .i64 1] [] = some [.bool true] := by kernel_rfl
theorem lim2 (d : D) : ex (exN tbY 1000 1000) 1000 limK [d, .int .i64 2] [] = some [.bool true] := by kernel_rfl
theorem lim3 (d : D) : ex (exN tbY 1000 1000) 1000 limK [d, .int .i64 3] [] = some [.bool true] := by kernel_rfl
theorem lim4 (d : D) : ex (exN tbY 1000 1000) 1000 limK [d, .int .i64 4] [] = some [.bool true] := by kernel_rfl
end Go.Proofs.YtgmnlkjoiakoaaaDoor
