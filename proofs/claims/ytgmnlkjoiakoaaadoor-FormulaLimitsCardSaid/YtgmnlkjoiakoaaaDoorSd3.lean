/- Proved: the tied card of FormulaLimits: for every input the call returns true and the argument reads as it did. Conditions: those of the given row (the table formula.words holds what the text lays) and no other. -/
import Derived.Test.YtgmnlkjoiakoaaaDoorSd1
import Derived.Test.YtgmnlkjoiakoaaaDoorSd2
import Derived.Test.YtgmnlkjoiakoaaaDoorSc1
import Derived.Test.YtgmnlkjoiakoaaaDoorCards
import Derived.Test.YtgmnlkjoiakoaaaDoorTie
import Derived.WalkKit
import Derived.ProofKit
import Derived.OpenShut
import Derived.Deep.DeepHandedRow
set_option linter.unusedSimpArgs false
set_option linter.unusedVariables false
set_option linter.unusedSectionVars false
namespace Go.Proofs.YtgmnlkjoiakoaaaDoor
open Go Am Go.ChangeShapes Go.WideShapes Go.ChangeAt Go.RowKit
set_option maxRecDepth 100000

theorem limits_run (x : Int) : run tb 3 [.int .i64 x] = some [.bool true] := by
  refine run_ir (x := ir3) rfl ?_
  obtain ⟨r, hr, h0, h1⟩ := mod5 x
  have hk : den (run tb) limK [.int .i64 x, .int .i64 r] [] = some [.bool true] := by
    have up : ∀ {e : Env} {o : List D}, ex (exN tbY 1000 1000) 1000 limK e [] = some o → den (run tb) limK e [] = some o := fun h => ex_den limK (fun i a r h => exN_run' tbY_ok _ i a r h) (.refl _) _ h
    rcases (show r = 0 ∨ r = 1 ∨ r = 2 ∨ r = 3 ∨ r = 4 by omega) with rfl | rfl | rfl | rfl | rfl
    · exact up (lim0 _)
    · exact up (lim1 _)
    · exact up (lim2 _)
    · exact up (lim3 _)
    · exact up (lim4 _)
  rw [ir3_eq]
  simp only [den, List.map_cons, List.map_nil, SA.val, List.getD_cons_zero]
  rw [hr]
  simpa using hk

/-- A WORLD FOR THE WITNESS: the table (block 0) holds what the text lays. -/
noncomputable def laidWorld (os : Os) : World :=
  { World.holding Tryd.prog os ⟨#[], #[], []⟩ with heap := (World.holding Tryd.prog os ⟨#[], #[], []⟩).heap.modify 0 fun
      | .cells _ t frozen => .cells (wordsB.map fun l => Value.string ⟨⟨l⟩⟩).toArray t frozen
      | o => o }
theorem lim_laid (os : Os) : laidMet Tryd.prog Rows.formulaLimitsRow.laid ((laidWorld os).forCall (fun _ _ => 0) ⟨#[], #[.int .i64 0], []⟩).memory :=
  laidMet_of_run' 8 (by kernel_rfl) (by kernel_rfl)
theorem lim_reads (os : Os) {H : Type} (enc : TypeId × Value → H) : ∃ places, DataW.whole enc Tryd.prog ((laidWorld os).forCall (fun _ _ => 0) ⟨#[], #[.int .i64 0], []⟩).memory Tryd.f6.params.toList Rows.formulaLimitsSpec.vars false #[Value.int .i64 0].toList 8 = some ([.lit (.int .i64 0)], [], places) :=
  ⟨[], by kernel_rfl⟩

theorem lim_contract (H : Type) (enc : TypeId × Value → H) (W : World) (base : Nat) (args : Array Value) (ds gs : List (DataW H)) (before : List MemPlace)
    (hval : ∀ (j : Nat) t v, Tryd.f6.params[j]? = some t → args[j]? = some v → Value.okWide Tryd.prog W .any base t v)
    (hW : DataW.Whole enc Tryd.prog Tryd.f6.params.toList Rows.formulaLimitsSpec.vars false W args.toList ds gs before) (hL : laidMetH Tryd.prog Rows.formulaLimitsRow.laid W) :
    Calls Tryd.prog 6 args W fun e W' => ∃ v, e = .returned v ∧ Rows.formulaLimitsSpec.post enc Tryd.prog Tryd.f6 false true false false W args v W' := by
  have hW' := hW
  obtain ⟨p, q, hA0, hV, rfl, hfz, hnd⟩ := hW
  have hA : DataW.TrodAll enc Tryd.prog W 0 (fun _ => true) true Tryd.f6.params.toList args.toList ds p := hA0
  rw [Tryd.params6] at hA hval
  obtain ⟨v0, vs0, d0, ds0, p0, q0, hargs, rfl, rfl, h0, r0⟩ := trodAll_cons hA
  obtain ⟨rfl, rfl, rfl⟩ := trodAll_nil r0
  obtain rfl : args = #[v0] := by cases args; simp_all
  obtain ⟨rfl, rfl⟩ := trodVars_none hV
  obtain ⟨n, rfl, rfl, rfl, _⟩ := open_int u3 (hval 0 3 v0 rfl rfl) h0
  clear hA0
  have hc := call_true (W := W) (ins := [.int .i64 n]) (vs := [.int .i64 n]) (i := 3) (f := 6) (sg := sg3) rfl rfl rfl rfl rfl rfl hL (fun d hd => by simp at hd; subst hd; exact .int _ _) rfl (limits_run n)
    ⟨rfl, fun i h h' => by
      have : i = 0 := by simp at h'; exact h'
      subst this
      exact .d _ _ (.int _ _)⟩
  refine hc.mono fun e W' h => ?_
  obtain ⟨rfl, C', ρ', hE⟩ := h
  exact ⟨_, rfl, post_true (tb := 4) laidOut rowed fullS (by rw [Tryd.params6]; intro t ht; simp at ht; subst ht; exact of_decide_eq_true (by kernel_rfl)) rfl hW' rfl (by kernel_rfl) u4 hE⟩

theorem lim_lifted (os : Os) (started : os.Started) (H : Type) (enc : TypeId × Value → H) (F : Stop.Interp) :
    ReturnsInHanded {} Tryd.checked os 6 .any ((OpenSpec.ofChange Rows.formulaLimitsSpec).preRow enc Tryd.prog Tryd.f6 Rows.formulaLimitsRow.domain false Rows.formulaLimitsRow.laid) (((OpenSpec.ofChange Rows.formulaLimitsSpec).at F).post enc Tryd.prog Tryd.f6 false true false false) := by
  obtain ⟨places, hx⟩ := lim_reads os enc
  refine returnsInHanded_of_row (C := Tryd.checked) (s := OpenSpec.ofChange Rows.formulaLimitsSpec) ownK started (by kernel_rfl) Tryd.func6
    (witness_row_at (enc := enc) (C := Tryd.checked) false (laidWorld os) #[.int .i64 0] rfl (by kernel_rfl) (by kernel_rfl) (by kernel_rfl)
      (OpenSpec.preRow_of_cond 8 hx (by kernel_rfl) (fun k hk => by cases hk) (by kernel_rfl) (lim_laid os))) ?_
  intro W base args ds gs before hval hW _ _ _ hL _ _
  exact lim_contract H enc W base args ds gs before hval hW hL

theorem lim_said : Rows.FormulaLimitsSaid :=
  OpenClaim.holds_of_cond 6 Tryd.f6 rfl rfl rfl rfl rfl rfl rfl ⟨rfl, rfl, rfl, rfl, rfl⟩ rfl rfl rfl rfl rfl (by kernel_rfl) Tryd.func6 (by kernel_rfl)
    (of_decide_eq_true (by kernel_rfl)) (by unfold Func.isWrapper; first | (rw [if_pos (by decide +kernel)]; kernel_rfl) | (rw [if_neg (by decide +kernel)]; exact ⟨rfl, rfl⟩))
    (fun os started H enc _ F => by rw [OpenClaim.pre_eq_preRow]; exact lim_lifted os started H enc F)

theorem lim_plain (f : FuncId) (fn : Func) (hf : Tryd.pinned.checked.prog.funcNamed "deliberation/deliberationlaw02.FormulaLimits" = some f) (hfn : Tryd.pinned.checked.prog.funcs[f]? = some fn) :
    false = Tryd.pinned.checked.prog.looks [] ∧ ∀ (j : Nat) t, fn.params[j]? = some t → Tryd.pinned.checked.prog.wantsStandIn t = false := by
  obtain rfl : f = 6 := Option.some.inj ((show Tryd.prog.funcNamed "deliberation/deliberationlaw02.FormulaLimits" = some 6 by kernel_rfl).symm.trans hf) |>.symm
  obtain rfl : fn = Tryd.f6 := (Option.some.inj (Tryd.func6.symm.trans hfn)).symm
  refine ⟨by kernel_rfl, fun j t ht => ?_⟩
  rw [Tryd.params6] at ht
  obtain rfl : t = 3 := by simpa using Array.mem_of_getElem? ht
  exact (show Tryd.prog.wantsStandIn 3 = false by kernel_rfl)

/-- THE CARD -/
theorem lim_card : Rows.FormulaLimitsCardSaid :=
  Claim7.holds_tied_plain_at .later [] _ _ _ _ lim_said (fun _ h => by cases h) (by kernel_rfl) (fun _ h => by cases h) formulaLimits_row_tie rfl ⟨rfl, rfl⟩ (by kernel_rfl) rfl lim_plain (by kernel_rfl)
end Go.Proofs.YtgmnlkjoiakoaaaDoor
