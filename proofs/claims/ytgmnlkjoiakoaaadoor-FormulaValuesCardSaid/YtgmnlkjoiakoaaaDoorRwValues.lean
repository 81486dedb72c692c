/- For all formulas, names, lists of names and lists of numbers the law FormulaValues returns true: Atoms, Eval, Substitute and Same return the documented results; no condition. -/
import Derived.Test.YtgmnlkjoiakoaaaDoorLwVa
import Derived.Test.YtgmnlkjoiakoaaaDoorRw0
set_option linter.unusedSimpArgs false
set_option linter.unusedVariables false
set_option linter.unusedSectionVars false
namespace Go.Proofs.YtgmnlkjoiakoaaaDoor
open Go Am Go.ChangeShapes Go.WideShapes Go.ChangeAt Go.RowKit
set_option maxRecDepth 100000

theorem formulaValues_laid (os : Os) : laidMet Tryd.prog Rows.formulaValuesRow.laid ((laidWorld os).forCall (fun _ _ => 0) ⟨#[], #[.agg #[.int .i64 0, .string ⟨⟨[]⟩⟩, .slice none 0 0], .agg #[.int .i64 0, .string ⟨⟨[]⟩⟩, .slice none 0 0], .string ⟨⟨[]⟩⟩, .slice none 0 0, .slice none 0 0], []⟩).memory :=
  laidMet_of_run' 8 (by kernel_rfl) (by kernel_rfl)
theorem formulaValues_reads (os : Os) {H : Type} (enc : TypeId × Value → H) : ∃ places, DataW.whole enc Tryd.prog ((laidWorld os).forCall (fun _ _ => 0) ⟨#[], #[.agg #[.int .i64 0, .string ⟨⟨[]⟩⟩, .slice none 0 0], .agg #[.int .i64 0, .string ⟨⟨[]⟩⟩, .slice none 0 0], .string ⟨⟨[]⟩⟩, .slice none 0 0, .slice none 0 0], []⟩).memory Tryd.f10.params.toList Rows.formulaValuesSpec.vars false (#[.agg #[.int .i64 0, .string ⟨⟨[]⟩⟩, .slice none 0 0], .agg #[.int .i64 0, .string ⟨⟨[]⟩⟩, .slice none 0 0], .string ⟨⟨[]⟩⟩, .slice none 0 0, .slice none 0 0] : Array Value).toList 8 = some ([.agg [.lit (.int .i64 0), .lit (.string []), .nil], .agg [.lit (.int .i64 0), .lit (.string []), .nil], .lit (.string []), .nil, .nil], [], places) :=
  ⟨[], by kernel_rfl⟩
theorem formulaValues_contract (H : Type) (enc : TypeId × Value → H) (W : World) (base : Nat) (args : Array Value) (ds gs : List (DataW H)) (before : List MemPlace)
    (hval : ∀ (j : Nat) t v, Tryd.f10.params[j]? = some t → args[j]? = some v → Value.okWide Tryd.prog W .any base t v)
    (hW : DataW.Whole enc Tryd.prog Tryd.f10.params.toList Rows.formulaValuesSpec.vars false W args.toList ds gs before) (hL : laidMetH Tryd.prog Rows.formulaValuesRow.laid W) :
    Calls Tryd.prog 10 args W fun e W' => ∃ v, e = .returned v ∧ Rows.formulaValuesSpec.post enc Tryd.prog Tryd.f10 false true false false W args v W' := by
  have hW' := hW
  obtain ⟨p, q, hA0, hV, rfl, hfz, hnd⟩ := hW
  have hA : DataW.TrodAll enc Tryd.prog W 0 (fun _ => true) true Tryd.f10.params.toList args.toList ds p := hA0
  obtain ⟨rfl, rfl⟩ := trodVars_none hV
  have hval' : ∀ (j : Nat) t v, Tryd.f10.params.toList[j]? = some t → args.toList[j]? = some v → Value.okWide Tryd.prog W .any base t v := fun j t v h1 h2 => hval j t v (by simpa using h1) (by simpa using h2)
  have hds : ∃ d0 d1 d2 d3 d4, ds = [d0, d1, d2, d3, d4] := by
    rw [Tryd.params10] at hA
    have := hA
    obtain ⟨_, _, d0, _, _, _, _, rfl, _, _, this⟩ := trodAll_cons this
    obtain ⟨_, _, d1, _, _, _, _, rfl, _, _, this⟩ := trodAll_cons this
    obtain ⟨_, _, d2, _, _, _, _, rfl, _, _, this⟩ := trodAll_cons this
    obtain ⟨_, _, d3, _, _, _, _, rfl, _, _, this⟩ := trodAll_cons this
    obtain ⟨_, _, d4, _, _, _, _, rfl, _, _, this⟩ := trodAll_cons this
    obtain ⟨_, rfl, _⟩ := trodAll_nil this
    exact ⟨d0, d1, d2, d3, d4, rfl⟩
  obtain ⟨I, hI, hrep⟩ := rep_pars (L := LT) simpleLT (ρ := fun _ => none) (Hp := hOf []) _ _ _ _ (by kernel_rfl) hA hval'
  have hr : run tb 7 I.flatten = some [.bool true] := formulaValues_true I hI
  have hlen : I.flatten.length = sg7.nin := hI.len.trans (by kernel_rfl)
  have hc := call_true (W := W) (ins := I.flatten) (vs := args.toList) (i := 7) (f := 10) (sg := sg7) rfl rfl rfl rfl rfl rfl hL hI.wf hlen hr (hrep [] _)
  refine hc.mono fun e W' h => ?_
  obtain ⟨rfl, C', ρ', hE⟩ := h
  obtain ⟨d0, d1, d2, d3, d4, rfl⟩ := hds
  exact ⟨_, rfl, post_true (tb := TBool) laidOut rowed fullS (fun t ht => by
    have : (Tryd.f10.params.toList.all fun t => decide (t < Tryd.prog.types.size)) = true := by kernel_rfl
    simpa using List.all_eq_true.1 this t ht) rfl hW' rfl (by kernel_rfl) uBool hE⟩

theorem formulaValues_lifted (os : Os) (started : os.Started) (H : Type) (enc : TypeId × Value → H) (F : Stop.Interp) :
    ReturnsInHanded {} Tryd.checked os 10 .any ((OpenSpec.ofChange Rows.formulaValuesSpec).preRow enc Tryd.prog Tryd.f10 Rows.formulaValuesRow.domain false Rows.formulaValuesRow.laid) (((OpenSpec.ofChange Rows.formulaValuesSpec).at F).post enc Tryd.prog Tryd.f10 false true false false) := by
  obtain ⟨places, hx⟩ := formulaValues_reads os enc
  refine returnsInHanded_of_row (C := Tryd.checked) (s := OpenSpec.ofChange Rows.formulaValuesSpec) ownK started (by kernel_rfl) Tryd.func10
    (witness_row_at (enc := enc) (C := Tryd.checked) false (laidWorld os) #[.agg #[.int .i64 0, .string ⟨⟨[]⟩⟩, .slice none 0 0], .agg #[.int .i64 0, .string ⟨⟨[]⟩⟩, .slice none 0 0], .string ⟨⟨[]⟩⟩, .slice none 0 0, .slice none 0 0] rfl (by kernel_rfl) (by kernel_rfl) (by kernel_rfl)
      (OpenSpec.preRow_of_cond 8 hx (by kernel_rfl) (fun k hk => by cases hk) (by kernel_rfl) (formulaValues_laid os))) ?_
  intro W base args ds gs before hval hW _ _ _ hL _ _
  exact formulaValues_contract H enc W base args ds gs before hval hW hL

theorem formulaValues_said : Rows.FormulaValuesSaid :=
  OpenClaim.holds_of_cond 10 Tryd.f10 rfl rfl rfl rfl rfl rfl rfl ⟨rfl, rfl, rfl, rfl, rfl⟩ rfl rfl rfl rfl rfl (by kernel_rfl) Tryd.func10 (by kernel_rfl)
    (of_decide_eq_true (by kernel_rfl)) (by unfold Func.isWrapper; first | (rw [if_pos (by decide +kernel)]; kernel_rfl) | (rw [if_neg (by decide +kernel)]; exact ⟨rfl, rfl⟩))
    (fun os started H enc _ F => by rw [OpenClaim.pre_eq_preRow]; exact formulaValues_lifted os started H enc F)

theorem formulaValues_plain (f : FuncId) (fn : Func) (hf : Tryd.pinned.checked.prog.funcNamed "deliberation/deliberationlaw02.FormulaValues" = some f) (hfn : Tryd.pinned.checked.prog.funcs[f]? = some fn) :
    false = Tryd.pinned.checked.prog.looks [] ∧ ∀ (j : Nat) t, fn.params[j]? = some t → Tryd.pinned.checked.prog.wantsStandIn t = false := by
  obtain rfl : f = 10 := Option.some.inj ((show Tryd.prog.funcNamed "deliberation/deliberationlaw02.FormulaValues" = some 10 by kernel_rfl).symm.trans hf) |>.symm
  obtain rfl : fn = Tryd.f10 := (Option.some.inj (Tryd.func10.symm.trans hfn)).symm
  refine ⟨by kernel_rfl, fun j t ht => ?_⟩
  have h1 : (Tryd.f10.params.toList.all fun t => !(Tryd.prog.wantsStandIn t)) = true := by kernel_rfl
  have h2 : t ∈ Tryd.f10.params.toList := by
    have := Array.mem_of_getElem? ht
    simpa using this
  have h3 : Tryd.prog.wantsStandIn t = false := by simpa using List.all_eq_true.1 h1 t h2
  exact h3

/-- THE CARD -/
theorem formulaValues_card : Rows.FormulaValuesCardSaid :=
  Claim7.holds_tied_plain_at .later [] _ _ _ _ formulaValues_said (fun _ h => by cases h) (by kernel_rfl) (fun _ h => by cases h) formulaValues_row_tie rfl ⟨rfl, rfl⟩ (by kernel_rfl) rfl formulaValues_plain (by kernel_rfl)
end Go.Proofs.YtgmnlkjoiakoaaaDoor
