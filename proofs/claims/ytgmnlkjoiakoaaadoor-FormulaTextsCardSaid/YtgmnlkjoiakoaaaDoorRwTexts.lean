/- For every formula and every list of numbers the law FormulaTexts returns true: Size, Depth, Validate and Format return the documented results; no condition. -/
import Derived.Test.YtgmnlkjoiakoaaaDoorLwTx
import Derived.Test.YtgmnlkjoiakoaaaDoorRw0
set_option linter.unusedSimpArgs false
set_option linter.unusedVariables false
set_option linter.unusedSectionVars false
namespace Go.Proofs.YtgmnlkjoiakoaaaDoor
open Go Am Go.ChangeShapes Go.WideShapes Go.ChangeAt Go.RowKit
set_option maxRecDepth 100000

theorem formulaTexts_laid (os : Os) : laidMet Tryd.prog Rows.formulaTextsRow.laid ((laidWorld os).forCall (fun _ _ => 0) ⟨#[], #[.agg #[.int .i64 0, .string ⟨⟨[]⟩⟩, .slice none 0 0], .slice none 0 0], []⟩).memory :=
  laidMet_of_run' 8 (by kernel_rfl) (by kernel_rfl)
theorem formulaTexts_reads (os : Os) {H : Type} (enc : TypeId × Value → H) : ∃ places, DataW.whole enc Tryd.prog ((laidWorld os).forCall (fun _ _ => 0) ⟨#[], #[.agg #[.int .i64 0, .string ⟨⟨[]⟩⟩, .slice none 0 0], .slice none 0 0], []⟩).memory Tryd.f3.params.toList Rows.formulaTextsSpec.vars false (#[.agg #[.int .i64 0, .string ⟨⟨[]⟩⟩, .slice none 0 0], .slice none 0 0] : Array Value).toList 8 = some ([.agg [.lit (.int .i64 0), .lit (.string []), .nil], .nil], [], places) :=
  ⟨[], by kernel_rfl⟩
theorem formulaTexts_contract (H : Type) (enc : TypeId × Value → H) (W : World) (base : Nat) (args : Array Value) (ds gs : List (DataW H)) (before : List MemPlace)
    (hval : ∀ (j : Nat) t v, Tryd.f3.params[j]? = some t → args[j]? = some v → Value.okWide Tryd.prog W .any base t v)
    (hW : DataW.Whole enc Tryd.prog Tryd.f3.params.toList Rows.formulaTextsSpec.vars false W args.toList ds gs before) (hL : laidMetH Tryd.prog Rows.formulaTextsRow.laid W) :
    Calls Tryd.prog 3 args W fun e W' => ∃ v, e = .returned v ∧ Rows.formulaTextsSpec.post enc Tryd.prog Tryd.f3 false true false false W args v W' := by
  have hW' := hW
  obtain ⟨p, q, hA0, hV, rfl, hfz, hnd⟩ := hW
  have hA : DataW.TrodAll enc Tryd.prog W 0 (fun _ => true) true Tryd.f3.params.toList args.toList ds p := hA0
  obtain ⟨rfl, rfl⟩ := trodVars_none hV
  have hval' : ∀ (j : Nat) t v, Tryd.f3.params.toList[j]? = some t → args.toList[j]? = some v → Value.okWide Tryd.prog W .any base t v := fun j t v h1 h2 => hval j t v (by simpa using h1) (by simpa using h2)
  have hds : ∃ d0 d1, ds = [d0, d1] := by
    rw [Tryd.params3] at hA
    have := hA
    obtain ⟨_, _, d0, _, _, _, _, rfl, _, _, this⟩ := trodAll_cons this
    obtain ⟨_, _, d1, _, _, _, _, rfl, _, _, this⟩ := trodAll_cons this
    obtain ⟨_, rfl, _⟩ := trodAll_nil this
    exact ⟨d0, d1, rfl⟩
  obtain ⟨I, hI, hrep⟩ := rep_pars (L := LT) simpleLT (ρ := fun _ => none) (Hp := hOf []) _ _ _ _ (by kernel_rfl) hA hval'
  have hr : run tb 0 I.flatten = some [.bool true] := formulaTexts_true I hI
  have hlen : I.flatten.length = sg0.nin := hI.len.trans (by kernel_rfl)
  have hc := call_true (W := W) (ins := I.flatten) (vs := args.toList) (i := 0) (f := 3) (sg := sg0) rfl rfl rfl rfl rfl rfl hL hI.wf hlen hr (hrep [] _)
  refine hc.mono fun e W' h => ?_
  obtain ⟨rfl, C', ρ', hE⟩ := h
  obtain ⟨d0, d1, rfl⟩ := hds
  exact ⟨_, rfl, post_true (tb := TBool) laidOut rowed fullS (fun t ht => by
    have : (Tryd.f3.params.toList.all fun t => decide (t < Tryd.prog.types.size)) = true := by kernel_rfl
    simpa using List.all_eq_true.1 this t ht) rfl hW' rfl (by kernel_rfl) uBool hE⟩

theorem formulaTexts_lifted (os : Os) (started : os.Started) (H : Type) (enc : TypeId × Value → H) (F : Stop.Interp) :
    ReturnsInHanded {} Tryd.checked os 3 .any ((OpenSpec.ofChange Rows.formulaTextsSpec).preRow enc Tryd.prog Tryd.f3 Rows.formulaTextsRow.domain false Rows.formulaTextsRow.laid) (((OpenSpec.ofChange Rows.formulaTextsSpec).at F).post enc Tryd.prog Tryd.f3 false true false false) := by
  obtain ⟨places, hx⟩ := formulaTexts_reads os enc
  refine returnsInHanded_of_row (C := Tryd.checked) (s := OpenSpec.ofChange Rows.formulaTextsSpec) ownK started (by kernel_rfl) Tryd.func3
    (witness_row_at (enc := enc) (C := Tryd.checked) false (laidWorld os) #[.agg #[.int .i64 0, .string ⟨⟨[]⟩⟩, .slice none 0 0], .slice none 0 0] rfl (by kernel_rfl) (by kernel_rfl) (by kernel_rfl)
      (OpenSpec.preRow_of_cond 8 hx (by kernel_rfl) (fun k hk => by cases hk) (by kernel_rfl) (formulaTexts_laid os))) ?_
  intro W base args ds gs before hval hW _ _ _ hL _ _
  exact formulaTexts_contract H enc W base args ds gs before hval hW hL

theorem formulaTexts_said : Rows.FormulaTextsSaid :=
  OpenClaim.holds_of_cond 3 Tryd.f3 rfl rfl rfl rfl rfl rfl rfl ⟨rfl, rfl, rfl, rfl, rfl⟩ rfl rfl rfl rfl rfl (by kernel_rfl) Tryd.func3 (by kernel_rfl)
    (of_decide_eq_true (by kernel_rfl)) (by unfold Func.isWrapper; first | (rw [if_pos (by decide +kernel)]; kernel_rfl) | (rw [if_neg (by decide +kernel)]; exact ⟨rfl, rfl⟩))
    (fun os started H enc _ F => by rw [OpenClaim.pre_eq_preRow]; exact formulaTexts_lifted os started H enc F)

theorem formulaTexts_plain (f : FuncId) (fn : Func) (hf : Tryd.pinned.checked.prog.funcNamed "deliberation/deliberationlaw02.FormulaTexts" = some f) (hfn : Tryd.pinned.checked.prog.funcs[f]? = some fn) :
    false = Tryd.pinned.checked.prog.looks [] ∧ ∀ (j : Nat) t, fn.params[j]? = some t → Tryd.pinned.checked.prog.wantsStandIn t = false := by
  obtain rfl : f = 3 := Option.some.inj ((show Tryd.prog.funcNamed "deliberation/deliberationlaw02.FormulaTexts" = some 3 by kernel_rfl).symm.trans hf) |>.symm
  obtain rfl : fn = Tryd.f3 := (Option.some.inj (Tryd.func3.symm.trans hfn)).symm
  refine ⟨by kernel_rfl, fun j t ht => ?_⟩
  have h1 : (Tryd.f3.params.toList.all fun t => !(Tryd.prog.wantsStandIn t)) = true := by kernel_rfl
  have h2 : t ∈ Tryd.f3.params.toList := by
    have := Array.mem_of_getElem? ht
    simpa using this
  have h3 : Tryd.prog.wantsStandIn t = false := by simpa using List.all_eq_true.1 h1 t h2
  exact h3

/-- THE CARD -/
theorem formulaTexts_card : Rows.FormulaTextsCardSaid :=
  Claim7.holds_tied_plain_at .later [] _ _ _ _ formulaTexts_said (fun _ h => by cases h) (by kernel_rfl) (fun _ h => by cases h) formulaTexts_row_tie rfl ⟨rfl, rfl⟩ (by kernel_rfl) rfl formulaTexts_plain (by kernel_rfl)
end Go.Proofs.YtgmnlkjoiakoaaaDoor
