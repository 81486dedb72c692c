/- FormulaBack holds for every input: texts of valid formulas are parsed back, and so are texts of what Parse returns. Conditions: none beyond the given statement. -/
import Derived.Test.YtccjhfmemghccaaDoorLwPb
import Derived.Test.YtccjhfmemghccaaDoorRw0
set_option linter.unusedSimpArgs false
set_option linter.unusedVariables false
set_option linter.unusedSectionVars false
namespace Go.Proofs.YtccjhfmemghccaaDoor
open Go Am Go.ChangeShapes Go.WideShapes Go.ChangeAt Go.RowKit
set_option maxRecDepth 100000
theorem formulaBack_laid (os : Os) : laidMet Tryd.prog Rows.formulaBackRow.laid ((laidWorld os).forCall (fun _ _ => 0) ⟨#[], #[.string ⟨⟨[]⟩⟩, .slice none 0 0], []⟩).memory :=
 laidMet_of_run' 8 (by kernel_rfl) (by kernel_rfl)
theorem formulaBack_reads (os : Os) {H : Type} (enc : TypeId × Value → H) : ∃ places, DataW.whole enc Tryd.prog ((laidWorld os).forCall (fun _ _ => 0) ⟨#[], #[.string ⟨⟨[]⟩⟩, .slice none 0 0], []⟩).memory Tryd.f4.params.toList Rows.formulaBackSpec.vars false (#[.string ⟨⟨[]⟩⟩, .slice none 0 0] : Array Value).toList 8 = some ([.lit (.string []), .nil], [], places) :=
 ⟨[], by kernel_rfl⟩
theorem formulaBack_contract (H : Type) (enc : TypeId × Value → H) (W : World) (base : Nat) (args : Array Value) (ds gs : List (DataW H)) (before : List MemPlace)
 (hval : ∀ (j : Nat) t v, Tryd.f4.params[j]? = some t → args[j]? = some v → Value.okWide Tryd.prog W .any base t v)
 (hW : DataW.Whole enc Tryd.prog Tryd.f4.params.toList Rows.formulaBackSpec.vars false W args.toList ds gs before) (hL : laidMetH Tryd.prog Rows.formulaBackRow.laid W) :
 Calls Tryd.prog 4 args W fun e W' => ∃ v, e = .returned v ∧ Rows.formulaBackSpec.post enc Tryd.prog Tryd.f4 false true false false W args v W' := by
 have hW' := hW
 obtain ⟨p, q, hA0, hV, rfl, hfz, hnd⟩ := hW
 have hA : DataW.TrodAll enc Tryd.prog W 0 (fun _ => true) true Tryd.f4.params.toList args.toList ds p := hA0
 obtain ⟨rfl, rfl⟩ := trodVars_none hV
 have hval' : ∀ (j : Nat) t v, Tryd.f4.params.toList[j]? = some t → args.toList[j]? = some v → Value.okWide Tryd.prog W .any base t v := fun j t v h1 h2 => hval j t v (by simpa using h1) (by simpa using h2)
 have hds : ∃ d0 d1, ds = [d0, d1] := by
  rw [Tryd.params4] at hA
  have := hA
  obtain ⟨_, _, d0, _, _, _, _, rfl, _, _, this⟩ := trodAll_cons this
  obtain ⟨_, _, d1, _, _, _, _, rfl, _, _, this⟩ := trodAll_cons this
  obtain ⟨_, rfl, _⟩ := trodAll_nil this
  exact ⟨d0, d1, rfl⟩
 obtain ⟨I, hI, hrep⟩ := rep_pars (L := LT) simpleLT (ρ := fun _ => none) (Hp := hOf []) _ _ _ _ (by kernel_rfl) hA hval'
 have hr : run tb 1 I.flatten = some [.bool true] := formulaBack_true I hI
 have hlen : I.flatten.length = sg1.nin := hI.len.trans (by kernel_rfl)
 have hc := call_true (W := W) (ins := I.flatten) (vs := args.toList) (i := 1) (f := 4) (sg := sg1) rfl rfl rfl rfl rfl rfl hL hI.wf hlen hr (hrep [] _)
 refine hc.mono fun e W' h => ?_
 obtain ⟨rfl, C', ρ', hE⟩ := h
 obtain ⟨d0, d1, rfl⟩ := hds
 exact ⟨_, rfl, post_true (tb := TBool) laidOut rowed fullS (fun t ht => by
  have : (Tryd.f4.params.toList.all fun t => decide (t < Tryd.prog.types.size)) = true := by kernel_rfl
  simpa using List.all_eq_true.1 this t ht) rfl hW' rfl (by kernel_rfl) uBool hE⟩
theorem formulaBack_lifted (os : Os) (started : os.Started) (H : Type) (enc : TypeId × Value → H) (F : Stop.Interp) :
 ReturnsInHanded {} Tryd.checked os 4 .any ((OpenSpec.ofChange Rows.formulaBackSpec).preRow enc Tryd.prog Tryd.f4 Rows.formulaBackRow.domain false Rows.formulaBackRow.laid) (((OpenSpec.ofChange Rows.formulaBackSpec).at F).post enc Tryd.prog Tryd.f4 false true false false) := by
 obtain ⟨places, hx⟩ := formulaBack_reads os enc
 refine returnsInHanded_of_row (C := Tryd.checked) (s := OpenSpec.ofChange Rows.formulaBackSpec) ownK started (by kernel_rfl) Tryd.func4
  (witness_row_at (enc := enc) (C := Tryd.checked) false (laidWorld os) #[.string ⟨⟨[]⟩⟩, .slice none 0 0] rfl (by kernel_rfl) (by kernel_rfl) (by kernel_rfl)
   (OpenSpec.preRow_of_cond 8 hx (by kernel_rfl) (fun k hk => by cases hk) (by kernel_rfl) (formulaBack_laid os))) ?_
 intro W base args ds gs before hval hW _ _ _ hL _ _
 exact formulaBack_contract H enc W base args ds gs before hval hW hL
theorem formulaBack_j0 : (Rows.formulaBackRow.inPlace == Program.inPlace Tryd.pinned.checked.prog 4) = true := by kernel_rfl
theorem formulaBack_j1 : (Rows.formulaBackRow.unfollowed == Program.unfollowed Tryd.pinned.checked.prog 4) = true := by kernel_rfl
theorem formulaBack_j2 : (Rows.formulaBackRow.recurses == Program.recurses Tryd.pinned.checked.prog 4) = true := by kernel_rfl
theorem formulaBack_j3 : (Rows.formulaBackRow.named == Program.varsNamed Tryd.pinned.checked.prog 4) = true := by kernel_rfl
theorem formulaBack_j4 : (Rows.formulaBackRow.plainKeys == Program.plainKeys Tryd.pinned.checked.prog) = true := by kernel_rfl
theorem formulaBack_j5 : (laidOutB Tryd.pinned.checked.prog) = true := by kernel_rfl
theorem formulaBack_j6 : (mapsRowed Tryd.pinned.checked.prog) = true := by kernel_rfl
theorem formulaBack_joined : joinedFacts Tryd.pinned.checked.prog 4 Tryd.f4 (OpenSpec.ofChange Rows.formulaBackSpec).bare Rows.formulaBackRow = true := by
 unfold joinedFacts
 repeat' first | with_reducible exact formulaBack_j0 | with_reducible exact formulaBack_j1 | with_reducible exact formulaBack_j2 | with_reducible exact formulaBack_j3 | with_reducible exact formulaBack_j4 | with_reducible exact formulaBack_j5 | with_reducible exact formulaBack_j6 | with_reducible refine Bool.and_eq_true_iff.2 ⟨?_, ?_⟩ | kernel_rfl
theorem formulaBack_said : Rows.FormulaBackSaid :=
 OpenClaim.holds_of_cond 4 Tryd.f4 rfl rfl rfl rfl rfl rfl rfl ⟨rfl, rfl, rfl, rfl, rfl⟩ rfl rfl rfl rfl rfl (by kernel_rfl) Tryd.func4 formulaBack_joined
  (of_decide_eq_true (by kernel_rfl)) (by unfold Func.isWrapper; first | (rw [if_pos (by decide +kernel)]; kernel_rfl) | (rw [if_neg (by decide +kernel)]; exact ⟨rfl, rfl⟩))
  (fun os started H enc _ F => by rw [OpenClaim.pre_eq_preRow]; exact formulaBack_lifted os started H enc F)
theorem formulaBack_plain (f : FuncId) (fn : Func) (hf : Tryd.pinned.checked.prog.funcNamed "deliberation/deliberationlaw02.FormulaBack" = some f) (hfn : Tryd.pinned.checked.prog.funcs[f]? = some fn) :
 false = Tryd.pinned.checked.prog.looks [] ∧ ∀ (j : Nat) t, fn.params[j]? = some t → Tryd.pinned.checked.prog.wantsStandIn t = false := by
 obtain rfl : f = 4 := Option.some.inj ((show Tryd.prog.funcNamed "deliberation/deliberationlaw02.FormulaBack" = some 4 by kernel_rfl).symm.trans hf) |>.symm
 obtain rfl : fn = Tryd.f4 := (Option.some.inj (Tryd.func4.symm.trans hfn)).symm
 refine ⟨by kernel_rfl, fun j t ht => ?_⟩
 have h1 : (Tryd.f4.params.toList.all fun t => !(Tryd.prog.wantsStandIn t)) = true := by kernel_rfl
 have h2 : t ∈ Tryd.f4.params.toList := by
  have := Array.mem_of_getElem? ht
  simpa using this
 have h3 : Tryd.prog.wantsStandIn t = false := by simpa using List.all_eq_true.1 h1 t h2
 exact h3
theorem formulaBack_card : Rows.FormulaBackCardSaid :=
 Claim7.holds_tied_plain_at .later [] _ _ _ _ formulaBack_said (fun _ h => by cases h) (by kernel_rfl) (fun _ h => by cases h) formulaBack_row_tie rfl ⟨rfl, rfl⟩ (by kernel_rfl) rfl formulaBack_plain (by kernel_rfl)
end Go.Proofs.YtccjhfmemghccaaDoor
