/- Erasure keeps what was possible and gives up what was certain: the statement UpdateErases as a tied card. Conditions: none beyond the given statement. -/
import Derived.Test.YtefkehflmlikmaaDoorLwUe
import Derived.Test.YtefkehflmlikmaaDoorRw0
set_option linter.unusedSimpArgs false
set_option linter.unusedVariables false
set_option linter.unusedSectionVars false
namespace Go.Proofs.YtefkehflmlikmaaDoor
open Go Am Go.ChangeShapes Go.WideShapes Go.ChangeAt Go.RowKit
set_option maxRecDepth 100000
theorem updateErases_laid (os : Os) : laidMet Tryd.prog Rows.updateErasesRow.laid ((laidWorld os).forCall (fun _ _ => 0) ⟨#[], #[.slice none 0 0], []⟩).memory :=
 laidMet_of_run' 8 (by kernel_rfl) (by kernel_rfl)
theorem updateErases_reads (os : Os) {H : Type} (enc : TypeId × Value → H) : ∃ places, DataW.whole enc Tryd.prog ((laidWorld os).forCall (fun _ _ => 0) ⟨#[], #[.slice none 0 0], []⟩).memory Tryd.f5.params.toList Rows.updateErasesSpec.vars false (#[.slice none 0 0] : Array Value).toList 8 = some ([.nil], [], places) :=
 ⟨[], by kernel_rfl⟩
theorem updateErases_contract (H : Type) (enc : TypeId × Value → H) (W : World) (base : Nat) (args : Array Value) (ds gs : List (DataW H)) (before : List MemPlace)
 (hval : ∀ (j : Nat) t v, Tryd.f5.params[j]? = some t → args[j]? = some v → Value.okWide Tryd.prog W .any base t v)
 (hW : DataW.Whole enc Tryd.prog Tryd.f5.params.toList Rows.updateErasesSpec.vars false W args.toList ds gs before) (hL : laidMetH Tryd.prog Rows.updateErasesRow.laid W) :
 Calls Tryd.prog 5 args W fun e W' => ∃ v, e = .returned v ∧ Rows.updateErasesSpec.post enc Tryd.prog Tryd.f5 false true false false W args v W' := by
 have hW' := hW
 obtain ⟨p, q, hA0, hV, rfl, hfz, hnd⟩ := hW
 have hA : DataW.TrodAll enc Tryd.prog W 0 (fun _ => true) true Tryd.f5.params.toList args.toList ds p := hA0
 obtain ⟨rfl, rfl⟩ := trodVars_none hV
 have hval' : ∀ (j : Nat) t v, Tryd.f5.params.toList[j]? = some t → args.toList[j]? = some v → Value.okWide Tryd.prog W .any base t v := fun j t v h1 h2 => hval j t v (by simpa using h1) (by simpa using h2)
 have hds : ∃ d0, ds = [d0] := by
  rw [Tryd.params5] at hA
  have := hA
  obtain ⟨_, _, d0, _, _, _, _, rfl, _, _, this⟩ := trodAll_cons this
  obtain ⟨_, rfl, _⟩ := trodAll_nil this
  exact ⟨d0, rfl⟩
 obtain ⟨I, hI, hrep⟩ := rep_pars (L := LT) simpleLT (ρ := fun _ => none) (Hp := hOf []) _ _ _ _ (by kernel_rfl) hA hval'
 have hr : run tb 2 I.flatten = some [.bool true] := updateErases_true I hI
 have hlen : I.flatten.length = sg2.nin := hI.len.trans (by kernel_rfl)
 have hc := call_true (W := W) (ins := I.flatten) (vs := args.toList) (i := 2) (f := 5) (sg := sg2) rfl rfl rfl rfl rfl rfl hL hI.wf hlen hr (hrep [] _)
 refine hc.mono fun e W' h => ?_
 obtain ⟨rfl, C', ρ', hE⟩ := h
 obtain ⟨d0, rfl⟩ := hds
 exact ⟨_, rfl, post_true (tb := TBool) laidOut rowed fullS (fun t ht => by
  have : (Tryd.f5.params.toList.all fun t => decide (t < Tryd.prog.types.size)) = true := by kernel_rfl
  simpa using List.all_eq_true.1 this t ht) rfl hW' rfl (by kernel_rfl) uBool hE⟩
theorem updateErases_lifted (os : Os) (started : os.Started) (H : Type) (enc : TypeId × Value → H) (F : Stop.Interp) :
 ReturnsInHanded {} Tryd.checked os 5 .any ((OpenSpec.ofChange Rows.updateErasesSpec).preRow enc Tryd.prog Tryd.f5 Rows.updateErasesRow.domain false Rows.updateErasesRow.laid) (((OpenSpec.ofChange Rows.updateErasesSpec).at F).post enc Tryd.prog Tryd.f5 false true false false) := by
 obtain ⟨places, hx⟩ := updateErases_reads os enc
 refine returnsInHanded_of_row (C := Tryd.checked) (s := OpenSpec.ofChange Rows.updateErasesSpec) ownK started (by kernel_rfl) Tryd.func5
  (witness_row_at (enc := enc) (C := Tryd.checked) false (laidWorld os) #[.slice none 0 0] rfl (by kernel_rfl) (by kernel_rfl) (by kernel_rfl)
   (OpenSpec.preRow_of_cond 8 hx (by kernel_rfl) (fun k hk => by cases hk) (by kernel_rfl) (updateErases_laid os))) ?_
 intro W base args ds gs before hval hW _ _ _ hL _ _
 exact updateErases_contract H enc W base args ds gs before hval hW hL
theorem updateErases_j0 : (Rows.updateErasesRow.inPlace == Program.inPlace Tryd.pinned.checked.prog 5) = true := by kernel_rfl
theorem updateErases_j1 : (Rows.updateErasesRow.unfollowed == Program.unfollowed Tryd.pinned.checked.prog 5) = true := by kernel_rfl
theorem updateErases_j2 : (Rows.updateErasesRow.recurses == Program.recurses Tryd.pinned.checked.prog 5) = true := by kernel_rfl
theorem updateErases_j3 : (Rows.updateErasesRow.named == Program.varsNamed Tryd.pinned.checked.prog 5) = true := by kernel_rfl
theorem updateErases_j4 : (Rows.updateErasesRow.plainKeys == Program.plainKeys Tryd.pinned.checked.prog) = true := by kernel_rfl
theorem updateErases_j5 : (laidOutB Tryd.pinned.checked.prog) = true := by kernel_rfl
theorem updateErases_j6 : (mapsRowed Tryd.pinned.checked.prog) = true := by kernel_rfl
theorem updateErases_joined : joinedFacts Tryd.pinned.checked.prog 5 Tryd.f5 (OpenSpec.ofChange Rows.updateErasesSpec).bare Rows.updateErasesRow = true := by
 unfold joinedFacts
 repeat' first | with_reducible exact updateErases_j0 | with_reducible exact updateErases_j1 | with_reducible exact updateErases_j2 | with_reducible exact updateErases_j3 | with_reducible exact updateErases_j4 | with_reducible exact updateErases_j5 | with_reducible exact updateErases_j6 | with_reducible refine Bool.and_eq_true_iff.2 ⟨?_, ?_⟩ | kernel_rfl
theorem updateErases_said : Rows.UpdateErasesSaid :=
 OpenClaim.holds_of_cond 5 Tryd.f5 rfl rfl rfl rfl rfl rfl rfl ⟨rfl, rfl, rfl, rfl, rfl⟩ rfl rfl rfl rfl rfl (by kernel_rfl) Tryd.func5 updateErases_joined
  (of_decide_eq_true (by kernel_rfl)) (by unfold Func.isWrapper; first | (rw [if_pos (by decide +kernel)]; kernel_rfl) | (rw [if_neg (by decide +kernel)]; exact ⟨rfl, rfl⟩))
  (fun os started H enc _ F => by rw [OpenClaim.pre_eq_preRow]; exact updateErases_lifted os started H enc F)
theorem updateErases_plain (f : FuncId) (fn : Func) (hf : Tryd.pinned.checked.prog.funcNamed "deliberation/deliberationlaw34.UpdateErases" = some f) (hfn : Tryd.pinned.checked.prog.funcs[f]? = some fn) :
 false = Tryd.pinned.checked.prog.looks [] ∧ ∀ (j : Nat) t, fn.params[j]? = some t → Tryd.pinned.checked.prog.wantsStandIn t = false := by
 obtain rfl : f = 5 := Option.some.inj ((show Tryd.prog.funcNamed "deliberation/deliberationlaw34.UpdateErases" = some 5 by kernel_rfl).symm.trans hf) |>.symm
 obtain rfl : fn = Tryd.f5 := (Option.some.inj (Tryd.func5.symm.trans hfn)).symm
 refine ⟨by kernel_rfl, fun j t ht => ?_⟩
 have h1 : (Tryd.f5.params.toList.all fun t => !(Tryd.prog.wantsStandIn t)) = true := by kernel_rfl
 have h2 : t ∈ Tryd.f5.params.toList := by
  have := Array.mem_of_getElem? ht
  simpa using this
 have h3 : Tryd.prog.wantsStandIn t = false := by simpa using List.all_eq_true.1 h1 t h2
 exact h3
theorem updateErases_card : Rows.UpdateErasesCardSaid :=
 Claim7.holds_tied_plain_at .later [] _ _ _ _ updateErases_said (fun _ h => by cases h) (by kernel_rfl) (fun _ h => by cases h) updateErases_row_tie rfl ⟨rfl, rfl⟩ (by kernel_rfl) rfl updateErases_plain (by kernel_rfl)
end Go.Proofs.YtefkehflmlikmaaDoor
