/- Distance is a metric, and the nearest worlds for the three distances are nested: the statement UpdateDistances as a tied card. Conditions: none beyond the given statement. -/
import Derived.Test.YtefkehflmlikmaaDoorLwUd
import Derived.Test.YtefkehflmlikmaaDoorRw0
set_option linter.unusedSimpArgs false
set_option linter.unusedVariables false
set_option linter.unusedSectionVars false
namespace Go.Proofs.YtefkehflmlikmaaDoor
open Go Am Go.ChangeShapes Go.WideShapes Go.ChangeAt Go.RowKit
set_option maxRecDepth 100000
theorem updateDistances_laid (os : Os) : laidMet Tryd.prog Rows.updateDistancesRow.laid ((laidWorld os).forCall (fun _ _ => 0) ⟨#[], #[.slice none 0 0, .int .i64 0, .int .i64 0, .int .i64 0], []⟩).memory :=
 laidMet_of_run' 8 (by kernel_rfl) (by kernel_rfl)
theorem updateDistances_reads (os : Os) {H : Type} (enc : TypeId × Value → H) : ∃ places, DataW.whole enc Tryd.prog ((laidWorld os).forCall (fun _ _ => 0) ⟨#[], #[.slice none 0 0, .int .i64 0, .int .i64 0, .int .i64 0], []⟩).memory Tryd.f6.params.toList Rows.updateDistancesSpec.vars false (#[.slice none 0 0, .int .i64 0, .int .i64 0, .int .i64 0] : Array Value).toList 8 = some ([.nil, .lit (.int .i64 0), .lit (.int .i64 0), .lit (.int .i64 0)], [], places) :=
 ⟨[], by kernel_rfl⟩
theorem updateDistances_contract (H : Type) (enc : TypeId × Value → H) (W : World) (base : Nat) (args : Array Value) (ds gs : List (DataW H)) (before : List MemPlace)
 (hval : ∀ (j : Nat) t v, Tryd.f6.params[j]? = some t → args[j]? = some v → Value.okWide Tryd.prog W .any base t v)
 (hW : DataW.Whole enc Tryd.prog Tryd.f6.params.toList Rows.updateDistancesSpec.vars false W args.toList ds gs before) (hL : laidMetH Tryd.prog Rows.updateDistancesRow.laid W) :
 Calls Tryd.prog 6 args W fun e W' => ∃ v, e = .returned v ∧ Rows.updateDistancesSpec.post enc Tryd.prog Tryd.f6 false true false false W args v W' := by
 have hW' := hW
 obtain ⟨p, q, hA0, hV, rfl, hfz, hnd⟩ := hW
 have hA : DataW.TrodAll enc Tryd.prog W 0 (fun _ => true) true Tryd.f6.params.toList args.toList ds p := hA0
 obtain ⟨rfl, rfl⟩ := trodVars_none hV
 have hval' : ∀ (j : Nat) t v, Tryd.f6.params.toList[j]? = some t → args.toList[j]? = some v → Value.okWide Tryd.prog W .any base t v := fun j t v h1 h2 => hval j t v (by simpa using h1) (by simpa using h2)
 have hds : ∃ d0 d1 d2 d3, ds = [d0, d1, d2, d3] := by
  rw [Tryd.params6] at hA
  have := hA
  obtain ⟨_, _, d0, _, _, _, _, rfl, _, _, this⟩ := trodAll_cons this
  obtain ⟨_, _, d1, _, _, _, _, rfl, _, _, this⟩ := trodAll_cons this
  obtain ⟨_, _, d2, _, _, _, _, rfl, _, _, this⟩ := trodAll_cons this
  obtain ⟨_, _, d3, _, _, _, _, rfl, _, _, this⟩ := trodAll_cons this
  obtain ⟨_, rfl, _⟩ := trodAll_nil this
  exact ⟨d0, d1, d2, d3, rfl⟩
 obtain ⟨I, hI, hrep⟩ := rep_pars (L := LT) simpleLT (ρ := fun _ => none) (Hp := hOf []) _ _ _ _ (by kernel_rfl) hA hval'
 have hr : run tb 3 I.flatten = some [.bool true] := updateDistances_true I hI
 have hlen : I.flatten.length = sg3.nin := hI.len.trans (by kernel_rfl)
 have hc := call_true (W := W) (ins := I.flatten) (vs := args.toList) (i := 3) (f := 6) (sg := sg3) rfl rfl rfl rfl rfl rfl hL hI.wf hlen hr (hrep [] _)
 refine hc.mono fun e W' h => ?_
 obtain ⟨rfl, C', ρ', hE⟩ := h
 obtain ⟨d0, d1, d2, d3, rfl⟩ := hds
 exact ⟨_, rfl, post_true (tb := TBool) laidOut rowed fullS (fun t ht => by
  have : (Tryd.f6.params.toList.all fun t => decide (t < Tryd.prog.types.size)) = true := by kernel_rfl
  simpa using List.all_eq_true.1 this t ht) rfl hW' rfl (by kernel_rfl) uBool hE⟩
theorem updateDistances_lifted (os : Os) (started : os.Started) (H : Type) (enc : TypeId × Value → H) (F : Stop.Interp) :
 ReturnsInHanded {} Tryd.checked os 6 .any ((OpenSpec.ofChange Rows.updateDistancesSpec).preRow enc Tryd.prog Tryd.f6 Rows.updateDistancesRow.domain false Rows.updateDistancesRow.laid) (((OpenSpec.ofChange Rows.updateDistancesSpec).at F).post enc Tryd.prog Tryd.f6 false true false false) := by
 obtain ⟨places, hx⟩ := updateDistances_reads os enc
 refine returnsInHanded_of_row (C := Tryd.checked) (s := OpenSpec.ofChange Rows.updateDistancesSpec) ownK started (by kernel_rfl) Tryd.func6
  (witness_row_at (enc := enc) (C := Tryd.checked) false (laidWorld os) #[.slice none 0 0, .int .i64 0, .int .i64 0, .int .i64 0] rfl (by kernel_rfl) (by kernel_rfl) (by kernel_rfl)
   (OpenSpec.preRow_of_cond 8 hx (by kernel_rfl) (fun k hk => by cases hk) (by kernel_rfl) (updateDistances_laid os))) ?_
 intro W base args ds gs before hval hW _ _ _ hL _ _
 exact updateDistances_contract H enc W base args ds gs before hval hW hL
theorem updateDistances_j0 : (Rows.updateDistancesRow.inPlace == Program.inPlace Tryd.pinned.checked.prog 6) = true := by kernel_rfl
theorem updateDistances_j1 : (Rows.updateDistancesRow.unfollowed == Program.unfollowed Tryd.pinned.checked.prog 6) = true := by kernel_rfl
theorem updateDistances_j2 : (Rows.updateDistancesRow.recurses == Program.recurses Tryd.pinned.checked.prog 6) = true := by kernel_rfl
theorem updateDistances_j3 : (Rows.updateDistancesRow.named == Program.varsNamed Tryd.pinned.checked.prog 6) = true := by kernel_rfl
theorem updateDistances_j4 : (Rows.updateDistancesRow.plainKeys == Program.plainKeys Tryd.pinned.checked.prog) = true := by kernel_rfl
theorem updateDistances_j5 : (laidOutB Tryd.pinned.checked.prog) = true := by kernel_rfl
theorem updateDistances_j6 : (mapsRowed Tryd.pinned.checked.prog) = true := by kernel_rfl
theorem updateDistances_joined : joinedFacts Tryd.pinned.checked.prog 6 Tryd.f6 (OpenSpec.ofChange Rows.updateDistancesSpec).bare Rows.updateDistancesRow = true := by
 unfold joinedFacts
 repeat' first | with_reducible exact updateDistances_j0 | with_reducible exact updateDistances_j1 | with_reducible exact updateDistances_j2 | with_reducible exact updateDistances_j3 | with_reducible exact updateDistances_j4 | with_reducible exact updateDistances_j5 | with_reducible exact updateDistances_j6 | with_reducible refine Bool.and_eq_true_iff.2 ⟨?_, ?_⟩ | kernel_rfl
theorem updateDistances_said : Rows.UpdateDistancesSaid :=
 OpenClaim.holds_of_cond 6 Tryd.f6 rfl rfl rfl rfl rfl rfl rfl ⟨rfl, rfl, rfl, rfl, rfl⟩ rfl rfl rfl rfl rfl (by kernel_rfl) Tryd.func6 updateDistances_joined
  (of_decide_eq_true (by kernel_rfl)) (by unfold Func.isWrapper; first | (rw [if_pos (by decide +kernel)]; kernel_rfl) | (rw [if_neg (by decide +kernel)]; exact ⟨rfl, rfl⟩))
  (fun os started H enc _ F => by rw [OpenClaim.pre_eq_preRow]; exact updateDistances_lifted os started H enc F)
theorem updateDistances_plain (f : FuncId) (fn : Func) (hf : Tryd.pinned.checked.prog.funcNamed "deliberation/deliberationlaw34.UpdateDistances" = some f) (hfn : Tryd.pinned.checked.prog.funcs[f]? = some fn) :
 false = Tryd.pinned.checked.prog.looks [] ∧ ∀ (j : Nat) t, fn.params[j]? = some t → Tryd.pinned.checked.prog.wantsStandIn t = false := by
 obtain rfl : f = 6 := Option.some.inj ((show Tryd.prog.funcNamed "deliberation/deliberationlaw34.UpdateDistances" = some 6 by kernel_rfl).symm.trans hf) |>.symm
 obtain rfl : fn = Tryd.f6 := (Option.some.inj (Tryd.func6.symm.trans hfn)).symm
 refine ⟨by kernel_rfl, fun j t ht => ?_⟩
 have h1 : (Tryd.f6.params.toList.all fun t => !(Tryd.prog.wantsStandIn t)) = true := by kernel_rfl
 have h2 : t ∈ Tryd.f6.params.toList := by
  have := Array.mem_of_getElem? ht
  simpa using this
 have h3 : Tryd.prog.wantsStandIn t = false := by simpa using List.all_eq_true.1 h1 t h2
 exact h3
theorem updateDistances_card : Rows.UpdateDistancesCardSaid :=
 Claim7.holds_tied_plain_at .later [] _ _ _ _ updateDistances_said (fun _ h => by cases h) (by kernel_rfl) (fun _ h => by cases h) updateDistances_row_tie rfl ⟨rfl, rfl⟩ (by kernel_rfl) rfl updateDistances_plain (by kernel_rfl)
end Go.Proofs.YtefkehflmlikmaaDoor
