/- Vector, Order and Merge of the program answer as the reference does, for every vocabulary, list of formulas, constraint and kind. Conditions: none beyond the given statement. -/
import Derived.Test.YtejddbdoioppgaaGreatDoorLwMa
import Derived.Test.YtejddbdoioppgaaGreatDoorRw1u
set_option linter.unusedSimpArgs false
set_option linter.unusedVariables false
set_option linter.unusedSectionVars false
namespace Go.Proofs.YtejddbdoioppgaaGreatDoor
open Go Am Go.ChangeShapes Go.WideShapes Go.ChangeAt Go.RowKit
set_option maxRecDepth 100000
theorem mergeAnswers_laid (os : Os) : laidMet Tryz.prog Rows.mergeAnswersRow.laid ((laidWorld os).forCall (fun _ _ => 0) ⟨#[], #[.slice none 0 0, .slice none 0 0, .agg #[.int .i64 0, .string ⟨⟨[]⟩⟩, .slice none 0 0], .slice none 0 0, .int .i64 0, .int .i64 0], []⟩).memory :=
 laidMet_of_run' 8 (by kernel_rfl) (by kernel_rfl)
theorem mergeAnswers_reads (os : Os) {H : Type} (enc : TypeId × Value → H) : ∃ places, DataW.whole enc Tryz.prog ((laidWorld os).forCall (fun _ _ => 0) ⟨#[], #[.slice none 0 0, .slice none 0 0, .agg #[.int .i64 0, .string ⟨⟨[]⟩⟩, .slice none 0 0], .slice none 0 0, .int .i64 0, .int .i64 0], []⟩).memory Tryz.f7.params.toList Rows.mergeAnswersSpec.vars false (#[.slice none 0 0, .slice none 0 0, .agg #[.int .i64 0, .string ⟨⟨[]⟩⟩, .slice none 0 0], .slice none 0 0, .int .i64 0, .int .i64 0] : Array Value).toList 8 = some ([.nil, .nil, .agg [.lit (.int .i64 0), .lit (.string []), .nil], .nil, .lit (.int .i64 0), .lit (.int .i64 0)], [], places) :=
 ⟨[], by kernel_rfl⟩
theorem mergeAnswers_contract (H : Type) (enc : TypeId × Value → H) (W : World) (base : Nat) (args : Array Value) (ds gs : List (DataW H)) (before : List MemPlace)
 (hval : ∀ (j : Nat) t v, Tryz.f7.params[j]? = some t → args[j]? = some v → Value.okWide Tryz.prog W .any base t v)
 (hW : DataW.Whole enc Tryz.prog Tryz.f7.params.toList Rows.mergeAnswersSpec.vars false W args.toList ds gs before) (hL : laidMetH Tryz.prog Rows.mergeAnswersRow.laid W) :
 Calls Tryz.prog 7 args W fun e W' => ∃ v, e = .returned v ∧ Rows.mergeAnswersSpec.post enc Tryz.prog Tryz.f7 false true false false W args v W' := by
 have hW' := hW
 obtain ⟨p, q, hA0, hV, rfl, hfz, hnd⟩ := hW
 have hA : DataW.TrodAll enc Tryz.prog W 0 (fun _ => true) true Tryz.f7.params.toList args.toList ds p := hA0
 obtain ⟨rfl, rfl⟩ := trodVars_none hV
 have hval' : ∀ (j : Nat) t v, Tryz.f7.params.toList[j]? = some t → args.toList[j]? = some v → Value.okWide Tryz.prog W .any base t v := fun j t v h1 h2 => hval j t v (by simpa using h1) (by simpa using h2)
 have hds : ∃ d0 d1 d2 d3 d4 d5, ds = [d0, d1, d2, d3, d4, d5] := by
  rw [Tryz.params7] at hA
  have := hA
  obtain ⟨_, _, d0, _, _, _, _, rfl, _, _, this⟩ := trodAll_cons this
  obtain ⟨_, _, d1, _, _, _, _, rfl, _, _, this⟩ := trodAll_cons this
  obtain ⟨_, _, d2, _, _, _, _, rfl, _, _, this⟩ := trodAll_cons this
  obtain ⟨_, _, d3, _, _, _, _, rfl, _, _, this⟩ := trodAll_cons this
  obtain ⟨_, _, d4, _, _, _, _, rfl, _, _, this⟩ := trodAll_cons this
  obtain ⟨_, _, d5, _, _, _, _, rfl, _, _, this⟩ := trodAll_cons this
  obtain ⟨_, rfl, _⟩ := trodAll_nil this
  exact ⟨d0, d1, d2, d3, d4, d5, rfl⟩
 obtain ⟨I, hI, hrep⟩ := rep_pars (L := LF) simpleLF (ρ := fun _ => none) (Hp := hOf []) _ _ _ _ (by kernel_rfl) hA hval'
 have hr : run tb 0 I.flatten = some [.bool true] := mergeAnswers_true I hI
 have hlen : I.flatten.length = sg0.nin := hI.len.trans (by kernel_rfl)
 have hc := call_true (W := W) (ins := I.flatten) (vs := args.toList) (i := 0) (f := 7) (sg := sg0) rfl rfl rfl rfl rfl rfl hL hI.wf hlen hr (hrep [] _)
 refine hc.mono fun e W' h => ?_
 obtain ⟨rfl, C', ρ', hE⟩ := h
 obtain ⟨d0, d1, d2, d3, d4, d5, rfl⟩ := hds
 exact ⟨_, rfl, post_true (tb := TBool) laidOut rowed fullS (fun t ht => by
  have : (Tryz.f7.params.toList.all fun t => decide (t < Tryz.prog.types.size)) = true := by kernel_rfl
  simpa using List.all_eq_true.1 this t ht) rfl hW' rfl (by kernel_rfl) uBool hE⟩
theorem mergeAnswers_lifted (os : Os) (started : os.Started) (H : Type) (enc : TypeId × Value → H) (F : Stop.Interp) :
 ReturnsInHanded {} Tryz.checked os 7 .any ((OpenSpec.ofChange Rows.mergeAnswersSpec).preRow enc Tryz.prog Tryz.f7 Rows.mergeAnswersRow.domain false Rows.mergeAnswersRow.laid) (((OpenSpec.ofChange Rows.mergeAnswersSpec).at F).post enc Tryz.prog Tryz.f7 false true false false) := by
 obtain ⟨places, hx⟩ := mergeAnswers_reads os enc
 refine returnsInHanded_of_row (C := Tryz.checked) (s := OpenSpec.ofChange Rows.mergeAnswersSpec) ownK started (by kernel_rfl) Tryz.func7
  (witness_row_at (enc := enc) (C := Tryz.checked) false (laidWorld os) #[.slice none 0 0, .slice none 0 0, .agg #[.int .i64 0, .string ⟨⟨[]⟩⟩, .slice none 0 0], .slice none 0 0, .int .i64 0, .int .i64 0] rfl (by kernel_rfl) (by kernel_rfl) (by kernel_rfl)
   (OpenSpec.preRow_of_cond 8 hx (by kernel_rfl) (fun k hk => by cases hk) (by kernel_rfl) (mergeAnswers_laid os))) ?_
 intro W base args ds gs before hval hW _ _ _ hL _ _
 exact mergeAnswers_contract H enc W base args ds gs before hval hW hL
theorem mergeAnswers_j0 : (Rows.mergeAnswersRow.inPlace == Program.inPlace Tryz.pinned.checked.prog 7) = true := by kernel_rfl
theorem mergeAnswers_j1 : (Rows.mergeAnswersRow.unfollowed == Program.unfollowed Tryz.pinned.checked.prog 7) = true := by kernel_rfl
theorem mergeAnswers_j2 : (Rows.mergeAnswersRow.recurses == Program.recurses Tryz.pinned.checked.prog 7) = true := by kernel_rfl
theorem mergeAnswers_j3 : (Rows.mergeAnswersRow.named == Program.varsNamed Tryz.pinned.checked.prog 7) = true := by kernel_rfl
theorem mergeAnswers_j4 : (Rows.mergeAnswersRow.plainKeys == Program.plainKeys Tryz.pinned.checked.prog) = true := by kernel_rfl
theorem mergeAnswers_j5 : (laidOutB Tryz.pinned.checked.prog) = true := by kernel_rfl
theorem mergeAnswers_j6 : (mapsRowed Tryz.pinned.checked.prog) = true := by kernel_rfl
theorem mergeAnswers_joined : joinedFacts Tryz.pinned.checked.prog 7 Tryz.f7 (OpenSpec.ofChange Rows.mergeAnswersSpec).bare Rows.mergeAnswersRow = true := by
 unfold joinedFacts
 repeat' first | with_reducible exact mergeAnswers_j0 | with_reducible exact mergeAnswers_j1 | with_reducible exact mergeAnswers_j2 | with_reducible exact mergeAnswers_j3 | with_reducible exact mergeAnswers_j4 | with_reducible exact mergeAnswers_j5 | with_reducible exact mergeAnswers_j6 | with_reducible refine Bool.and_eq_true_iff.2 ⟨?_, ?_⟩ | kernel_rfl
theorem mergeAnswers_said : Rows.MergeAnswersSaid :=
 OpenClaim.holds_of_cond 7 Tryz.f7 rfl rfl rfl rfl rfl rfl rfl ⟨rfl, rfl, rfl, rfl, rfl⟩ rfl rfl rfl rfl rfl (by kernel_rfl) Tryz.func7 mergeAnswers_joined
  (of_decide_eq_true (by kernel_rfl)) (by unfold Func.isWrapper; first | (rw [if_pos (by decide +kernel)]; kernel_rfl) | (rw [if_neg (by decide +kernel)]; exact ⟨rfl, rfl⟩))
  (fun os started H enc _ F => by rw [OpenClaim.pre_eq_preRow]; exact mergeAnswers_lifted os started H enc F)
theorem mergeAnswers_plain (f : FuncId) (fn : Func) (hf : Tryz.pinned.checked.prog.funcNamed "deliberation/deliberationlaw36.MergeAnswers" = some f) (hfn : Tryz.pinned.checked.prog.funcs[f]? = some fn) :
 false = Tryz.pinned.checked.prog.looks [] ∧ ∀ (j : Nat) t, fn.params[j]? = some t → Tryz.pinned.checked.prog.wantsStandIn t = false := by
 obtain rfl : f = 7 := Option.some.inj ((show Tryz.prog.funcNamed "deliberation/deliberationlaw36.MergeAnswers" = some 7 by kernel_rfl).symm.trans hf) |>.symm
 obtain rfl : fn = Tryz.f7 := (Option.some.inj (Tryz.func7.symm.trans hfn)).symm
 refine ⟨by kernel_rfl, fun j t ht => ?_⟩
 have h1 : (Tryz.f7.params.toList.all fun t => !(Tryz.prog.wantsStandIn t)) = true := by kernel_rfl
 have h2 : t ∈ Tryz.f7.params.toList := by
  have := Array.mem_of_getElem? ht
  simpa using this
 have h3 : Tryz.prog.wantsStandIn t = false := by simpa using List.all_eq_true.1 h1 t h2
 exact h3
theorem mergeAnswers_card : Rows.MergeAnswersCardSaid :=
 Claim7.holds_tied_plain_at .later [] _ _ _ _ mergeAnswers_said (fun _ h => by cases h) (by kernel_rfl) (fun _ h => by cases h) mergeAnswers_row_tie rfl ⟨rfl, rfl⟩ (by kernel_rfl) rfl mergeAnswers_plain (by kernel_rfl)
end Go.Proofs.YtejddbdoioppgaaGreatDoor
