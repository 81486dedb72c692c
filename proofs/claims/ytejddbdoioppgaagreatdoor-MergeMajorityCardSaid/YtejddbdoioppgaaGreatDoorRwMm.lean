/- MergeMajority answers true at every input. Conditions: none beyond the given statement. -/
import Derived.Test.YtejddbdoioppgaaGreatDoorLwMm
import Derived.Test.YtejddbdoioppgaaGreatDoorRw0
set_option linter.unusedSimpArgs false
set_option linter.unusedVariables false
set_option linter.unusedSectionVars false
namespace Go.Proofs.YtejddbdoioppgaaGreatDoor
open Go Am Go.ChangeShapes Go.WideShapes Go.ChangeAt Go.RowKit
set_option maxRecDepth 100000
theorem mergeMajority_laid (os : Os) : laidMet Tryz.prog Rows.mergeMajorityRow.laid ((laidWorld os).forCall (fun _ _ => 0) ⟨#[], #[.slice none 0 0], []⟩).memory :=
 laidMet_of_run' 8 (by kernel_rfl) (by kernel_rfl)
theorem mergeMajority_reads (os : Os) {H : Type} (enc : TypeId × Value → H) : ∃ places, DataW.whole enc Tryz.prog ((laidWorld os).forCall (fun _ _ => 0) ⟨#[], #[.slice none 0 0], []⟩).memory Tryz.f6.params.toList Rows.mergeMajoritySpec.vars false (#[.slice none 0 0] : Array Value).toList 8 = some ([.nil], [], places) :=
 ⟨[], by kernel_rfl⟩
theorem mergeMajority_contract (H : Type) (enc : TypeId × Value → H) (W : World) (base : Nat) (args : Array Value) (ds gs : List (DataW H)) (before : List MemPlace)
 (hval : ∀ (j : Nat) t v, Tryz.f6.params[j]? = some t → args[j]? = some v → Value.okWide Tryz.prog W .any base t v)
 (hW : DataW.Whole enc Tryz.prog Tryz.f6.params.toList Rows.mergeMajoritySpec.vars false W args.toList ds gs before) (hL : laidMetH Tryz.prog Rows.mergeMajorityRow.laid W) :
 Calls Tryz.prog 6 args W fun e W' => ∃ v, e = .returned v ∧ Rows.mergeMajoritySpec.post enc Tryz.prog Tryz.f6 false true false false W args v W' := by
 have hW' := hW
 obtain ⟨p, q, hA0, hV, rfl, hfz, hnd⟩ := hW
 have hA : DataW.TrodAll enc Tryz.prog W 0 (fun _ => true) true Tryz.f6.params.toList args.toList ds p := hA0
 obtain ⟨rfl, rfl⟩ := trodVars_none hV
 have hval' : ∀ (j : Nat) t v, Tryz.f6.params.toList[j]? = some t → args.toList[j]? = some v → Value.okWide Tryz.prog W .any base t v := fun j t v h1 h2 => hval j t v (by simpa using h1) (by simpa using h2)
 have hds : ∃ d0, ds = [d0] := by
  rw [Tryz.params6] at hA
  have := hA
  obtain ⟨_, _, d0, _, _, _, _, rfl, _, _, this⟩ := trodAll_cons this
  obtain ⟨_, rfl, _⟩ := trodAll_nil this
  exact ⟨d0, rfl⟩
 obtain ⟨I, hI, hrep⟩ := rep_pars (L := LT) simpleLT (ρ := fun _ => none) (Hp := hOf []) _ _ _ _ (by kernel_rfl) hA hval'
 have hr : run tb 3 I.flatten = some [.bool true] := mergeMajority_true I hI
 have hlen : I.flatten.length = sg3.nin := hI.len.trans (by kernel_rfl)
 have hc := call_true (W := W) (ins := I.flatten) (vs := args.toList) (i := 3) (f := 6) (sg := sg3) rfl rfl rfl rfl rfl rfl hL hI.wf hlen hr (hrep [] _)
 refine hc.mono fun e W' h => ?_
 obtain ⟨rfl, C', ρ', hE⟩ := h
 obtain ⟨d0, rfl⟩ := hds
 exact ⟨_, rfl, post_true (tb := TBool) laidOut rowed fullS (fun t ht => by
  have : (Tryz.f6.params.toList.all fun t => decide (t < Tryz.prog.types.size)) = true := by kernel_rfl
  simpa using List.all_eq_true.1 this t ht) rfl hW' rfl (by kernel_rfl) uBool hE⟩
theorem mergeMajority_lifted (os : Os) (started : os.Started) (H : Type) (enc : TypeId × Value → H) (F : Stop.Interp) :
 ReturnsInHanded {} Tryz.checked os 6 .any ((OpenSpec.ofChange Rows.mergeMajoritySpec).preRow enc Tryz.prog Tryz.f6 Rows.mergeMajorityRow.domain false Rows.mergeMajorityRow.laid) (((OpenSpec.ofChange Rows.mergeMajoritySpec).at F).post enc Tryz.prog Tryz.f6 false true false false) := by
 obtain ⟨places, hx⟩ := mergeMajority_reads os enc
 refine returnsInHanded_of_row (C := Tryz.checked) (s := OpenSpec.ofChange Rows.mergeMajoritySpec) ownK started (by kernel_rfl) Tryz.func6
  (witness_row_at (enc := enc) (C := Tryz.checked) false (laidWorld os) #[.slice none 0 0] rfl (by kernel_rfl) (by kernel_rfl) (by kernel_rfl)
   (OpenSpec.preRow_of_cond 8 hx (by kernel_rfl) (fun k hk => by cases hk) (by kernel_rfl) (mergeMajority_laid os))) ?_
 intro W base args ds gs before hval hW _ _ _ hL _ _
 exact mergeMajority_contract H enc W base args ds gs before hval hW hL
theorem mergeMajority_j0 : (Rows.mergeMajorityRow.inPlace == Program.inPlace Tryz.pinned.checked.prog 6) = true := by kernel_rfl
theorem mergeMajority_j1 : (Rows.mergeMajorityRow.unfollowed == Program.unfollowed Tryz.pinned.checked.prog 6) = true := by kernel_rfl
theorem mergeMajority_j2 : (Rows.mergeMajorityRow.recurses == Program.recurses Tryz.pinned.checked.prog 6) = true := by kernel_rfl
theorem mergeMajority_j3 : (Rows.mergeMajorityRow.named == Program.varsNamed Tryz.pinned.checked.prog 6) = true := by kernel_rfl
theorem mergeMajority_j4 : (Rows.mergeMajorityRow.plainKeys == Program.plainKeys Tryz.pinned.checked.prog) = true := by kernel_rfl
theorem mergeMajority_j5 : (laidOutB Tryz.pinned.checked.prog) = true := by kernel_rfl
theorem mergeMajority_j6 : (mapsRowed Tryz.pinned.checked.prog) = true := by kernel_rfl
theorem mergeMajority_joined : joinedFacts Tryz.pinned.checked.prog 6 Tryz.f6 (OpenSpec.ofChange Rows.mergeMajoritySpec).bare Rows.mergeMajorityRow = true := by
 unfold joinedFacts
 repeat' first | with_reducible exact mergeMajority_j0 | with_reducible exact mergeMajority_j1 | with_reducible exact mergeMajority_j2 | with_reducible exact mergeMajority_j3 | with_reducible exact mergeMajority_j4 | with_reducible exact mergeMajority_j5 | with_reducible exact mergeMajority_j6 | with_reducible refine Bool.and_eq_true_iff.2 ⟨?_, ?_⟩ | kernel_rfl
theorem mergeMajority_said : Rows.MergeMajoritySaid :=
 OpenClaim.holds_of_cond 6 Tryz.f6 rfl rfl rfl rfl rfl rfl rfl ⟨rfl, rfl, rfl, rfl, rfl⟩ rfl rfl rfl rfl rfl (by kernel_rfl) Tryz.func6 mergeMajority_joined
  (of_decide_eq_true (by kernel_rfl)) (by unfold Func.isWrapper; first | (rw [if_pos (by decide +kernel)]; kernel_rfl) | (rw [if_neg (by decide +kernel)]; exact ⟨rfl, rfl⟩))
  (fun os started H enc _ F => by rw [OpenClaim.pre_eq_preRow]; exact mergeMajority_lifted os started H enc F)
theorem mergeMajority_plain (f : FuncId) (fn : Func) (hf : Tryz.pinned.checked.prog.funcNamed "deliberation/deliberationlaw36.MergeMajority" = some f) (hfn : Tryz.pinned.checked.prog.funcs[f]? = some fn) :
 false = Tryz.pinned.checked.prog.looks [] ∧ ∀ (j : Nat) t, fn.params[j]? = some t → Tryz.pinned.checked.prog.wantsStandIn t = false := by
 obtain rfl : f = 6 := Option.some.inj ((show Tryz.prog.funcNamed "deliberation/deliberationlaw36.MergeMajority" = some 6 by kernel_rfl).symm.trans hf) |>.symm
 obtain rfl : fn = Tryz.f6 := (Option.some.inj (Tryz.func6.symm.trans hfn)).symm
 refine ⟨by kernel_rfl, fun j t ht => ?_⟩
 have h1 : (Tryz.f6.params.toList.all fun t => !(Tryz.prog.wantsStandIn t)) = true := by kernel_rfl
 have h2 : t ∈ Tryz.f6.params.toList := by
  have := Array.mem_of_getElem? ht
  simpa using this
 have h3 : Tryz.prog.wantsStandIn t = false := by simpa using List.all_eq_true.1 h1 t h2
 exact h3
theorem mergeMajority_card : Rows.MergeMajorityCardSaid :=
 Claim7.holds_tied_plain_at .later [] _ _ _ _ mergeMajority_said (fun _ h => by cases h) (by kernel_rfl) (fun _ h => by cases h) mergeMajority_row_tie rfl ⟨rfl, rfl⟩ (by kernel_rfl) rfl mergeMajority_plain (by kernel_rfl)
end Go.Proofs.YtejddbdoioppgaaGreatDoor
