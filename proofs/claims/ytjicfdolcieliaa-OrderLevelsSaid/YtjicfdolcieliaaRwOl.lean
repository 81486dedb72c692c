/- OrderLevels holds for every input: the levels are not empty, different, contain all worlds and give the order again, and Normal keeps all comparisons. Conditions: none beyond the given statement. -/
import Derived.Test.YtjicfdolcieliaaLwOl
import Derived.Test.YtjicfdolcieliaaRw0
set_option linter.unusedSimpArgs false
set_option linter.unusedVariables false
set_option linter.unusedSectionVars false
namespace Go.Proofs.Ytjicfdolcieliaa
open Go Am Go.ChangeShapes Go.WideShapes Go.ChangeAt Go.RowKit
set_option maxRecDepth 100000
theorem orderLevels_laid (os : Os) : laidMet Try.prog Rows.orderLevelsRow.laid ((laidWorld os).forCall (fun _ _ => 0) ⟨#[],#[.slice none 0 0,.slice none 0 0],[]⟩).memory :=
 laidMet_of_run' 8 (by kernel_rfl) (by kernel_rfl)
theorem orderLevels_reads (os : Os) {H : Type} (enc : TypeId × Value → H) : ∃ places,DataW.whole enc Try.prog ((laidWorld os).forCall (fun _ _ => 0) ⟨#[],#[.slice none 0 0,.slice none 0 0],[]⟩).memory Try.f3.params.toList Rows.orderLevelsSpec.vars false (#[.slice none 0 0,.slice none 0 0] : Array Value).toList 8 = some ([.nil,.nil],[],places) :=
 ⟨[],by kernel_rfl⟩
theorem orderLevels_contract (H : Type) (enc : TypeId × Value → H) (W : World) (base : Nat) (args : Array Value) (ds gs : List (DataW H)) (before : List MemPlace)
 (hval : ∀ (j : Nat) t v,Try.f3.params[j]? = some t → args[j]? = some v → Value.okWide Try.prog W .any base t v)
 (hW : DataW.Whole enc Try.prog Try.f3.params.toList Rows.orderLevelsSpec.vars false W args.toList ds gs before) (hL : laidMetH Try.prog Rows.orderLevelsRow.laid W) :
 Calls Try.prog 3 args W fun e W' => ∃ v,e = .returned v ∧ Rows.orderLevelsSpec.post enc Try.prog Try.f3 false true false false W args v W' := by
 have hW' := hW
 obtain ⟨p,q,hA0,hV,rfl,hfz,hnd⟩ := hW
 have hA : DataW.TrodAll enc Try.prog W 0 (fun _ => true) true Try.f3.params.toList args.toList ds p := hA0
 obtain ⟨rfl,rfl⟩ := trodVars_none hV
 have hval' : ∀ (j : Nat) t v,Try.f3.params.toList[j]? = some t → args.toList[j]? = some v → Value.okWide Try.prog W .any base t v := fun j t v h1 h2 => hval j t v (by simpa using h1) (by simpa using h2)
 have hds : ∃ d0 d1,ds = [d0,d1] := by
  rw [Try.params3] at hA
  have := hA
  obtain ⟨_,_,d0,_,_,_,_,rfl,_,_,this⟩ := trodAll_cons this
  obtain ⟨_,_,d1,_,_,_,_,rfl,_,_,this⟩ := trodAll_cons this
  obtain ⟨_,rfl,_⟩ := trodAll_nil this
  exact ⟨d0,d1,rfl⟩
 obtain ⟨I,hI,hrep⟩ := rep_pars (L := LT) simpleLT (ρ := fun _ => none) (Hp := hOf []) _ _ _ _ (by kernel_rfl) hA hval'
 have hr : run tb 0 I.flatten = some [.bool true] := orderLevels_true I hI
 have hlen : I.flatten.length = sg0.nin := hI.len.trans (by kernel_rfl)
 have hc := call_true (W := W) (ins := I.flatten) (vs := args.toList) (i := 0) (f := 3) (sg := sg0) rfl rfl rfl rfl rfl rfl hL hI.wf hlen hr (hrep [] _)
 refine hc.mono fun e W' h => ?_
 obtain ⟨rfl,C',ρ',hE⟩ := h
 obtain ⟨d0,d1,rfl⟩ := hds
 exact ⟨_,rfl,post_true (tb := TBool) laidOut rowed fullS (fun t ht => by
  have : (Try.f3.params.toList.all fun t => decide (t < Try.prog.types.size)) = true := by kernel_rfl
  simpa using List.all_eq_true.1 this t ht) rfl hW' rfl (by kernel_rfl) uBool hE⟩
theorem orderLevels_lifted (os : Os) (started : os.Started) (H : Type) (enc : TypeId × Value → H) (F : Stop.Interp) :
 ReturnsInHanded {} Try.checked os 3 .any ((OpenSpec.ofChange Rows.orderLevelsSpec).preRow enc Try.prog Try.f3 Rows.orderLevelsRow.domain false Rows.orderLevelsRow.laid) (((OpenSpec.ofChange Rows.orderLevelsSpec).at F).post enc Try.prog Try.f3 false true false false) := by
 obtain ⟨places,hx⟩ := orderLevels_reads os enc
 refine returnsInHanded_of_row (C := Try.checked) (s := OpenSpec.ofChange Rows.orderLevelsSpec) ownK started (by kernel_rfl) Try.func3
  (witness_row_at (enc := enc) (C := Try.checked) false (laidWorld os) #[.slice none 0 0,.slice none 0 0] rfl (by kernel_rfl) (by kernel_rfl) (by kernel_rfl)
   (OpenSpec.preRow_of_cond 8 hx (by kernel_rfl) (fun k hk => by cases hk) (by kernel_rfl) (orderLevels_laid os))) ?_
 intro W base args ds gs before hval hW _ _ _ hL _ _
 exact orderLevels_contract H enc W base args ds gs before hval hW hL
theorem orderLevels_j0 : (Rows.orderLevelsRow.inPlace == Program.inPlace Try.pinned.checked.prog 3) = true := by kernel_rfl
theorem orderLevels_j1 : (Rows.orderLevelsRow.unfollowed == Program.unfollowed Try.pinned.checked.prog 3) = true := by kernel_rfl
theorem orderLevels_j2 : (Rows.orderLevelsRow.recurses == Program.recurses Try.pinned.checked.prog 3) = true := by kernel_rfl
theorem orderLevels_j3 : (Rows.orderLevelsRow.named == Program.varsNamed Try.pinned.checked.prog 3) = true := by kernel_rfl
theorem orderLevels_j4 : (Rows.orderLevelsRow.plainKeys == Program.plainKeys Try.pinned.checked.prog) = true := by kernel_rfl
theorem orderLevels_j5 : (laidOutB Try.pinned.checked.prog) = true := by kernel_rfl
theorem orderLevels_j6 : (mapsRowed Try.pinned.checked.prog) = true := by kernel_rfl
theorem orderLevels_joined : joinedFacts Try.pinned.checked.prog 3 Try.f3 (OpenSpec.ofChange Rows.orderLevelsSpec).bare Rows.orderLevelsRow = true := by
 unfold joinedFacts
 repeat' first | with_reducible exact orderLevels_j0 | with_reducible exact orderLevels_j1 | with_reducible exact orderLevels_j2 | with_reducible exact orderLevels_j3 | with_reducible exact orderLevels_j4 | with_reducible exact orderLevels_j5 | with_reducible exact orderLevels_j6 | with_reducible refine Bool.and_eq_true_iff.2 ⟨?_,?_⟩ | kernel_rfl
theorem orderLevels_said : Rows.OrderLevelsSaid :=
 OpenClaim.holds_of_cond 3 Try.f3 rfl rfl rfl rfl rfl rfl rfl ⟨rfl,rfl,rfl,rfl,rfl⟩ rfl rfl rfl rfl rfl (by kernel_rfl) Try.func3 orderLevels_joined
  (of_decide_eq_true (by kernel_rfl)) (by unfold Func.isWrapper; first | (rw [if_pos (by decide +kernel)]; kernel_rfl) | (rw [if_neg (by decide +kernel)]; exact ⟨rfl,rfl⟩))
  (fun os started H enc _ F => by rw [OpenClaim.pre_eq_preRow]; exact orderLevels_lifted os started H enc F)
end Go.Proofs.Ytjicfdolcieliaa
