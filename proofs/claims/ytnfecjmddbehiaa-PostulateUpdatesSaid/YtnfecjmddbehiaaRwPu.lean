/- tables of update, by orders and by distances, have no breach of the postulates of update; the table of a distance over two atoms breaks the second postulate of revision. Conditions: none beyond the given statement. -/
import Derived.Test.YtnfecjmddbehiaaLwPu
import Derived.Test.YtnfecjmddbehiaaRw0
set_option linter.unusedSimpArgs false
set_option linter.unusedVariables false
set_option linter.unusedSectionVars false
namespace Go.Proofs.Ytnfecjmddbehiaa
open Go Am Go.ChangeShapes Go.WideShapes Go.ChangeAt Go.RowKit
set_option maxRecDepth 100000
theorem postulateUpdates_laid (os : Os) : laidMet Try.prog Rows.postulateUpdatesRow.laid ((laidWorld os).forCall (fun _ _ => 0) ⟨#[],#[.slice none 0 0],[]⟩).memory :=
 laidMet_of_run' 8 (by kernel_rfl) (by kernel_rfl)
theorem postulateUpdates_reads (os : Os) {H : Type} (enc : TypeId × Value → H) : ∃ places,DataW.whole enc Try.prog ((laidWorld os).forCall (fun _ _ => 0) ⟨#[],#[.slice none 0 0],[]⟩).memory Try.f5.params.toList Rows.postulateUpdatesSpec.vars false (#[.slice none 0 0] : Array Value).toList 8 = some ([.nil],[],places) :=
 ⟨[],by kernel_rfl⟩
theorem postulateUpdates_contract (H : Type) (enc : TypeId × Value → H) (W : World) (base : Nat) (args : Array Value) (ds gs : List (DataW H)) (before : List MemPlace)
 (hval : ∀ (j : Nat) t v,Try.f5.params[j]? = some t → args[j]? = some v → Value.okWide Try.prog W .any base t v)
 (hW : DataW.Whole enc Try.prog Try.f5.params.toList Rows.postulateUpdatesSpec.vars false W args.toList ds gs before) (hL : laidMetH Try.prog Rows.postulateUpdatesRow.laid W) :
 Calls Try.prog 5 args W fun e W' => ∃ v,e = .returned v ∧ Rows.postulateUpdatesSpec.post enc Try.prog Try.f5 false true false false W args v W' := by
 have hW' := hW
 obtain ⟨p,q,hA0,hV,rfl,hfz,hnd⟩ := hW
 have hA : DataW.TrodAll enc Try.prog W 0 (fun _ => true) true Try.f5.params.toList args.toList ds p := hA0
 obtain ⟨rfl,rfl⟩ := trodVars_none hV
 have hval' : ∀ (j : Nat) t v,Try.f5.params.toList[j]? = some t → args.toList[j]? = some v → Value.okWide Try.prog W .any base t v := fun j t v h1 h2 => hval j t v (by simpa using h1) (by simpa using h2)
 have hds : ∃ d0,ds = [d0] := by
  rw [Try.params5] at hA
  have := hA
  obtain ⟨_,_,d0,_,_,_,_,rfl,_,_,this⟩ := trodAll_cons this
  obtain ⟨_,rfl,_⟩ := trodAll_nil this
  exact ⟨d0,rfl⟩
 obtain ⟨I,hI,hrep⟩ := rep_pars (L := LT) simpleLT (ρ := fun _ => none) (Hp := hOf []) _ _ _ _ (by kernel_rfl) hA hval'
 have hr : run tb 2 I.flatten = some [.bool true] := postulateUpdates_true I hI
 have hlen : I.flatten.length = sg2.nin := hI.len.trans (by kernel_rfl)
 have hc := call_true (W := W) (ins := I.flatten) (vs := args.toList) (i := 2) (f := 5) (sg := sg2) rfl rfl rfl rfl rfl rfl hL hI.wf hlen hr (hrep [] _)
 refine hc.mono fun e W' h => ?_
 obtain ⟨rfl,C',ρ',hE⟩ := h
 obtain ⟨d0,rfl⟩ := hds
 exact ⟨_,rfl,post_true (tb := TBool) laidOut rowed fullS (fun t ht => by
  have : (Try.f5.params.toList.all fun t => decide (t < Try.prog.types.size)) = true := by kernel_rfl
  simpa using List.all_eq_true.1 this t ht) rfl hW' rfl (by kernel_rfl) uBool hE⟩
theorem postulateUpdates_lifted (os : Os) (started : os.Started) (H : Type) (enc : TypeId × Value → H) (F : Stop.Interp) :
 ReturnsInHanded {} Try.checked os 5 .any ((OpenSpec.ofChange Rows.postulateUpdatesSpec).preRow enc Try.prog Try.f5 Rows.postulateUpdatesRow.domain false Rows.postulateUpdatesRow.laid) (((OpenSpec.ofChange Rows.postulateUpdatesSpec).at F).post enc Try.prog Try.f5 false true false false) := by
 obtain ⟨places,hx⟩ := postulateUpdates_reads os enc
 refine returnsInHanded_of_row (C := Try.checked) (s := OpenSpec.ofChange Rows.postulateUpdatesSpec) ownK started (by kernel_rfl) Try.func5
  (witness_row_at (enc := enc) (C := Try.checked) false (laidWorld os) #[.slice none 0 0] rfl (by kernel_rfl) (by kernel_rfl) (by kernel_rfl)
   (OpenSpec.preRow_of_cond 8 hx (by kernel_rfl) (fun k hk => by cases hk) (by kernel_rfl) (postulateUpdates_laid os))) ?_
 intro W base args ds gs before hval hW _ _ _ hL _ _
 exact postulateUpdates_contract H enc W base args ds gs before hval hW hL
theorem postulateUpdates_j0 : (Rows.postulateUpdatesRow.inPlace == Program.inPlace Try.pinned.checked.prog 5) = true := by kernel_rfl
theorem postulateUpdates_j1 : (Rows.postulateUpdatesRow.unfollowed == Program.unfollowed Try.pinned.checked.prog 5) = true := by kernel_rfl
theorem postulateUpdates_j2 : (Rows.postulateUpdatesRow.recurses == Program.recurses Try.pinned.checked.prog 5) = true := by kernel_rfl
theorem postulateUpdates_j3 : (Rows.postulateUpdatesRow.named == Program.varsNamed Try.pinned.checked.prog 5) = true := by kernel_rfl
theorem postulateUpdates_j4 : (Rows.postulateUpdatesRow.plainKeys == Program.plainKeys Try.pinned.checked.prog) = true := by kernel_rfl
theorem postulateUpdates_j5 : (laidOutB Try.pinned.checked.prog) = true := by kernel_rfl
theorem postulateUpdates_j6 : (mapsRowed Try.pinned.checked.prog) = true := by kernel_rfl
theorem postulateUpdates_joined : joinedFacts Try.pinned.checked.prog 5 Try.f5 (OpenSpec.ofChange Rows.postulateUpdatesSpec).bare Rows.postulateUpdatesRow = true := by
 unfold joinedFacts
 repeat' first | with_reducible exact postulateUpdates_j0 | with_reducible exact postulateUpdates_j1 | with_reducible exact postulateUpdates_j2 | with_reducible exact postulateUpdates_j3 | with_reducible exact postulateUpdates_j4 | with_reducible exact postulateUpdates_j5 | with_reducible exact postulateUpdates_j6 | with_reducible refine Bool.and_eq_true_iff.2 ⟨?_,?_⟩ | kernel_rfl
theorem postulateUpdates_said : Rows.PostulateUpdatesSaid :=
 OpenClaim.holds_of_cond 5 Try.f5 rfl rfl rfl rfl rfl rfl rfl ⟨rfl,rfl,rfl,rfl,rfl⟩ rfl rfl rfl rfl rfl (by kernel_rfl) Try.func5 postulateUpdates_joined
  (of_decide_eq_true (by kernel_rfl)) (by unfold Func.isWrapper; first | (rw [if_pos (by decide +kernel)]; kernel_rfl) | (rw [if_neg (by decide +kernel)]; exact ⟨rfl,rfl⟩))
  (fun os started H enc _ F => by rw [OpenClaim.pre_eq_preRow]; exact postulateUpdates_lifted os started H enc F)
end Go.Proofs.Ytnfecjmddbehiaa
