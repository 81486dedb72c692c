/- the breach that Check returns is one of the breaches, and no breach is less; without one, none of the tried triples is a breach. Conditions: none beyond the given statement. -/
import Derived.Test.YtnfecjmddbehiaaLwPl
import Derived.Test.YtnfecjmddbehiaaRw0
set_option linter.unusedSimpArgs false
set_option linter.unusedVariables false
set_option linter.unusedSectionVars false
namespace Go.Proofs.Ytnfecjmddbehiaa
open Go Am Go.ChangeShapes Go.WideShapes Go.ChangeAt Go.RowKit
set_option maxRecDepth 100000
theorem postulateLeast_laid (os : Os) : laidMet Try.prog Rows.postulateLeastRow.laid ((laidWorld os).forCall (fun _ _ => 0) ⟨#[],#[.slice none 0 0],[]⟩).memory :=
 laidMet_of_run' 8 (by kernel_rfl) (by kernel_rfl)
theorem postulateLeast_reads (os : Os) {H : Type} (enc : TypeId × Value → H) : ∃ places,DataW.whole enc Try.prog ((laidWorld os).forCall (fun _ _ => 0) ⟨#[],#[.slice none 0 0],[]⟩).memory Try.f3.params.toList Rows.postulateLeastSpec.vars false (#[.slice none 0 0] : Array Value).toList 8 = some ([.nil],[],places) :=
 ⟨[],by kernel_rfl⟩
theorem postulateLeast_contract (H : Type) (enc : TypeId × Value → H) (W : World) (base : Nat) (args : Array Value) (ds gs : List (DataW H)) (before : List MemPlace)
 (hval : ∀ (j : Nat) t v,Try.f3.params[j]? = some t → args[j]? = some v → Value.okWide Try.prog W .any base t v)
 (hW : DataW.Whole enc Try.prog Try.f3.params.toList Rows.postulateLeastSpec.vars false W args.toList ds gs before) (hL : laidMetH Try.prog Rows.postulateLeastRow.laid W) :
 Calls Try.prog 3 args W fun e W' => ∃ v,e = .returned v ∧ Rows.postulateLeastSpec.post enc Try.prog Try.f3 false true false false W args v W' := by
 have hW' := hW
 obtain ⟨p,q,hA0,hV,rfl,hfz,hnd⟩ := hW
 have hA : DataW.TrodAll enc Try.prog W 0 (fun _ => true) true Try.f3.params.toList args.toList ds p := hA0
 obtain ⟨rfl,rfl⟩ := trodVars_none hV
 have hval' : ∀ (j : Nat) t v,Try.f3.params.toList[j]? = some t → args.toList[j]? = some v → Value.okWide Try.prog W .any base t v := fun j t v h1 h2 => hval j t v (by simpa using h1) (by simpa using h2)
 have hds : ∃ d0,ds = [d0] := by
  rw [Try.params3] at hA
  have := hA
  obtain ⟨_,_,d0,_,_,_,_,rfl,_,_,this⟩ := trodAll_cons this
  obtain ⟨_,rfl,_⟩ := trodAll_nil this
  exact ⟨d0,rfl⟩
 obtain ⟨I,hI,hrep⟩ := rep_pars (L := LT) simpleLT (ρ := fun _ => none) (Hp := hOf []) _ _ _ _ (by kernel_rfl) hA hval'
 have hr : run tb 0 I.flatten = some [.bool true] := postulateLeast_true I hI
 have hlen : I.flatten.length = sg0.nin := hI.len.trans (by kernel_rfl)
 have hc := call_true (W := W) (ins := I.flatten) (vs := args.toList) (i := 0) (f := 3) (sg := sg0) rfl rfl rfl rfl rfl rfl hL hI.wf hlen hr (hrep [] _)
 refine hc.mono fun e W' h => ?_
 obtain ⟨rfl,C',ρ',hE⟩ := h
 obtain ⟨d0,rfl⟩ := hds
 exact ⟨_,rfl,post_true (tb := TBool) laidOut rowed fullS (fun t ht => by
  have : (Try.f3.params.toList.all fun t => decide (t < Try.prog.types.size)) = true := by kernel_rfl
  simpa using List.all_eq_true.1 this t ht) rfl hW' rfl (by kernel_rfl) uBool hE⟩
theorem postulateLeast_lifted (os : Os) (started : os.Started) (H : Type) (enc : TypeId × Value → H) (F : Stop.Interp) :
 ReturnsInHanded {} Try.checked os 3 .any ((OpenSpec.ofChange Rows.postulateLeastSpec).preRow enc Try.prog Try.f3 Rows.postulateLeastRow.domain false Rows.postulateLeastRow.laid) (((OpenSpec.ofChange Rows.postulateLeastSpec).at F).post enc Try.prog Try.f3 false true false false) := by
 obtain ⟨places,hx⟩ := postulateLeast_reads os enc
 refine returnsInHanded_of_row (C := Try.checked) (s := OpenSpec.ofChange Rows.postulateLeastSpec) ownK started (by kernel_rfl) Try.func3
  (witness_row_at (enc := enc) (C := Try.checked) false (laidWorld os) #[.slice none 0 0] rfl (by kernel_rfl) (by kernel_rfl) (by kernel_rfl)
   (OpenSpec.preRow_of_cond 8 hx (by kernel_rfl) (fun k hk => by cases hk) (by kernel_rfl) (postulateLeast_laid os))) ?_
 intro W base args ds gs before hval hW _ _ _ hL _ _
 exact postulateLeast_contract H enc W base args ds gs before hval hW hL
theorem postulateLeast_j0 : (Rows.postulateLeastRow.inPlace == Program.inPlace Try.pinned.checked.prog 3) = true := by kernel_rfl
theorem postulateLeast_j1 : (Rows.postulateLeastRow.unfollowed == Program.unfollowed Try.pinned.checked.prog 3) = true := by kernel_rfl
theorem postulateLeast_j2 : (Rows.postulateLeastRow.recurses == Program.recurses Try.pinned.checked.prog 3) = true := by kernel_rfl
theorem postulateLeast_j3 : (Rows.postulateLeastRow.named == Program.varsNamed Try.pinned.checked.prog 3) = true := by kernel_rfl
theorem postulateLeast_j4 : (Rows.postulateLeastRow.plainKeys == Program.plainKeys Try.pinned.checked.prog) = true := by kernel_rfl
theorem postulateLeast_j5 : (laidOutB Try.pinned.checked.prog) = true := by kernel_rfl
theorem postulateLeast_j6 : (mapsRowed Try.pinned.checked.prog) = true := by kernel_rfl
theorem postulateLeast_joined : joinedFacts Try.pinned.checked.prog 3 Try.f3 (OpenSpec.ofChange Rows.postulateLeastSpec).bare Rows.postulateLeastRow = true := by
 unfold joinedFacts
 repeat' first | with_reducible exact postulateLeast_j0 | with_reducible exact postulateLeast_j1 | with_reducible exact postulateLeast_j2 | with_reducible exact postulateLeast_j3 | with_reducible exact postulateLeast_j4 | with_reducible exact postulateLeast_j5 | with_reducible exact postulateLeast_j6 | with_reducible refine Bool.and_eq_true_iff.2 ⟨?_,?_⟩ | kernel_rfl
theorem postulateLeast_said : Rows.PostulateLeastSaid :=
 OpenClaim.holds_of_cond 3 Try.f3 rfl rfl rfl rfl rfl rfl rfl ⟨rfl,rfl,rfl,rfl,rfl⟩ rfl rfl rfl rfl rfl (by kernel_rfl) Try.func3 postulateLeast_joined
  (of_decide_eq_true (by kernel_rfl)) (by unfold Func.isWrapper; first | (rw [if_pos (by decide +kernel)]; kernel_rfl) | (rw [if_neg (by decide +kernel)]; exact ⟨rfl,rfl⟩))
  (fun os started H enc _ F => by rw [OpenClaim.pre_eq_preRow]; exact postulateLeast_lifted os started H enc F)
end Go.Proofs.Ytnfecjmddbehiaa
