/- postulate.Make and the reference Make of chapter 37 answer alike, for orders that fit, for lists with an entry replaced, and for raw orders. Conditions: none beyond the given statement. -/
import Derived.Test.YtnfecjmddbehiaaLwPm
import Derived.Test.YtnfecjmddbehiaaRw0
set_option linter.unusedSimpArgs false
set_option linter.unusedVariables false
set_option linter.unusedSectionVars false
namespace Go.Proofs.Ytnfecjmddbehiaa
open Go Am Go.ChangeShapes Go.WideShapes Go.ChangeAt Go.RowKit
set_option maxRecDepth 100000
theorem postulateMakes_laid (os : Os) : laidMet Try.prog Rows.postulateMakesRow.laid ((laidWorld os).forCall (fun _ _ => 0) ⟨#[],#[.agg #[.slice none 0 0,.slice none 0 0],.slice none 0 0,.int .i64 0],[]⟩).memory :=
 laidMet_of_run' 8 (by kernel_rfl) (by kernel_rfl)
theorem postulateMakes_reads (os : Os) {H : Type} (enc : TypeId × Value → H) : ∃ places,DataW.whole enc Try.prog ((laidWorld os).forCall (fun _ _ => 0) ⟨#[],#[.agg #[.slice none 0 0,.slice none 0 0],.slice none 0 0,.int .i64 0],[]⟩).memory Try.f4.params.toList Rows.postulateMakesSpec.vars false (#[.agg #[.slice none 0 0,.slice none 0 0],.slice none 0 0,.int .i64 0] : Array Value).toList 8 = some ([.agg [.nil,.nil],.nil,.lit (.int .i64 0)],[],places) :=
 ⟨[],by kernel_rfl⟩
theorem postulateMakes_contract (H : Type) (enc : TypeId × Value → H) (W : World) (base : Nat) (args : Array Value) (ds gs : List (DataW H)) (before : List MemPlace)
 (hval : ∀ (j : Nat) t v,Try.f4.params[j]? = some t → args[j]? = some v → Value.okWide Try.prog W .any base t v)
 (hW : DataW.Whole enc Try.prog Try.f4.params.toList Rows.postulateMakesSpec.vars false W args.toList ds gs before) (hL : laidMetH Try.prog Rows.postulateMakesRow.laid W) :
 Calls Try.prog 4 args W fun e W' => ∃ v,e = .returned v ∧ Rows.postulateMakesSpec.post enc Try.prog Try.f4 false true false false W args v W' := by
 have hW' := hW
 obtain ⟨p,q,hA0,hV,rfl,hfz,hnd⟩ := hW
 have hA : DataW.TrodAll enc Try.prog W 0 (fun _ => true) true Try.f4.params.toList args.toList ds p := hA0
 obtain ⟨rfl,rfl⟩ := trodVars_none hV
 have hval' : ∀ (j : Nat) t v,Try.f4.params.toList[j]? = some t → args.toList[j]? = some v → Value.okWide Try.prog W .any base t v := fun j t v h1 h2 => hval j t v (by simpa using h1) (by simpa using h2)
 have hds : ∃ d0 d1 d2,ds = [d0,d1,d2] := by
  rw [Try.params4] at hA
  have := hA
  obtain ⟨_,_,d0,_,_,_,_,rfl,_,_,this⟩ := trodAll_cons this
  obtain ⟨_,_,d1,_,_,_,_,rfl,_,_,this⟩ := trodAll_cons this
  obtain ⟨_,_,d2,_,_,_,_,rfl,_,_,this⟩ := trodAll_cons this
  obtain ⟨_,rfl,_⟩ := trodAll_nil this
  exact ⟨d0,d1,d2,rfl⟩
 obtain ⟨I,hI,hrep⟩ := rep_pars (L := LT) simpleLT (ρ := fun _ => none) (Hp := hOf []) _ _ _ _ (by kernel_rfl) hA hval'
 have hr : run tb 1 I.flatten = some [.bool true] := postulateMakes_true I hI
 have hlen : I.flatten.length = sg1.nin := hI.len.trans (by kernel_rfl)
 have hc := call_true (W := W) (ins := I.flatten) (vs := args.toList) (i := 1) (f := 4) (sg := sg1) rfl rfl rfl rfl rfl rfl hL hI.wf hlen hr (hrep [] _)
 refine hc.mono fun e W' h => ?_
 obtain ⟨rfl,C',ρ',hE⟩ := h
 obtain ⟨d0,d1,d2,rfl⟩ := hds
 exact ⟨_,rfl,post_true (tb := TBool) laidOut rowed fullS (fun t ht => by
  have : (Try.f4.params.toList.all fun t => decide (t < Try.prog.types.size)) = true := by kernel_rfl
  simpa using List.all_eq_true.1 this t ht) rfl hW' rfl (by kernel_rfl) uBool hE⟩
theorem postulateMakes_lifted (os : Os) (started : os.Started) (H : Type) (enc : TypeId × Value → H) (F : Stop.Interp) :
 ReturnsInHanded {} Try.checked os 4 .any ((OpenSpec.ofChange Rows.postulateMakesSpec).preRow enc Try.prog Try.f4 Rows.postulateMakesRow.domain false Rows.postulateMakesRow.laid) (((OpenSpec.ofChange Rows.postulateMakesSpec).at F).post enc Try.prog Try.f4 false true false false) := by
 obtain ⟨places,hx⟩ := postulateMakes_reads os enc
 refine returnsInHanded_of_row (C := Try.checked) (s := OpenSpec.ofChange Rows.postulateMakesSpec) ownK started (by kernel_rfl) Try.func4
  (witness_row_at (enc := enc) (C := Try.checked) false (laidWorld os) #[.agg #[.slice none 0 0,.slice none 0 0],.slice none 0 0,.int .i64 0] rfl (by kernel_rfl) (by kernel_rfl) (by kernel_rfl)
   (OpenSpec.preRow_of_cond 8 hx (by kernel_rfl) (fun k hk => by cases hk) (by kernel_rfl) (postulateMakes_laid os))) ?_
 intro W base args ds gs before hval hW _ _ _ hL _ _
 exact postulateMakes_contract H enc W base args ds gs before hval hW hL
theorem postulateMakes_j0 : (Rows.postulateMakesRow.inPlace == Program.inPlace Try.pinned.checked.prog 4) = true := by kernel_rfl
theorem postulateMakes_j1 : (Rows.postulateMakesRow.unfollowed == Program.unfollowed Try.pinned.checked.prog 4) = true := by kernel_rfl
theorem postulateMakes_j2 : (Rows.postulateMakesRow.recurses == Program.recurses Try.pinned.checked.prog 4) = true := by kernel_rfl
theorem postulateMakes_j3 : (Rows.postulateMakesRow.named == Program.varsNamed Try.pinned.checked.prog 4) = true := by kernel_rfl
theorem postulateMakes_j4 : (Rows.postulateMakesRow.plainKeys == Program.plainKeys Try.pinned.checked.prog) = true := by kernel_rfl
theorem postulateMakes_j5 : (laidOutB Try.pinned.checked.prog) = true := by kernel_rfl
theorem postulateMakes_j6 : (mapsRowed Try.pinned.checked.prog) = true := by kernel_rfl
theorem postulateMakes_joined : joinedFacts Try.pinned.checked.prog 4 Try.f4 (OpenSpec.ofChange Rows.postulateMakesSpec).bare Rows.postulateMakesRow = true := by
 unfold joinedFacts
 repeat' first | with_reducible exact postulateMakes_j0 | with_reducible exact postulateMakes_j1 | with_reducible exact postulateMakes_j2 | with_reducible exact postulateMakes_j3 | with_reducible exact postulateMakes_j4 | with_reducible exact postulateMakes_j5 | with_reducible exact postulateMakes_j6 | with_reducible refine Bool.and_eq_true_iff.2 ⟨?_,?_⟩ | kernel_rfl
theorem postulateMakes_said : Rows.PostulateMakesSaid :=
 OpenClaim.holds_of_cond 4 Try.f4 rfl rfl rfl rfl rfl rfl rfl ⟨rfl,rfl,rfl,rfl,rfl⟩ rfl rfl rfl rfl rfl (by kernel_rfl) Try.func4 postulateMakes_joined
  (of_decide_eq_true (by kernel_rfl)) (by unfold Func.isWrapper; first | (rw [if_pos (by decide +kernel)]; kernel_rfl) | (rw [if_neg (by decide +kernel)]; exact ⟨rfl,rfl⟩))
  (fun os started H enc _ F => by rw [OpenClaim.pre_eq_preRow]; exact postulateMakes_lifted os started H enc F)
end Go.Proofs.Ytnfecjmddbehiaa
