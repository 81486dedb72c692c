/- StrataRanks holds for every input: Rank, Strata and Degree return what the reference returns. Conditions: none beyond the given statement. -/
import Derived.Test.YtojkhlijbpmgpaaGreatLwSk
import Derived.Test.YtojkhlijbpmgpaaGreatRw1
set_option linter.unusedSimpArgs false
set_option linter.unusedVariables false
set_option linter.unusedSectionVars false
namespace Go.Proofs.YtojkhlijbpmgpaaGreat
open Go Am Go.ChangeShapes Go.WideShapes Go.ChangeAt Go.RowKit
set_option maxRecDepth 100000
theorem strataRanks_laid (os : Os) : laidMet Tryz.prog Rows.strataRanksRow.laid ((laidWorld os).forCall (fun _ _ => 0) ⟨#[],#[.agg #[.slice none 0 0,.slice none 0 0],.slice none 0 0,.slice none 0 0],[]⟩).memory :=
 laidMet_of_run' 8 (by kernel_rfl) (by kernel_rfl)
theorem strataRanks_reads (os : Os) {H : Type} (enc : TypeId × Value → H) : ∃ places,DataW.whole enc Tryz.prog ((laidWorld os).forCall (fun _ _ => 0) ⟨#[],#[.agg #[.slice none 0 0,.slice none 0 0],.slice none 0 0,.slice none 0 0],[]⟩).memory Tryz.f12.params.toList Rows.strataRanksSpec.vars false (#[.agg #[.slice none 0 0,.slice none 0 0],.slice none 0 0,.slice none 0 0] : Array Value).toList 8 = some ([.agg [.nil,.nil],.nil,.nil],[],places) :=
 ⟨[],by kernel_rfl⟩
theorem strataRanks_contract (H : Type) (enc : TypeId × Value → H) (W : World) (base : Nat) (args : Array Value) (ds gs : List (DataW H)) (before : List MemPlace)
 (hval : ∀ (j : Nat) t v,Tryz.f12.params[j]? = some t → args[j]? = some v → Value.okWide Tryz.prog W .any base t v)
 (hW : DataW.Whole enc Tryz.prog Tryz.f12.params.toList Rows.strataRanksSpec.vars false W args.toList ds gs before) (hL : laidMetH Tryz.prog Rows.strataRanksRow.laid W) :
 Calls Tryz.prog 12 args W fun e W' => ∃ v,e = .returned v ∧ Rows.strataRanksSpec.post enc Tryz.prog Tryz.f12 false true false false W args v W' := by
 have hW' := hW
 obtain ⟨p,q,hA0,hV,rfl,hfz,hnd⟩ := hW
 have hA : DataW.TrodAll enc Tryz.prog W 0 (fun _ => true) true Tryz.f12.params.toList args.toList ds p := hA0
 obtain ⟨rfl,rfl⟩ := trodVars_none hV
 have hval' : ∀ (j : Nat) t v,Tryz.f12.params.toList[j]? = some t → args.toList[j]? = some v → Value.okWide Tryz.prog W .any base t v := fun j t v h1 h2 => hval j t v (by simpa using h1) (by simpa using h2)
 have hds : ∃ d0 d1 d2,ds = [d0,d1,d2] := by
  rw [Tryz.params12] at hA
  have := hA
  obtain ⟨_,_,d0,_,_,_,_,rfl,_,_,this⟩ := trodAll_cons this
  obtain ⟨_,_,d1,_,_,_,_,rfl,_,_,this⟩ := trodAll_cons this
  obtain ⟨_,_,d2,_,_,_,_,rfl,_,_,this⟩ := trodAll_cons this
  obtain ⟨_,rfl,_⟩ := trodAll_nil this
  exact ⟨d0,d1,d2,rfl⟩
 obtain ⟨I,hI,hrep⟩ := rep_pars (L := LF) simpleLF (ρ := fun _ => none) (Hp := hOf []) _ _ _ _ (by kernel_rfl) hA hval'
 have hr : run tb 0 I.flatten = some [.bool true] := strataRanks_true I hI
 have hlen : I.flatten.length = sg0.nin := hI.len.trans (by kernel_rfl)
 have hc := call_true (W := W) (ins := I.flatten) (vs := args.toList) (i := 0) (f := 12) (sg := sg0) rfl rfl rfl rfl rfl rfl hL hI.wf hlen hr (hrep [] _)
 refine hc.mono fun e W' h => ?_
 obtain ⟨rfl,C',ρ',hE⟩ := h
 obtain ⟨d0,d1,d2,rfl⟩ := hds
 exact ⟨_,rfl,post_true (tb := TBool) laidOut rowed fullS (fun t ht => by
  have : (Tryz.f12.params.toList.all fun t => decide (t < Tryz.prog.types.size)) = true := by kernel_rfl
  simpa using List.all_eq_true.1 this t ht) rfl hW' rfl (by kernel_rfl) uBool hE⟩
theorem strataRanks_lifted (os : Os) (started : os.Started) (H : Type) (enc : TypeId × Value → H) (F : Stop.Interp) :
 ReturnsInHanded {} Tryz.checked os 12 .any ((OpenSpec.ofChange Rows.strataRanksSpec).preRow enc Tryz.prog Tryz.f12 Rows.strataRanksRow.domain false Rows.strataRanksRow.laid) (((OpenSpec.ofChange Rows.strataRanksSpec).at F).post enc Tryz.prog Tryz.f12 false true false false) := by
 obtain ⟨places,hx⟩ := strataRanks_reads os enc
 refine returnsInHanded_of_row (C := Tryz.checked) (s := OpenSpec.ofChange Rows.strataRanksSpec) ownK started (by kernel_rfl) Tryz.func12
  (witness_row_at (enc := enc) (C := Tryz.checked) false (laidWorld os) #[.agg #[.slice none 0 0,.slice none 0 0],.slice none 0 0,.slice none 0 0] rfl (by kernel_rfl) (by kernel_rfl) (by kernel_rfl)
   (OpenSpec.preRow_of_cond 8 hx (by kernel_rfl) (fun k hk => by cases hk) (by kernel_rfl) (strataRanks_laid os))) ?_
 intro W base args ds gs before hval hW _ _ _ hL _ _
 exact strataRanks_contract H enc W base args ds gs before hval hW hL
theorem strataRanks_j0 : (Rows.strataRanksRow.inPlace == Program.inPlace Tryz.pinned.checked.prog 12) = true := by kernel_rfl
theorem strataRanks_j1 : (Rows.strataRanksRow.unfollowed == Program.unfollowed Tryz.pinned.checked.prog 12) = true := by kernel_rfl
theorem strataRanks_j2 : (Rows.strataRanksRow.recurses == Program.recurses Tryz.pinned.checked.prog 12) = true := by kernel_rfl
theorem strataRanks_j3 : (Rows.strataRanksRow.named == Program.varsNamed Tryz.pinned.checked.prog 12) = true := by kernel_rfl
theorem strataRanks_j4 : (Rows.strataRanksRow.plainKeys == Program.plainKeys Tryz.pinned.checked.prog) = true := by kernel_rfl
theorem strataRanks_j5 : (laidOutB Tryz.pinned.checked.prog) = true := by kernel_rfl
theorem strataRanks_j6 : (mapsRowed Tryz.pinned.checked.prog) = true := by kernel_rfl
theorem strataRanks_joined : joinedFacts Tryz.pinned.checked.prog 12 Tryz.f12 (OpenSpec.ofChange Rows.strataRanksSpec).bare Rows.strataRanksRow = true := by
 unfold joinedFacts
 repeat' first | with_reducible exact strataRanks_j0 | with_reducible exact strataRanks_j1 | with_reducible exact strataRanks_j2 | with_reducible exact strataRanks_j3 | with_reducible exact strataRanks_j4 | with_reducible exact strataRanks_j5 | with_reducible exact strataRanks_j6 | with_reducible refine Bool.and_eq_true_iff.2 ⟨?_,?_⟩ | kernel_rfl
theorem strataRanks_said : Rows.StrataRanksSaid :=
 OpenClaim.holds_of_cond 12 Tryz.f12 rfl rfl rfl rfl rfl rfl rfl ⟨rfl,rfl,rfl,rfl,rfl⟩ rfl rfl rfl rfl rfl (by kernel_rfl) Tryz.func12 strataRanks_joined
  (of_decide_eq_true (by kernel_rfl)) (by unfold Func.isWrapper; first | (rw [if_pos (by decide +kernel)]; kernel_rfl) | (rw [if_neg (by decide +kernel)]; exact ⟨rfl,rfl⟩))
  (fun os started H enc _ F => by rw [OpenClaim.pre_eq_preRow]; exact strataRanks_lifted os started H enc F)
end Go.Proofs.YtojkhlijbpmgpaaGreat
