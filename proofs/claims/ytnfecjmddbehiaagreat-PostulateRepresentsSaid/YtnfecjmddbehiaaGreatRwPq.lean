/- a table without a breach is made of orders, which Orders finds again; one with a breach is not. Conditions: none beyond the given statement. -/
import Derived.Test.YtnfecjmddbehiaaGreatLwPq
import Derived.Test.YtnfecjmddbehiaaGreatRw0
set_option linter.unusedSimpArgs false
set_option linter.unusedVariables false
set_option linter.unusedSectionVars false
namespace Go.Proofs.YtnfecjmddbehiaaGreat
open Go Am Go.ChangeShapes Go.WideShapes Go.ChangeAt Go.RowKit
set_option maxRecDepth 100000
theorem postulateRepresents_laid (os : Os) : laidMet Tryz.prog Rows.postulateRepresentsRow.laid ((laidWorld os).forCall (fun _ _=>0) ⟨#[],#[.slice none 0 0],[]⟩).memory:=
 laidMet_of_run' 8 (by kernel_rfl) (by kernel_rfl)
theorem postulateRepresents_reads (os : Os) {H : Type} (enc : TypeId × Value→H) : ∃ places,DataW.whole enc Tryz.prog ((laidWorld os).forCall (fun _ _=>0) ⟨#[],#[.slice none 0 0],[]⟩).memory Tryz.f3.params.toList Rows.postulateRepresentsSpec.vars false (#[.slice none 0 0] : Array Value).toList 8=some ([.nil],[],places):=
 ⟨[],by kernel_rfl⟩
theorem postulateRepresents_contract (H : Type) (enc : TypeId × Value→H) (W : World) (base : Nat) (args : Array Value) (ds gs : List (DataW H)) (before : List MemPlace)
 (hval : ∀ (j : Nat) t v,Tryz.f3.params[j]? = some t→args[j]? = some v→Value.okWide Tryz.prog W .any base t v)
 (hW : DataW.Whole enc Tryz.prog Tryz.f3.params.toList Rows.postulateRepresentsSpec.vars false W args.toList ds gs before) (hL : laidMetH Tryz.prog Rows.postulateRepresentsRow.laid W) :
 Calls Tryz.prog 3 args W fun e W'=>∃ v,e = .returned v∧Rows.postulateRepresentsSpec.post enc Tryz.prog Tryz.f3 false true false false W args v W':=by
 have hW':=hW
 obtain ⟨p,q,hA0,hV,rfl,hfz,hnd⟩:=hW
 have hA : DataW.TrodAll enc Tryz.prog W 0 (fun _=>true) true Tryz.f3.params.toList args.toList ds p:=hA0
 obtain ⟨rfl,rfl⟩:=trodVars_none hV
 have hval' : ∀ (j : Nat) t v,Tryz.f3.params.toList[j]? = some t→args.toList[j]? = some v→Value.okWide Tryz.prog W .any base t v:=fun j t v h1 h2=>hval j t v (by simpa using h1) (by simpa using h2)
 have hds : ∃ d0,ds=[d0]:=by
  rw [Tryz.params3] at hA
  have:=hA
  obtain ⟨_,_,d0,_,_,_,_,rfl,_,_,this⟩:=trodAll_cons this
  obtain ⟨_,rfl,_⟩:=trodAll_nil this
  exact ⟨d0,rfl⟩
 obtain ⟨I,hI,hrep⟩:=rep_pars (L:=LT) simpleLT (ρ:=fun _=>none) (Hp:=hOf []) _ _ _ _ (by kernel_rfl) hA hval'
 have hr : run tb 0 I.flatten=some [.bool true]:=postulateRepresents_true I hI
 have hlen : I.flatten.length=sg0.nin:=hI.len.trans (by kernel_rfl)
 have hc:=call_true (W:=W) (ins:=I.flatten) (vs:=args.toList) (i:=0) (f:=3) (sg:=sg0) rfl rfl rfl rfl rfl rfl hL hI.wf hlen hr (hrep [] _)
 refine hc.mono fun e W' h=>?_
 obtain ⟨rfl,C',ρ',hE⟩:=h
 obtain ⟨d0,rfl⟩:=hds
 exact ⟨_,rfl,post_true (tb:=TBool) laidOut rowed fullS (fun t ht=>by
  have : (Tryz.f3.params.toList.all fun t=>decide (t<Tryz.prog.types.size))=true:=by kernel_rfl
  simpa using List.all_eq_true.1 this t ht) rfl hW' rfl (by kernel_rfl) uBool hE⟩
theorem postulateRepresents_lifted (os : Os) (started : os.Started) (H : Type) (enc : TypeId × Value→H) (F : Stop.Interp) :
 ReturnsInHanded {} Tryz.checked os 3 .any ((OpenSpec.ofChange Rows.postulateRepresentsSpec).preRow enc Tryz.prog Tryz.f3 Rows.postulateRepresentsRow.domain false Rows.postulateRepresentsRow.laid) (((OpenSpec.ofChange Rows.postulateRepresentsSpec).at F).post enc Tryz.prog Tryz.f3 false true false false):=by
 obtain ⟨places,hx⟩:=postulateRepresents_reads os enc
 refine returnsInHanded_of_row (C:=Tryz.checked) (s:=OpenSpec.ofChange Rows.postulateRepresentsSpec) ownK started (by kernel_rfl) Tryz.func3
  (witness_row_at (enc:=enc) (C:=Tryz.checked) false (laidWorld os) #[.slice none 0 0] rfl (by kernel_rfl) (by kernel_rfl) (by kernel_rfl)
   (OpenSpec.preRow_of_cond 8 hx (by kernel_rfl) (fun k hk=>by cases hk) (by kernel_rfl) (postulateRepresents_laid os))) ?_
 intro W base args ds gs before hval hW _ _ _ hL _ _
 exact postulateRepresents_contract H enc W base args ds gs before hval hW hL
theorem postulateRepresents_j0 : (Rows.postulateRepresentsRow.inPlace == Program.inPlace Tryz.pinned.checked.prog 3)=true:=by kernel_rfl
theorem postulateRepresents_j1 : (Rows.postulateRepresentsRow.unfollowed == Program.unfollowed Tryz.pinned.checked.prog 3)=true:=by kernel_rfl
theorem postulateRepresents_j2 : (Rows.postulateRepresentsRow.recurses == Program.recurses Tryz.pinned.checked.prog 3)=true:=by kernel_rfl
theorem postulateRepresents_j3 : (Rows.postulateRepresentsRow.named == Program.varsNamed Tryz.pinned.checked.prog 3)=true:=by kernel_rfl
theorem postulateRepresents_j4 : (Rows.postulateRepresentsRow.plainKeys == Program.plainKeys Tryz.pinned.checked.prog)=true:=by kernel_rfl
theorem postulateRepresents_j5 : (laidOutB Tryz.pinned.checked.prog)=true:=by kernel_rfl
theorem postulateRepresents_j6 : (mapsRowed Tryz.pinned.checked.prog)=true:=by kernel_rfl
theorem postulateRepresents_joined : joinedFacts Tryz.pinned.checked.prog 3 Tryz.f3 (OpenSpec.ofChange Rows.postulateRepresentsSpec).bare Rows.postulateRepresentsRow=true:=by
 unfold joinedFacts
 repeat' first | with_reducible exact postulateRepresents_j0 | with_reducible exact postulateRepresents_j1 | with_reducible exact postulateRepresents_j2 | with_reducible exact postulateRepresents_j3 | with_reducible exact postulateRepresents_j4 | with_reducible exact postulateRepresents_j5 | with_reducible exact postulateRepresents_j6 | with_reducible refine Bool.and_eq_true_iff.2 ⟨?_,?_⟩ | kernel_rfl
theorem postulateRepresents_said : Rows.PostulateRepresentsSaid:=
 OpenClaim.holds_of_cond 3 Tryz.f3 rfl rfl rfl rfl rfl rfl rfl ⟨rfl,rfl,rfl,rfl,rfl⟩ rfl rfl rfl rfl rfl (by kernel_rfl) Tryz.func3 postulateRepresents_joined
  (of_decide_eq_true (by kernel_rfl)) (by unfold Func.isWrapper; first | (rw [if_pos (by decide +kernel)]; kernel_rfl) | (rw [if_neg (by decide +kernel)]; exact ⟨rfl,rfl⟩))
  (fun os started H enc _ F=>by rw [OpenClaim.pre_eq_preRow]; exact postulateRepresents_lifted os started H enc F)
end Go.Proofs.YtnfecjmddbehiaaGreat
