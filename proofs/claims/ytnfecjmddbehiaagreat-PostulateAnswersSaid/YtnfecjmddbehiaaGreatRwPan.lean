/- Validate, Check, Count and Orders of the program answer as the reference of chapter 37 does, for raw tables, for tables of orders and for ones with changed entries. Conditions: none beyond the given statement. -/
import Derived.Test.YtnfecjmddbehiaaGreatLwPan
import Derived.Test.YtnfecjmddbehiaaGreatRw0
set_option linter.unusedSimpArgs false
set_option linter.unusedVariables false
set_option linter.unusedSectionVars false
namespace Go.Proofs.YtnfecjmddbehiaaGreat
open Go Am Go.ChangeShapes Go.WideShapes Go.ChangeAt Go.RowKit
set_option maxRecDepth 100000
theorem postulateAnswers_laid (os:Os):laidMet Tryz.prog Rows.postulateAnswersRow.laid ((laidWorld os).forCall (fun _ _=>0) ⟨#[],#[.agg #[.int .i64 0,.slice none 0 0],.slice none 0 0,.slice none 0 0,.int .i64 0],[]⟩).memory:=
 laidMet_of_run' 8 (by kernel_rfl) (by kernel_rfl)
theorem postulateAnswers_reads (os:Os) {H:Type} (enc:TypeId × Value→H):∃ places,DataW.whole enc Tryz.prog ((laidWorld os).forCall (fun _ _=>0) ⟨#[],#[.agg #[.int .i64 0,.slice none 0 0],.slice none 0 0,.slice none 0 0,.int .i64 0],[]⟩).memory Tryz.f4.params.toList Rows.postulateAnswersSpec.vars false (#[.agg #[.int .i64 0,.slice none 0 0],.slice none 0 0,.slice none 0 0,.int .i64 0]:Array Value).toList 8=some ([.agg [.lit (.int .i64 0),.nil],.nil,.nil,.lit (.int .i64 0)],[],places):=
 ⟨[],by kernel_rfl⟩
theorem postulateAnswers_contract (H:Type) (enc:TypeId × Value→H) (W:World) (base:Nat) (args:Array Value) (ds gs:List (DataW H)) (before:List MemPlace)
 (hval:∀ (j:Nat) t v,Tryz.f4.params[j]? = some t→args[j]? = some v→Value.okWide Tryz.prog W .any base t v)
 (hW:DataW.Whole enc Tryz.prog Tryz.f4.params.toList Rows.postulateAnswersSpec.vars false W args.toList ds gs before) (hL:laidMetH Tryz.prog Rows.postulateAnswersRow.laid W) :
 Calls Tryz.prog 4 args W fun e W'=>∃ v,e = .returned v∧Rows.postulateAnswersSpec.post enc Tryz.prog Tryz.f4 false true false false W args v W':=by
 have hW':=hW;obtain ⟨p,q,hA0,hV,rfl,hfz,hnd⟩:=hW;have hA:DataW.TrodAll enc Tryz.prog W 0 (fun _=>true) true Tryz.f4.params.toList args.toList ds p:=hA0
 obtain ⟨rfl,rfl⟩:=trodVars_none hV;have hval':∀ (j:Nat) t v,Tryz.f4.params.toList[j]? = some t→args.toList[j]? = some v→Value.okWide Tryz.prog W .any base t v:=fun j t v h1 h2=>hval j t v (by simpa using h1) (by simpa using h2)
 have hds:∃ d0 d1 d2 d3,ds=[d0,d1,d2,d3]:=by
  rw[Tryz.params4] at hA;have:=hA;obtain ⟨_,_,d0,_,_,_,_,rfl,_,_,this⟩:=trodAll_cons this;obtain ⟨_,_,d1,_,_,_,_,rfl,_,_,this⟩:=trodAll_cons this;obtain ⟨_,_,d2,_,_,_,_,rfl,_,_,this⟩:=trodAll_cons this;obtain ⟨_,_,d3,_,_,_,_,rfl,_,_,this⟩:=trodAll_cons this;obtain ⟨_,rfl,_⟩:=trodAll_nil this;exact ⟨d0,d1,d2,d3,rfl⟩
 obtain ⟨I,hI,hrep⟩:=qov (L:=LTT) qofb (ρ:=fun _=>none) (Hp:=hOf []) _ _ _ _ (by kernel_rfl) hA hval'
 have hr:run tb 0 I.flatten=some [.bool true]:=postulateAnswers_true I hI;have hlen:I.flatten.length=sg0.nin:=hI.len.trans (by kernel_rfl)
 have hc:=call_true (W:=W) (ins:=I.flatten) (vs:=args.toList) (i:=0) (f:=4) (sg:=sg0) rfl rfl rfl rfl rfl rfl hL hI.wf hlen hr (hrep [] _);refine hc.mono fun e W' h=>?_
 obtain ⟨rfl,C',ρ',hE⟩:=h;obtain ⟨d0,d1,d2,d3,rfl⟩:=hds
 exact ⟨_,rfl,post_true (tb:=TBool) qtub qdyb qvzb (fun t ht=>by
  have:(Tryz.f4.params.toList.all fun t=>decide (t<Tryz.prog.types.size))=true:=by kernel_rfl
  simpa using List.all_eq_true.1 this t ht) rfl hW' rfl (by kernel_rfl) qfyb hE⟩
theorem postulateAnswers_lifted (os:Os) (started:os.Started) (H:Type) (enc:TypeId × Value→H) (F:Stop.Interp) :
 ReturnsInHanded {} Tryz.checked os 4 .any ((OpenSpec.ofChange Rows.postulateAnswersSpec).preRow enc Tryz.prog Tryz.f4 Rows.postulateAnswersRow.domain false Rows.postulateAnswersRow.laid) (((OpenSpec.ofChange Rows.postulateAnswersSpec).at F).post enc Tryz.prog Tryz.f4 false true false false):=by
 obtain ⟨places,hx⟩:=postulateAnswers_reads os enc
 refine returnsInHanded_of_row (C:=Tryz.checked) (s:=OpenSpec.ofChange Rows.postulateAnswersSpec) ownK started (by kernel_rfl) Tryz.func4
  (witness_row_at (enc:=enc) (C:=Tryz.checked) false (laidWorld os) #[.agg #[.int .i64 0,.slice none 0 0],.slice none 0 0,.slice none 0 0,.int .i64 0] rfl (by kernel_rfl) (by kernel_rfl) (by kernel_rfl)
   (OpenSpec.preRow_of_cond 8 hx (by kernel_rfl) (fun k hk=>by cases hk) (by kernel_rfl) (postulateAnswers_laid os))) ?_
 intro W base args ds gs before hval hW _ _ _ hL _ _;exact postulateAnswers_contract H enc W base args ds gs before hval hW hL
theorem postulateAnswers_j0:(Rows.postulateAnswersRow.inPlace == Program.inPlace Tryz.pinned.checked.prog 4)=true:=by kernel_rfl
theorem postulateAnswers_j1:(Rows.postulateAnswersRow.unfollowed == Program.unfollowed Tryz.pinned.checked.prog 4)=true:=by kernel_rfl
theorem postulateAnswers_j2:(Rows.postulateAnswersRow.recurses == Program.recurses Tryz.pinned.checked.prog 4)=true:=by kernel_rfl
theorem postulateAnswers_j3:(Rows.postulateAnswersRow.named == Program.varsNamed Tryz.pinned.checked.prog 4)=true:=by kernel_rfl
theorem postulateAnswers_j4:(Rows.postulateAnswersRow.plainKeys == Program.plainKeys Tryz.pinned.checked.prog)=true:=by kernel_rfl
theorem postulateAnswers_j5:(laidOutB Tryz.pinned.checked.prog)=true:=by kernel_rfl
theorem postulateAnswers_j6:(mapsRowed Tryz.pinned.checked.prog)=true:=by kernel_rfl
theorem postulateAnswers_joined:joinedFacts Tryz.pinned.checked.prog 4 Tryz.f4 (OpenSpec.ofChange Rows.postulateAnswersSpec).bare Rows.postulateAnswersRow=true:=by
 unfold joinedFacts
 repeat' first|with_reducible exact postulateAnswers_j0|with_reducible exact postulateAnswers_j1|with_reducible exact postulateAnswers_j2|with_reducible exact postulateAnswers_j3|with_reducible exact postulateAnswers_j4|with_reducible exact postulateAnswers_j5|with_reducible exact postulateAnswers_j6|with_reducible refine Bool.and_eq_true_iff.2 ⟨?_,?_⟩|kernel_rfl
theorem postulateAnswers_said:Rows.PostulateAnswersSaid:=
 OpenClaim.holds_of_cond 4 Tryz.f4 rfl rfl rfl rfl rfl rfl rfl ⟨rfl,rfl,rfl,rfl,rfl⟩ rfl rfl rfl rfl rfl (by kernel_rfl) Tryz.func4 postulateAnswers_joined
  (of_decide_eq_true (by kernel_rfl)) (by unfold Func.isWrapper;first|(rw[if_pos (by decide +kernel)];kernel_rfl)|(rw[if_neg (by decide +kernel)];exact ⟨rfl,rfl⟩))
  (fun os started H enc _ F=>by rw[OpenClaim.pre_eq_preRow];exact postulateAnswers_lifted os started H enc F)
end Go.Proofs.YtnfecjmddbehiaaGreat
