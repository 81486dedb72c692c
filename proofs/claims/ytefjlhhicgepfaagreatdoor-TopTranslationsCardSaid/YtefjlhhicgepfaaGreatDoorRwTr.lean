/- For every input, the law deliberationtop.TopTranslations returns true (an order is the same after it is translated to strata, to conditionals, to their texts and to the table of its revisions, and back), and the input reads as it did. Conditions: none beyond the given statement. -/
import Derived.Test.YtefjlhhicgepfaaGreatDoorTr
set_option linter.unusedSimpArgs false
set_option linter.unusedVariables false
set_option linter.unusedSectionVars false
namespace Go.Proofs.YtefjlhhicgepfaaGreatDoor
open Go.Proofs.Tryz (prog)
open Go Am Go.ChangeShapes Go.WideShapes Go.ChangeAt Go.RowKit
set_option maxRecDepth 100000
theorem topTranslations_laid(os:Os):laidMet prog Rows.topTranslationsRow.laid ((r6 os).forCall (fun _ _=>0) ⟨#[],#[.slice none 0 0],[]⟩).memory:=
 laidMet_of_run' 8 (by kernel_rfl) (by kernel_rfl)
theorem topTranslations_reads(os:Os){H:Type}(enc:TypeId × Value→H):∃ places,DataW.whole enc prog ((r6 os).forCall (fun _ _=>0) ⟨#[],#[.slice none 0 0],[]⟩).memory Tryz.f3.params.toList Rows.topTranslationsSpec.vars false (#[.slice none 0 0]:Array Value).toList 8=some ([.nil],[],places):=
 ⟨[],by kernel_rfl⟩
theorem topTranslations_contract(H:Type)(enc:TypeId × Value→H)(W:World)(base:Nat)(args:Array Value)(ds gs:List (DataW H))(before:List MemPlace)
 (abq:∀ (j:Nat) t v,Tryz.f3.params[j]? = some t→args[j]? = some v→Value.okWide prog W .any base t v)
 (hW:DataW.Whole enc prog Tryz.f3.params.toList Rows.topTranslationsSpec.vars false W args.toList ds gs before) (hL:laidMetH prog Rows.topTranslationsRow.laid W) :
 Calls prog 3 args W fun e W'=>∃ v,e = .returned v∧Rows.topTranslationsSpec.post enc prog Tryz.f3 false true false false W args v W':=by
 have hW':=hW;obtain ⟨p,q,hA0,hV,rfl,kz,xw⟩:=hW;have hA:DataW.TrodAll enc prog W 0 (fun _=>true) true Tryz.f3.params.toList args.toList ds p:=hA0
 obtain ⟨rfl,rfl⟩:=trodVars_none hV;have ang:∀ (j:Nat) t v,Tryz.f3.params.toList[j]? = some t→args.toList[j]? = some v→Value.okWide prog W .any base t v:=fun j t v h1 h2=>abq j t v (by simpa using h1) (by simpa using h2)
 have hds:∃ d0,ds=[d0]:=by
  rw[Tryz.params3] at hA;have:=hA;obtain ⟨_,_,d0,_,_,_,_,rfl,_,_,this⟩:=trodAll_cons this;obtain ⟨_,rfl,_⟩:=trodAll_nil this;exact ⟨d0,rfl⟩
 obtain ⟨I,hI,rj⟩:=qhz (L:=LT) arb (ρ:=fun _=>none) (Hp:=hOf []) _ _ _ _ (by kernel_rfl) hA ang
 have hc:=a6p (W:=W) (vs:=args.toList) (qfj I hI) hL (rj [] _);refine hc.mono fun e W' h=>?_
 obtain ⟨rfl,C',ρ',hE⟩:=h;obtain ⟨d0,rfl⟩:=hds
 exact ⟨_,rfl,abf (tb:=aeq) avr as5 a4n (fun t ht=>by
  have:(Tryz.f3.params.toList.all fun t=>decide (t<prog.types.size))=true:=by kernel_rfl
  simpa using List.all_eq_true.1 this t ht) rfl hW' rfl (by kernel_rfl) a43 hE⟩
theorem topTranslations_lifted(os:Os)(started:os.Started)(H:Type)(enc:TypeId × Value→H)(F:Stop.Interp) :
 ReturnsInHanded {} Tryz.checked os 3 .any ((OpenSpec.ofChange Rows.topTranslationsSpec).preRow enc prog Tryz.f3 Rows.topTranslationsRow.domain false Rows.topTranslationsRow.laid) (((OpenSpec.ofChange Rows.topTranslationsSpec).at F).post enc prog Tryz.f3 false true false false):=by
 obtain ⟨places,hx⟩:=topTranslations_reads os enc
 refine returnsInHanded_of_row (C:=Tryz.checked) (s:=OpenSpec.ofChange Rows.topTranslationsSpec) a4x started (by kernel_rfl) Tryz.func3
  (witness_row_at (enc:=enc) (C:=Tryz.checked) false (r6 os) #[.slice none 0 0] rfl (by kernel_rfl) (by kernel_rfl) (by kernel_rfl)
   (OpenSpec.preRow_of_cond 8 hx (by kernel_rfl) (fun k hk=>by cases hk) (by kernel_rfl) (topTranslations_laid os))) ?_
 intro W base args ds gs before abq hW _ _ _ hL _ _;exact topTranslations_contract H enc W base args ds gs before abq hW hL
theorem topTranslations_j0:(Rows.topTranslationsRow.inPlace == Program.inPlace Tryz.pinned.checked.prog 3)=true:=by kernel_rfl
theorem topTranslations_j1:(Rows.topTranslationsRow.unfollowed == Program.unfollowed Tryz.pinned.checked.prog 3)=true:=by kernel_rfl
theorem topTranslations_j2:(Rows.topTranslationsRow.recurses == Program.recurses Tryz.pinned.checked.prog 3)=true:=by kernel_rfl
theorem topTranslations_j3:(Rows.topTranslationsRow.named == Program.varsNamed Tryz.pinned.checked.prog 3)=true:=by kernel_rfl
theorem topTranslations_j4:(Rows.topTranslationsRow.plainKeys == Program.plainKeys Tryz.pinned.checked.prog)=true:=by kernel_rfl
theorem topTranslations_j5:(laidOutB Tryz.pinned.checked.prog)=true:=by kernel_rfl
theorem topTranslations_j6:(mapsRowed Tryz.pinned.checked.prog)=true:=by kernel_rfl
theorem topTranslations_joined:joinedFacts Tryz.pinned.checked.prog 3 Tryz.f3 (OpenSpec.ofChange Rows.topTranslationsSpec).bare Rows.topTranslationsRow=true:=by
 unfold joinedFacts
 repeat' first|with_reducible exact topTranslations_j0|with_reducible exact topTranslations_j1|with_reducible exact topTranslations_j2|with_reducible exact topTranslations_j3|with_reducible exact topTranslations_j4|with_reducible exact topTranslations_j5|with_reducible exact topTranslations_j6|with_reducible refine Bool.and_eq_true_iff.2 ⟨?_,?_⟩|kernel_rfl
theorem topTranslations_said:Rows.TopTranslationsSaid:=
 OpenClaim.holds_of_cond 3 Tryz.f3 rfl rfl rfl rfl rfl rfl rfl ⟨rfl,rfl,rfl,rfl,rfl⟩ rfl rfl rfl rfl rfl (by kernel_rfl) Tryz.func3 topTranslations_joined
  (of_decide_eq_true (by kernel_rfl)) (by unfold Func.isWrapper;first|(rw[if_pos (by decide +kernel)];kernel_rfl)|(rw[if_neg (by decide +kernel)];exact ⟨rfl,rfl⟩))
  (fun os started H enc _ F=>by rw[OpenClaim.pre_eq_preRow];exact topTranslations_lifted os started H enc F)
theorem qog (f:FuncId) (fn:Func) (hf:Tryz.pinned.checked.prog.funcNamed "deliberation/deliberationtop.TopTranslations" = some f) (hfn:Tryz.pinned.checked.prog.funcs[f]? = some fn) :
 false=Tryz.pinned.checked.prog.looks []∧∀ (j:Nat) t,fn.params[j]? = some t→Tryz.pinned.checked.prog.wantsStandIn t=false:=by
 obtain rfl:f=3:=Option.some.inj ((show prog.funcNamed "deliberation/deliberationtop.TopTranslations" = some 3 by kernel_rfl).symm.trans hf) |>.symm
 obtain rfl:fn=Tryz.f3:=(Option.some.inj (Tryz.func3.symm.trans hfn)).symm;refine ⟨by kernel_rfl,fun j t ht=>?_⟩
 have h1:(Tryz.f3.params.toList.all fun t=>!(prog.wantsStandIn t))=true:=by kernel_rfl
 have h2:t∈Tryz.f3.params.toList:=by
  have:=Array.mem_of_getElem? ht
  simpa using this
 have h3:prog.wantsStandIn t=false:=by simpa using List.all_eq_true.1 h1 t h2
 exact h3
theorem topTranslations_card:Rows.TopTranslationsCardSaid:=
 Claim7.holds_tied_plain_at .later [] _ _ _ _ topTranslations_said (fun _ h=>by cases h) (by kernel_rfl) (fun _ h=>by cases h) topTranslations_row_tie rfl ⟨rfl,rfl⟩ (by kernel_rfl) rfl qog (by kernel_rfl)
end Go.Proofs.YtefjlhhicgepfaaGreatDoor
