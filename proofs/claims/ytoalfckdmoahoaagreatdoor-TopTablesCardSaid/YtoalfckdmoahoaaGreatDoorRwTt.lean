/- For every input, the law deliberationtop.TopTables returns true (the tables of revision, contraction, update and merging keep all postulates of their kind), and the input reads as it did. Conditions: none beyond the given statement. -/
import Derived.Test.YtoalfckdmoahoaaGreatDoorRw0
set_option linter.unusedSimpArgs false
set_option linter.unusedVariables false
set_option linter.unusedSectionVars false
namespace Go.Proofs.YtoalfckdmoahoaaGreatDoor
open Go Am Go.ChangeShapes Go.WideShapes Go.ChangeAt Go.RowKit
set_option maxRecDepth 100000
theorem topTables_laid (os:Os):laidMet Tryz.prog Rows.topTablesRow.laid ((laidWorld os).forCall (fun _ _=>0) ⟨#[],#[.slice none 0 0],[]⟩).memory:=
 laidMet_of_run' 8 (by kernel_rfl) (by kernel_rfl)
theorem topTables_reads (os:Os) {H:Type} (enc:TypeId × Value→H):∃ places,DataW.whole enc Tryz.prog ((laidWorld os).forCall (fun _ _=>0) ⟨#[],#[.slice none 0 0],[]⟩).memory Tryz.f3.params.toList Rows.topTablesSpec.vars false (#[.slice none 0 0]:Array Value).toList 8=some ([.nil],[],places):=
 ⟨[],by kernel_rfl⟩
theorem topTables_contract (H:Type) (enc:TypeId × Value→H) (W:World) (base:Nat) (args:Array Value) (ds gs:List (DataW H)) (before:List MemPlace)
 (hval:∀ (j:Nat) t v,Tryz.f3.params[j]? = some t→args[j]? = some v→Value.okWide Tryz.prog W .any base t v)
 (hW:DataW.Whole enc Tryz.prog Tryz.f3.params.toList Rows.topTablesSpec.vars false W args.toList ds gs before) (hL:laidMetH Tryz.prog Rows.topTablesRow.laid W) :
 Calls Tryz.prog 3 args W fun e W'=>∃ v,e = .returned v∧Rows.topTablesSpec.post enc Tryz.prog Tryz.f3 false true false false W args v W':=by
 have hW':=hW;obtain ⟨p,q,hA0,hV,rfl,hfz,hnd⟩:=hW;have hA:DataW.TrodAll enc Tryz.prog W 0 (fun _=>true) true Tryz.f3.params.toList args.toList ds p:=hA0
 obtain ⟨rfl,rfl⟩:=trodVars_none hV;have hval':∀ (j:Nat) t v,Tryz.f3.params.toList[j]? = some t→args.toList[j]? = some v→Value.okWide Tryz.prog W .any base t v:=fun j t v h1 h2=>hval j t v (by simpa using h1) (by simpa using h2)
 have hds:∃ d0,ds=[d0]:=by
  rw[Tryz.params3] at hA;have:=hA;obtain ⟨_,_,d0,_,_,_,_,rfl,_,_,this⟩:=trodAll_cons this;obtain ⟨_,rfl,_⟩:=trodAll_nil this;exact ⟨d0,rfl⟩
 obtain ⟨I,hI,hrep⟩:=qhy (L:=LT) qqnb (ρ:=fun _=>none) (Hp:=hOf []) _ _ _ _ (by kernel_rfl) hA hval'
 have hc:=qaub (W:=W) (vs:=args.toList) (qwr I hI) hL (hrep [] _);refine hc.mono fun e W' h=>?_
 obtain ⟨rfl,C',ρ',hE⟩:=h;obtain ⟨d0,rfl⟩:=hds
 exact ⟨_,rfl,post_true (tb:=TBool) qmxb qjdc qybc (fun t ht=>by
  have:(Tryz.f3.params.toList.all fun t=>decide (t<Tryz.prog.types.size))=true:=by kernel_rfl
  simpa using List.all_eq_true.1 this t ht) rfl hW' rfl (by kernel_rfl) qkcc hE⟩
theorem topTables_lifted (os:Os) (started:os.Started) (H:Type) (enc:TypeId × Value→H) (F:Stop.Interp) :
 ReturnsInHanded {} Tryz.checked os 3 .any ((OpenSpec.ofChange Rows.topTablesSpec).preRow enc Tryz.prog Tryz.f3 Rows.topTablesRow.domain false Rows.topTablesRow.laid) (((OpenSpec.ofChange Rows.topTablesSpec).at F).post enc Tryz.prog Tryz.f3 false true false false):=by
 obtain ⟨places,hx⟩:=topTables_reads os enc
 refine returnsInHanded_of_row (C:=Tryz.checked) (s:=OpenSpec.ofChange Rows.topTablesSpec) ownK started (by kernel_rfl) Tryz.func3
  (witness_row_at (enc:=enc) (C:=Tryz.checked) false (laidWorld os) #[.slice none 0 0] rfl (by kernel_rfl) (by kernel_rfl) (by kernel_rfl)
   (OpenSpec.preRow_of_cond 8 hx (by kernel_rfl) (fun k hk=>by cases hk) (by kernel_rfl) (topTables_laid os))) ?_
 intro W base args ds gs before hval hW _ _ _ hL _ _;exact topTables_contract H enc W base args ds gs before hval hW hL
theorem topTables_j0:(Rows.topTablesRow.inPlace == Program.inPlace Tryz.pinned.checked.prog 3)=true:=by kernel_rfl
theorem topTables_j1:(Rows.topTablesRow.unfollowed == Program.unfollowed Tryz.pinned.checked.prog 3)=true:=by kernel_rfl
theorem topTables_j2:(Rows.topTablesRow.recurses == Program.recurses Tryz.pinned.checked.prog 3)=true:=by kernel_rfl
theorem topTables_j3:(Rows.topTablesRow.named == Program.varsNamed Tryz.pinned.checked.prog 3)=true:=by kernel_rfl
theorem topTables_j4:(Rows.topTablesRow.plainKeys == Program.plainKeys Tryz.pinned.checked.prog)=true:=by kernel_rfl
theorem topTables_j5:(laidOutB Tryz.pinned.checked.prog)=true:=by kernel_rfl
theorem topTables_j6:(mapsRowed Tryz.pinned.checked.prog)=true:=by kernel_rfl
theorem topTables_joined:joinedFacts Tryz.pinned.checked.prog 3 Tryz.f3 (OpenSpec.ofChange Rows.topTablesSpec).bare Rows.topTablesRow=true:=by
 unfold joinedFacts
 repeat' first|with_reducible exact topTables_j0|with_reducible exact topTables_j1|with_reducible exact topTables_j2|with_reducible exact topTables_j3|with_reducible exact topTables_j4|with_reducible exact topTables_j5|with_reducible exact topTables_j6|with_reducible refine Bool.and_eq_true_iff.2 ⟨?_,?_⟩|kernel_rfl
theorem topTables_said:Rows.TopTablesSaid:=
 OpenClaim.holds_of_cond 3 Tryz.f3 rfl rfl rfl rfl rfl rfl rfl ⟨rfl,rfl,rfl,rfl,rfl⟩ rfl rfl rfl rfl rfl (by kernel_rfl) Tryz.func3 topTables_joined
  (of_decide_eq_true (by kernel_rfl)) (by unfold Func.isWrapper;first|(rw[if_pos (by decide +kernel)];kernel_rfl)|(rw[if_neg (by decide +kernel)];exact ⟨rfl,rfl⟩))
  (fun os started H enc _ F=>by rw[OpenClaim.pre_eq_preRow];exact topTables_lifted os started H enc F)
theorem qkl (f:FuncId) (fn:Func) (hf:Tryz.pinned.checked.prog.funcNamed "deliberation/deliberationtop.TopTables" = some f) (hfn:Tryz.pinned.checked.prog.funcs[f]? = some fn) :
 false=Tryz.pinned.checked.prog.looks []∧∀ (j:Nat) t,fn.params[j]? = some t→Tryz.pinned.checked.prog.wantsStandIn t=false:=by
 obtain rfl:f=3:=Option.some.inj ((show Tryz.prog.funcNamed "deliberation/deliberationtop.TopTables" = some 3 by kernel_rfl).symm.trans hf) |>.symm
 obtain rfl:fn=Tryz.f3:=(Option.some.inj (Tryz.func3.symm.trans hfn)).symm;refine ⟨by kernel_rfl,fun j t ht=>?_⟩
 have h1:(Tryz.f3.params.toList.all fun t=>!(Tryz.prog.wantsStandIn t))=true:=by kernel_rfl
 have h2:t∈Tryz.f3.params.toList:=by
  have:=Array.mem_of_getElem? ht
  simpa using this
 have h3:Tryz.prog.wantsStandIn t=false:=by simpa using List.all_eq_true.1 h1 t h2
 exact h3
theorem topTables_card:Rows.TopTablesCardSaid:=
 Claim7.holds_tied_plain_at .later [] _ _ _ _ topTables_said (fun _ h=>by cases h) (by kernel_rfl) (fun _ h=>by cases h) topTables_row_tie rfl ⟨rfl,rfl⟩ (by kernel_rfl) rfl qkl (by kernel_rfl)
end Go.Proofs.YtoalfckdmoahoaaGreatDoor
