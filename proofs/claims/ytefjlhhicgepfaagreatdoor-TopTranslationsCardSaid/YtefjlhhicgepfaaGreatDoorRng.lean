/- Lemmas. -/
import Derived.Test.YtefjlhhicgepfaaGreatDoorSe7
import Derived.RangeFuncIn
import Derived.RangeFuncSeq
set_option linter.unusedSimpArgs false
set_option linter.unusedVariables false
set_option linter.unusedSectionVars false
namespace Am
open Go Go.RowKit
variable {P:Program}{G:bl}
def alv(P:Program)(gf:FuncId)(lb:Array Value)(ys:List (Array Value))(Cap:World→Prop):Prop:=
 ∀ (l:Nat) (J:Nat→World→Prop) (Jx:World→Prop) (W:World),(∀ k W,J k W→Cap W)→(∀ k W W',J k W→W.grownBy W' none→J k W')→
  (∀ k (hk:k<ys.length) W,J k W→YieldAt (Fe none) 3 P l ys[k] W fun e W'=>(e = .returned (.bool true)∧J (k+1) W')∨(e = .returned (.bool false)∧Jx W'))→
  J 0 W→CallsIn (Fe none) 4 P gf (#[.func (.yield l) #[] #[]]++lb) W fun e W'=>(∃ v,e = .returned v)∧(J ys.length W'∨Jx W')
def adh(P:Program)(gf:FuncId)(caps:List AV)(H:ba)(rows:List (List AV))(K:Nat→Prop):Prop:=
 (∀ args w,(callFunc gf args).run P w = .ok (.enter gf args) w)∧
 ∀ (w:World) (C:Com) (ρ:Rho) (lb:List Value),bh w C ρ H→dy w C ρ H caps lb→∃ (ys:List (Array Value)) (Cap:World→Prop),ys.length=rows.length∧
  (∀ k (h:k<rows.length) (h':k<ys.length),dy w C ρ H rows[k] (ys[k]).toList)∧alv P gf ⟨lb⟩ ys Cap∧
  ∀ (w':World) (C':Com) (ρ':Rho) (H':ba),bh w' C' ρ' H'→Ext w C ρ H w' C' ρ' H'→(∀ b,K b→H' b=H b)→Cap w'
def ut(tm:Nat→AV):List Nat→List AV→Nat→AV
 | p::ps,x::xs=>ut (nr tm p x) ps xs
 | _,_=>tm
theorem pi.puts{w:World}{C:Com}{ρ:Rho}{H:ba}{n:Nat}:∀ (ps:List Nat) (xs:List AV) (vs:List Value) (tm:Nat→AV) (tmps:Array Value),pi tm n H C ρ { tmps:=tmps,defers:=[] } w→(∀ p∈ps,p<n)→dy w C ρ H xs vs→ps.length=vs.length→
 pi (ut tm ps xs) n H C ρ { tmps:=(ps.zip vs).foldl (fun t (p,v)=>t.setIfInBounds p v) tmps,defers:=[] } w:=by
 intro ps
 induction ps with
 | nil=>intro xs vs tm tmps h _ _ _;simpa [ut] using h
 | cons p ps ih=>
  intro xs vs tm tmps h hp hv hl;obtain ⟨h1,h2⟩:=hv
  match vs,xs,hl,h1,h2 with
  | v::vs,x::xs,hl,h1,h2=>
   simp only[ut,List.zip_cons_cons,List.foldl_cons];have hx:=h2 0 (by simp) (by simp)
   simp only[List.getElem_cons_zero] at hx;have h3:=h.put (d:=some p) h.h (.refl _ _ _ _) (hp p (by simp)) hx
   refine ih xs vs (nr tm p x) (tmps.setIfInBounds p v) h3 (fun q hq=>hp q (by simp[hq])) ⟨by simpa using h1,fun i hi bn=>?_⟩ (by simpa using hl)
   have:=h2 (i+1) (by simp;omega) (by simp;omega)
   simpa using this
def ae8(I:Nat→ba→Prop)(j:Nat)(Q:Exit→Sta→Prop)(s:Sta):Exit→Sta→Prop:=fun e s1=>match e with
 | .normal=>∃ s',Ent s.nx s1 s'∧s'.nx=s.nx∧I (j+1) s'.H
 | .ret=>∃ s',Ent s.nx s1 s'∧Q .ret { s with H:=s'.H,nx:=s'.nx }
 | .exit id=>∃ s',Ent s.nx s1 s'∧Q (.exit id) { s with H:=s'.H,nx:=s'.nx }
 | _=>False
def o6(h:ba)(nx n:Nat):Sta:=⟨fun _=>.junk,h,nx,n⟩
theorem Inv.forget{B:Beg}{s:Sta}{C:Com}{ρ:Rho}{a:Act}{w:World}(h:Inv G B s C ρ a w)(tmps:Array Value)(hs:tmps.size=s.n):Inv G B (o6 s.H s.nx s.n) C ρ { tmps:=tmps,defers:=[] } w:=
 ⟨⟨fun _=>.junk _,hs,h.rel.h,trivial,trivial⟩,h.nx,h.ext,h.glob,h.marks.bare⟩
theorem Inv.objs{B:Beg}{s:Sta}{C:Com}{ρ:Rho}{a:Act}{w:World}(h:Inv G B s C ρ a w)(O:Nat→Option Obj)(ho:∀ r o,O r=some o→w.heap[r]? = some o∧o.isCells=false):Inv G { B with objs:=O } s C ρ a w:=
 ⟨h.rel,h.nx,h.ext,h.glob,⟨h.marks.1,h.marks.2.1,ho⟩⟩
theorem Inv.turn{B:Beg}{s:Sta}{C:Com}{ρ:Rho}{a:Act}{w:World}(h:Inv G B s C ρ a w){l:Nat}{r:Loop}{o':Obj}(hl:B.w.heap.size≤l)(ho:w.heap[l]? = some (.loop r))(O:Nat→Option Obj)
 (hO:∀ r x,O r=some x→(w.putObj l o').heap[r]? = some x∧x.isCells=false):Inv G { B with objs:=O } s C ρ a (w.putObj l o'):=by
 have h1:=h.objs (fun _=>none) (fun _ _ h=>nomatch h)
 have hm:kf (fun _=>none) B.w.heap.size (w.putObj l o') a.defers:=by
  refine ⟨h.marks.1,fun d hd=>?_,fun _ _ h=>nomatch h⟩
  obtain ⟨D,h0,rfl,hD⟩:=h.marks.2.1 d hd;refine ⟨D,h0,rfl,(World.putObj_heap_other fun e=>?_).trans hD⟩
  subst e;rw[ho] at hD;cases hD
 have h2:=Inv.grown h1 (grownBy_putObj' w l o') (fun r e=>by cases e;exact ⟨hl,_,ho,rfl⟩) hm
 exact h2.objs O hO
theorem Inv.more{B:Beg}{s:Sta}{C:Com}{ρ:Rho}{a:Act}{w w':World}(h:Inv G B s C ρ a w)(hg:w.grownBy w' none):Inv G B s C ρ a w':=by
 refine Inv.grown h hg (fun r e=>by cases e) ⟨h.marks.1,fun d hd=>?_,fun r o ho=>?_⟩
 · obtain ⟨D,h0,rfl,hD⟩:=h.marks.2.1 d hd;exact ⟨D,h0,rfl,(hg.block D (Array.getElem?_eq_some_iff.1 hD).1 (by simp)).trans hD⟩
 · obtain ⟨h1,h2⟩:=h.marks.2.2 r o ho;exact ⟨(hg.block r (Array.getElem?_eq_some_iff.1 h1).1 (by simp)).trans h1,h2⟩
def aa1(H:ba)(n:Nat):List Blk:=(List.range n).map fun b=>(H b).getD ⟨true,false,0,0,[]⟩
theorem a0i{H:ba}{n:Nat}(h1:∀ b,b<n→(H b).isSome=true)(h2:∀ b,n≤b→H b=none):hOf (aa1 H n)=H:=by
 funext b
 unfold hOf aa1
 by_cases hb:b<n
 · obtain ⟨x,hx⟩:=Option.isSome_iff_exists.1 (h1 b hb);simp[hb,hx]
 · rw[h2 b (by omega)]
   simp;omega
def rcO(D l:Nat)(r:Loop):Nat→Option Obj:=fun x=>if x=l then some (.loop r) else if x=D then some (.deferred (some [])) else none
theorem arf{k:Nat}{g:Operand}{ps:Array Nat}{assign body:Code}{Q:Exit→Sta→Prop}{s:Sta}{gf:FuncId}{caps:List AV}{rows:List (List AV)}{K:Nat→Prop}
 (hg:evA G s.tm g = .clo (.func gf) [] caps) (afz:adh P gf caps s.H rows K) (hps:∀ r∈rows,r.length=ps.size) (hpn:∀ p∈ps.toList,p<s.n)
 (aom:∀ b,b<s.nx→(s.H b).isSome=true) (nra:dx assign=true) (nrb:dx body=true)
 (I:Nat→ba→Prop) (h0:I 0 s.H) (hK:∀ j h,I j h→∀ b,K b→h b=s.H b)
 (aac:∀ j h (hj:j<rows.length),I j h→awp P G s.nx assign (fun e s1=>e = .normal∧∃ s2,Ent s.nx s1 s2∧awp P G s.nx body (ae8 I j Q s) s2) { s with tm:=ut s.tm ps.toList rows[j],H:=h })
 (ai2:∀ h,I rows.length h→Q .normal { s with H:=h }):awp P G k (.rangeFunc g ps assign body) Q s:=by
 intro B a w hk hi;obtain ⟨C,ρ,hi⟩:=hi;have hgr:=hi.rel.ev hi.glob g;rw[hg] at hgr
 obtain ⟨lb,hgv,yn⟩:∃ lb:List Value,a.eval g = .func (.func gf) #[] ⟨lb⟩∧dy w C ρ s.H caps lb:=by
  generalize a.eval g=v at hgr;cases hgr with
  | clo _ _ _ fv cv hf hc h1 h2=>
   obtain rfl:fv=[]:=List.eq_nil_of_length_eq_zero hf.symm;exact ⟨cv,rfl,hc,h2⟩
 obtain ⟨agr,afz⟩:=afz;obtain ⟨ys,Cap,hyl,hyr,hsq,fl⟩:=afz w C ρ lb hi.rel.h yn;have hHf:=a0i aom hi.nx;obtain ⟨B0,hB0⟩:∃ B0:Beg,B0=⟨w,C,ρ,aa1 s.H s.nx,fun _=>none⟩:=⟨_,rfl⟩
 have hBw:B0.w=w:=by rw[hB0]
 have hBl:B0.Hin.length=s.nx:=by rw[hB0];simp[aa1]
 have hBe:∀ {W:World} {C':Com} {ρ':Rho} {H':ba},Ext B0.w B0.C B0.ρ (hOf B0.Hin) W C' ρ' H'→Ext w C ρ s.H W C' ρ' H':=fun e=>by
  rw[hB0] at e;simp only at e
  rwa [hHf] at e
 obtain ⟨l,hl⟩:∃ l,l=w.heap.size+1:=⟨_,rfl⟩;obtain ⟨D,hD⟩:∃ D,D=w.heap.size:=⟨_,rfl⟩;have hlD:l≠D:=by omega
 have hts:a.tmps.size=s.n:=hi.rel.size;refine wpIn_rangeFunc ?_;intro fn hfn;obtain ⟨rec,hrec⟩:∃ rec:LoopState→Option Code→Loop,rec=fun st pe=>{ state:=st,pending:=pe,fn,tmps:=a.tmps,params:=ps,assign,body,defers:=D }:=⟨_,rfl⟩
 obtain ⟨W1,hW1⟩:∃ W1,(w.alloc (.deferred (some []))).alloc (.loop (rec .ready none))=W1:=⟨_,rfl⟩
 have hL1:W1.heap[l]? = some (.loop (rec .ready none)):=by
  rw[← hW1,hl];have:=World.alloc_heap_new (w.alloc (.deferred (some []))) (.loop (rec .ready none));rwa [World.size_alloc] at this
 have hK1:W1.heap[D]? = some (.deferred (some [])):=by
  rw[← hW1,hD];exact (Below.heap_alloc _ _ _ (by simp)).trans (World.alloc_heap_new w _)
 have hO:∀ {W:World} {r:Loop},W.heap[l]? = some (.loop r)→W.heap[D]? = some (.deferred (some []))→∀ x o,rcO D l r x=some o→W.heap[x]? = some o∧o.isCells=false:=fun h1 h2 x o ho=>by
  unfold rcO at ho
  split at ho
  · rename_i e;subst e;cases ho;exact ⟨h1,rfl⟩
  · split at ho
    · rename_i e;subst e;cases ho;exact ⟨h2,rfl⟩
    · cases ho
 obtain ⟨J,hJ⟩:∃ J:Nat→World→Prop,J=fun j W=>∃ h C' ρ',I j h∧Inv G { B0 with objs:=rcO D l (rec .ready none) } (o6 h s.nx s.n) C' ρ' { tmps:=a.tmps,defers:=[] } W:=⟨_,rfl⟩
 obtain ⟨Jx,hJx⟩:∃ Jx:World→Prop,Jx=fun W=>∃ (c:Code) (s1:Sta) (C':Com) (ρ':Rho),((c = .ret∧Q .ret { s with H:=s1.H,nx:=s1.nx })∨∃ id,c = .exit id∧Q (.exit id) { s with H:=s1.H,nx:=s1.nx })∧
  Inv G { B0 with objs:=rcO D l (rec .done (some c)) } (o6 s1.H s1.nx s.n) C' ρ' { tmps:=a.tmps,defers:=[] } W:=⟨_,rfl⟩
 have recs:∀ {W:World} {r:Loop} {s1:Sta} {C':Com} {ρ':Rho} {a':Act},Inv G { B0 with objs:=rcO D l r } s1 C' ρ' a' W→W.heap[l]? = some (.loop r)∧W.heap[D]? = some (.deferred (some [])):=fun h=>
  ⟨(h.marks.2.2 l _ (by simp[rcO])).1,(h.marks.2.2 D _ (by simp[rcO,Ne.symm hlD])).1⟩
 have h00:Inv G B0 (o6 s.H s.nx s.n) C ρ { tmps:=a.tmps,defers:=[] } w:=by
  rw[hB0];exact ⟨⟨fun _=>.junk _,hts,hi.rel.h,trivial,trivial⟩,hi.nx,by simp only;rw[hHf];exact .refl _ _ _ _,hi.glob,kf.nil _ _⟩
 have hJ0:J 0 W1:=by
  rw[hJ];refine ⟨s.H,C,ρ,h0,?_⟩;have h1:=(h00.more (World.grownBy_alloc w (.deferred (some [])) none)).more (World.grownBy_alloc _ (.loop (rec .ready none)) none);rw[hW1] at h1;exact h1.objs _ (hO hL1 hK1)
 have iv:CallsIn (Fe none) 4 P gf (#[.func (.yield l) #[] #[]]++⟨lb⟩) W1 fun e W'=>(∃ v,e = .returned v)∧(J ys.length W'∨Jx W'):=by
  refine hsq l J Jx W1 (fun j W hj=>?_) (fun j W W' hj hgr=>?_) (fun j hj W hjw=>?_) hJ0
  · rw[hJ] at hj;obtain ⟨h,C',ρ',hI,hv⟩:=hj;exact fl W C' ρ' h hv.rel.h (hBe hv.ext) (hK j h hI)
  · rw[hJ] at hj ⊢;obtain ⟨h,C',ρ',hI,hv⟩:=hj;exact ⟨h,C',ρ',hI,hv.more hgr⟩
  · rw[hJ] at hjw;obtain ⟨h,C',ρ',hI,hv⟩:=hjw;obtain ⟨xt,si⟩:=recs hv;have gb:j<rows.length:=by omega
    have vp:(ys[j]).size=ps.size:=by
     have:=(hyr j gb hj).1;rw[hps _ (List.getElem_mem gb)] at this
     simpa using this.symm
    have hy:=run_yield (P:=P) (args:=ys[j]) xt (by rw[hrec];exact vp)
    rw[hrec] at hy;refine ⟨fn,_,assign,body,hy,roundIn_of_wpIn hfn ?_⟩;have hT:pi s.tm s.n h C' ρ' { tmps:=a.tmps,defers:=[] } W:=⟨fun t=>(hi.rel.tm t).mono (hBe hv.ext),hts,hv.rel.h,trivial,trivial⟩
    have hT1:=pi.puts ps.toList rows[j] (ys[j]).toList s.tm a.tmps hT hpn ⟨(hyr j gb hj).1,fun i h1 h2=>((hyr j gb hj).2 i h1 h2).mono (hBe hv.ext)⟩ (by simpa using vp.symm)
    have ajd:(ps.zip ys[j]).foldl (fun (t:Array Value) (x:Nat × Value)=>match x with|(p,v)=>t.setIfInBounds p v) a.tmps=(ps.toList.zip (ys[j]).toList).foldl (fun (t:Array Value) (x:Nat × Value)=>match x with|(p,v)=>t.setIfInBounds p v) a.tmps:=by
     rw[← Array.foldl_toList,Array.toList_zip]
    have hInv:Inv G { B0 with objs:=rcO D l (rec .ready none) } { s with tm:=ut s.tm ps.toList rows[j],H:=h } C' ρ' { tmps:=(ps.toList.zip (ys[j]).toList).foldl (fun (t:Array Value) (x:Nat × Value)=>match x with|(p,v)=>t.setIfInBounds p v) a.tmps,defers:=[] } W:=
     ⟨⟨hT1.tm,hT1.size,hv.rel.h,trivial,trivial⟩,hv.nx,hv.ext,hv.glob,hv.marks⟩
    have yr:=qzm (P:=P) (rd:=some l) (n:=3) (B:={ B0 with objs:=rcO D l (rec .ready none) }) assign (.inl nra) _ _ _ W ⟨C',ρ',hInv⟩ (by rw[hBl];exact aac j h gb hI)
    show assign.wpIn (Fe (some l)) 3 P _ _ W
    rw[ajd];refine wpIn_mono yr ?_;rintro e a1 w1 ⟨s0,⟨rfl,s1,he1,hb⟩,C1,ρ1,v6⟩;obtain ⟨C1,ρ1,v6⟩:=he1 G { B0 with objs:=rcO D l (rec .ready none) } a1 w1 hBl ⟨C1,ρ1,v6⟩;obtain ⟨hl2,tp⟩:=recs v6;refine ⟨_,run_beginRound hl2 (by rw[hrec]),?_⟩
    have ad7:l<w1.heap.size:=(Array.getElem?_eq_some_iff.1 hl2).1;have hBsz:∀ r:Loop,({ B0 with objs:=rcO D l r }:Beg).w.heap.size≤l:=fun r=>by simp only[hBw];omega
    have hi2:=v6.turn (o':=.loop { rec .ready none with state:=.busy }) (hBsz _) hl2 (rcO D l { rec .ready none with state:=.busy }) (hO (World.putObj_heap_same ad7) ((World.putObj_heap_other (Ne.symm hlD)).trans tp));have tq:=qzm (P:=P) (rd:=some l) (n:=3) (B:={ B0 with objs:=rcO D l { rec .ready none with state:=.busy } }) body (.inl nrb) _ _ _ _ ⟨C1,ρ1,hi2⟩ (by rw[hBl];exact hb)
    show body.wpIn (Fe (some l)) 3 P _ _ _
    refine wpIn_mono tq ?_;rintro e a2 w2 ⟨s2,hq,C2,ρ2,hi3⟩;obtain ⟨hl3,hd3⟩:=recs hi3;have av6:l<w2.heap.size:=(Array.getElem?_eq_some_iff.1 hl3).1
    have fin:∀ (jump:Option Code) (s':Sta) (C':Com) (ρ':Rho),Inv G { B0 with objs:=rcO D l { rec .ready none with state:=.busy } } s' C' ρ' a2 w2→Inv G { B0 with objs:=rcO D l (rec (if jump.isNone then .ready else .done) jump) } (o6 s'.H s'.nx s'.n) C' ρ' { tmps:=a2.tmps,defers:=[] }
     (w2.putObj l (.loop (rec (if jump.isNone then .ready else .done) jump))):=fun jump s' C' ρ' h=>by
     have h1:=h.forget a2.tmps h.rel.size;exact h1.turn (o':=.loop (rec (if jump.isNone then .ready else .done) jump)) (hBsz _) hl3 _ (hO (World.putObj_heap_same av6) ((World.putObj_heap_other (Ne.symm hlD)).trans hd3))
    have aga:∀ jump:Option Code,(Instr.endRound l jump).run P w2 = .ok (.bool jump.isNone) (w2.putObj l (.loop (rec (if jump.isNone then .ready else .done) jump))):=fun jump=>by
     have:=run_endRound (P:=P) jump hl3;rw[hrec] at this ⊢;exact this
    have fin2:∀ (jump:Option Code) (s':Sta) (C':Com) (ρ':Rho),Inv G { B0 with objs:=rcO D l { rec .ready none with state:=.busy } } s' C' ρ' a2 w2→Inv G { B0 with objs:=rcO D l (rec (if jump.isNone then .ready else .done) jump) } (o6 s'.H s'.nx s.n) C' ρ' { tmps:=a.tmps,defers:=[] }
     (w2.putObj l (.loop (rec (if jump.isNone then .ready else .done) jump))):=fun jump s' C' ρ' h=>by
     have h1:=fin jump s' C' ρ' h;exact ⟨⟨fun _=>.junk _,hts,h1.rel.h,trivial,trivial⟩,h1.nx,h1.ext,h1.glob,h1.marks.bare⟩
    cases e with
    | normal=>
     obtain ⟨s3,he3,hn3,hI3⟩:=hq;obtain ⟨C3,ρ3,hi4⟩:=he3 G { B0 with objs:=rcO D l { rec .ready none with state:=.busy } } a2 w2 hBl ⟨C2,ρ2,hi3⟩;refine ⟨_,_,aga none,.inl ⟨rfl,?_⟩⟩;rw[hJ];have h5:=fin2 none s3 C3 ρ3 hi4;rw[hn3] at h5;exact ⟨s3.H,C3,ρ3,hI3,h5⟩
    | ret=>
     obtain ⟨s3,he3,hq⟩:=hq;obtain ⟨C3,ρ3,hi4⟩:=he3 G { B0 with objs:=rcO D l { rec .ready none with state:=.busy } } a2 w2 hBl ⟨C2,ρ2,hi3⟩;refine ⟨_,_,aga (some .ret),.inr ⟨rfl,?_⟩⟩;rw[hJx];exact ⟨.ret,s3,C3,ρ3,.inl ⟨rfl,hq⟩,fin2 (some .ret) s3 C3 ρ3 hi4⟩
    | exit id=>
     obtain ⟨s3,he3,hq⟩:=hq;obtain ⟨C3,ρ3,hi4⟩:=he3 G { B0 with objs:=rcO D l { rec .ready none with state:=.busy } } a2 w2 hBl ⟨C2,ρ2,hi3⟩;refine ⟨_,_,aga (some (.exit id)),.inr ⟨rfl,?_⟩⟩;rw[hJx];exact ⟨.exit id,s3,C3,ρ3,.inr ⟨id,rfl,hq⟩,fin2 (some (.exit id)) s3 C3 ρ3 hi4⟩
    | goto t=>exact hq.elim
    | panic c=>exact hq.elim
    | outgrown=>exact hq.elim
 have back:∀ {W:World} {r:Loop} {h:ba} {nx:Nat} {C':Com} {ρ':Rho},Inv G { B0 with objs:=rcO D l r } (o6 h nx s.n) C' ρ' { tmps:=a.tmps,defers:=[] } W→
  Inv G B { s with H:=h,nx:=nx } C' ρ' { a with defers:=[{ target:=.collected D,args:=#[] }]++a.defers } (W.putObj l (.loop { r with state:=.exhausted })):=fun {W r h nx C' ρ'} hv=>by
  obtain ⟨xt,si⟩:=recs hv;have zj:=hv.turn (o':=.loop { r with state:=.exhausted }) (by simp only[hBw];omega) xt (fun _=>none) (fun _ _ h=>nomatch h)
  have he:=hBe zj.ext;have hm:=hi.marks.ext hi.rel.h he;have hDsz:D<W.heap.size:=(Array.getElem?_eq_some_iff.1 si).1;refine ⟨⟨fun t=>(hi.rel.tm t).mono he,hi.rel.size,zj.rel.h,trivial,trivial⟩,zj.nx,hi.ext.trans he,zj.glob,?_,fun d hd=>?_,hm.2.2⟩
  · refine List.nodup_cons.2 ⟨fun hd=>?_,hi.marks.1⟩
    obtain ⟨E,_,hE,hE2⟩:=hi.marks.2.1 _ hd;have:D=E:=by cases hE;rfl
    have:=(Array.getElem?_eq_some_iff.1 hE2).1;omega
  · rcases List.mem_cons.1 hd with rfl|hd
    · exact ⟨D,by have:=hi.ext.size;omega,rfl,(World.putObj_heap_other (Ne.symm hlD)).trans si⟩
    · exact hm.2.1 d hd
 refine ⟨l,[{ target:=.collected D,args:=#[] }],W1,{ target:=.fn (.func gf) ⟨lb⟩,args:=#[.func (.yield l) #[] #[]] },W1,gf,#[.func (.yield l) #[] #[]]++⟨lb⟩,W1,?_,?_,?_,?_,fun _=>by decide,?_⟩
 · rw[← hW1,hrec,hl,hD];exact run_enterLoop_outer _ _ _ _ _
 · simp only[resolve,hgv];simp[go_sem]
 · intro f' hf';trivial
 · simp[invoke,go_sem,agr]
 · refine iv.mono ?_;rintro e W' ⟨⟨v,rfl⟩,hj|hx⟩
   · rw[hJ] at hj;obtain ⟨h,C',ρ',hI,hv⟩:=hj;obtain ⟨xt,_⟩:=recs hv;refine ⟨_,_,run_endLoop xt (by rw[hrec];simp),?_⟩
     rw[hrec];refine ⟨_,ai2 h (by rw[← hyl];exact hI),C',ρ',?_⟩
     have:=back hv;rw[hrec] at this;exact this
   · rw[hJx] at hx;obtain ⟨c,s1,C',ρ',hc,hv⟩:=hx;obtain ⟨xt,_⟩:=recs hv;refine ⟨_,_,run_endLoop xt (by rw[hrec];simp),?_⟩
     have hb:=back hv;rw[hrec] at hb ⊢;rcases hc with ⟨rfl,hq⟩|⟨id,rfl,hq⟩
     · exact wpIn_ret ⟨_,hq,C',ρ',hb⟩
     · exact wpIn_exit ⟨_,hq,C',ρ',hb⟩
def kj(dj:List (List D)):List (List AV):=(List.range dj.length).map fun (k:Nat)=>[.d (.int .i64 ((dj.length:Int)-1-k)),.agg ((dj.getD (dj.length-1-k) []).map .d)]
def aad(P:Program)(f:FuncId)(sz:Nat):Prop:=∀ (H:ba) (b0:Nat) (blk:Blk) (dj:List (List D)),H b0=some blk→blk.rows=[[.d (.sl dj)]]→blk.fz=true→(∀ r∈dj,r.length=sz)→dj.length≤140737488355328→
 adh P f [.ptr b0 1 0 0] H (kj dj) (fun _=>False)
end Am

namespace Am
open Go
variable {P:Program}{G:bl}
theorem alg{q:SA}(h:im q=true):∀ e:Env,q.val e = .sl []:=by
 intro e;cases q with
 | v x=>simp[im] at h
 | c d=>cases d with
  | sl xs=>cases xs with
   | nil=>rfl
   | cons=>simp[im] at h
  | _=>simp[im] at h
theorem azx{k:SB}(h:im k.d=true)(e:Env):k.len e=k.tl.length:=by simp[SB.len,alg h e,D.rows]
theorem qwf{e:Env}{H:List (Option SB)}{b:Nat}{k:SB}(hb:am H b=some k)(h:im k.d=true):ae e H b=k.tl.length:=by rw[qr hb,azx h]
theorem qcv{H:List (Option SB)}{v:SV}(h:ub H v=true){e a b:Env}(hok:v.ok e.length=true):v.inst (e++a) (ae (e++a) H)=v.inst (e++b) (ae (e++b) H):=by
 unfold ub at h
 split at h
 · simp only[SV.inst];rw[SA.val_ext' a hok,SA.val_ext' b hok]
 · rfl
 · rename_i c _ _;unfold iq at h
   split at h
   · rename_i k hk;simp only[SV.inst];rw[qwf hk h,qwf hk h]
   · cases h
 · rename_i c _ _;unfold iq at h
   split at h
   · rename_i k hk;simp only[SV.inst,SV.instL];rw[qwf hk h,qwf hk h]
   · cases h
 · cases h
theorem avw(H:List (Option SB))(v:SV):wm H v = .junk∨ub H (wm H v)=true:=by
 unfold wm
 by_cases h:ub H v=true
 · rw[if_pos h];exact .inr h
 · rw[if_neg h];exact .inl rfl
theorem arg(H:List (Option SB)):wm H .junk = .junk:=by unfold wm;split<;>rfl
structure vk(e:Env)(σL:SS)(s0:Sta):Prop where
 n:s0.n=σL.n
 ok:∀ t,(bo σL.tm t).ok e.length=true
 st:∀ t,bo σL.tm t = .junk∨ub σL.H (bo σL.tm t)=true
 wk:∀ t,Wk (s0.tm t) ((bo σL.tm t).inst e (ae e σL.H))
theorem vk.inst{e:Env}{σL:SS}{s0:Sta}(h:vk e σL s0)(o:Env)(t:Nat):Wk (s0.tm t) ((bo σL.tm t).inst (e++o) (ae (e++o) σL.H)):=by
 rcases h.st t with hj|hs
 · rw[hj];exact .junk _
 · have h1:=h.wk t;have h2:=qcv hs (e:=e) (a:=[]) (b:=o) (h.ok t);rw[List.append_nil] at h2;rw[← h2];exact h1
theorem vk.sat{e o:Env}{σL:SS}{s0:Sta}(h:vk e σL s0){s1:Sta}(hS:Sat (e++o) { σL with tm:=[] } s1):Sat (e++o) σL { s0 with H:=s1.H,nx:=s1.nx }:=by
 refine ⟨hS.wf,fun t=>SV.ok_mono (by simp) (h.ok t),hS.H,hS.sl,⟨h.n,hS.wk.nx,fun t=>h.inst o t,hS.wk.H⟩⟩
theorem qgp(HL H:List (Option SB)):vu HL H .junk = .junk:=rfl
theorem vk.rest{e o:Env}{σL σ:SS}{s0 s:Sta}(h:vk e σL s0)(hS:Sat (e++o) σ s):Sat (e++o) (σL.rest σ) { s0 with H:=s.H,nx:=s.nx }:=by
 refine ⟨hS.wf,fun t=>?_,hS.H,hS.sl,⟨h.n,hS.wk.nx,fun t=>?_,hS.wk.H⟩⟩
 · show (bo (σL.tm.map (vu σL.H σ.H)) t).ok _=true
   rw[qwd (qgp _ _)];have hk:=SV.ok_mono (m':=(e++o).length) (by simp) (h.ok t)
   generalize bo σL.tm t=v at hk;cases v<;>simp only[vu]<;>first|exact hk|rfl|skip
   split<;>rfl
 · show Wk (s0.tm t) ((bo (σL.tm.map (vu σL.H σ.H)) t).inst (e++o) (ae (e++o) σ.H))
   rw[qwd (qgp _ _)];have h1:=h.inst o t;generalize bo σL.tm t=v at h1;cases v with
   | atm a=>exact h1
   | nils=>exact h1
   | ptr b i j=>
    simp only[vu]
    split
    · rename_i hb;unfold sameBox at hb
      split at hb
      · rename_i k k' hk lu;simp only[Bool.and_eq_true,beq_iff_eq] at hb;simp only[SV.inst] at h1 ⊢;rw[qwf hk hb.1.1] at h1;rw[qwf lu hb.1.2,← hb.2];exact h1
      · cases hb
    · exact .junk _
   | _=>exact .junk _
theorem qkt{kk:Nat}:∀ (c:Code),lm c=true→∀ {Q:Exit→Sta→Prop} {s:Sta},awp P G kk c Q s→awp P G kk c (fun e s=>e = .normal∧Q .normal s) s:=by
 intro c
 induction c with
 | region id ops draw=>
  intro _ Q s h
  have key:∀ {l:List SO} {s:Sta},r7 P G kk (Q .normal) l s→r7 P G kk (fun s=>Exit.normal=Exit.normal∧Q .normal s) l s:=fun {l s} h=>by
   have:(fun s=>Exit.normal=Exit.normal∧Q .normal s)=Q .normal:=by funext s;simp
   rw[this];exact h
  cases draw with
  | false=>exact key h
  | true=>
   have:(fun s=>Exit.normal=Exit.normal∧Q .normal s)=Q .normal:=by funext s;simp
   refine ⟨h.1,?_⟩;have h2:=h.2
   simpa using h2
 | seq a b iha ihb=>
  intro hs Q s h;simp only[lm,Bool.and_eq_true] at hs
  show awp P G kk a _ s
  refine qyg (fun e s hh=>?_) (iha hs.1 h)
  obtain ⟨rfl,s',he,hb⟩:=hh;exact ⟨s',he,ihb hs.2 hb⟩
 | _=>intro hs;cases hs
theorem wrapI64{n:Int}(h0:-9223372036854775808≤n)(h1:n<9223372036854775808):IntKind.i64.wrap n=n:=by
 simp[IntKind.wrap,IntKind.bits,IntKind.signed];omega
theorem ayn{e e':Env}{m sz:Nat}{q:SA}(hm:e.length=m)(hqo:q.ok m=true)(he:EWF e)(h:db (xa m sz q) e=some e') :
 ∃ (dj:List (List D)) (o:Env),q.val e = .sl dj∧(∀ r∈dj,∀ c∈r,D.WF c)∧e' = e++o∧o.length=3∧EWF o∧o[2]? = some (.int .i64 ((dj.length:Int)-1))∧(∀ r∈dj,r.length=sz)∧dj.length≤140737488355328:=by
 have hvv:∀ (e:Env) (x:Nat),SA.val e (.v x)=e.getD x dfl:=fun _ _=>rfl
 have hvc:∀ (e:Env) (d:D),SA.val e (.c d)=d:=fun _ _=>rfl
 obtain ⟨dj,hq⟩:∃ dj,q.val e = .sl dj:=by
  simp only[xa,db,List.map_cons,List.map_nil] at h
  split at h
  · rename_i o2 h2;generalize q.val e=d at h2;cases d with
    | sl dj=>exact ⟨dj,rfl⟩
    | _=>simp[PO.eval] at h2
  · cases h
 have jb:∀ r∈dj,∀ c∈r,D.WF c:=by
  have:=EWF.map he (l:=[q]) (by rw[hm];simpa using hqo)
  have:=this (q.val e) (by simp)
  rw[hq] at this;cases this with
  | sl _ h=>exact h
 refine ⟨dj,?_⟩;simp only[xa,db,List.map_cons,List.map_nil,hq,hvv,hvc] at h;have e1:PO.eval .lenL [.sl dj]=some [.int .i64 dj.length]:=rfl;simp only[e1] at h;have q1:q.val (e++[.int .i64 dj.length]) = .sl dj:=by rw[SA.val_ext _ (by rw[hm];exact hqo)];exact hq
 have v1:(e++[D.int .i64 dj.length]).getD m dfl = .int .i64 dj.length:=by rw[← hm];simp
 simp only[q1,v1] at h
 split at h
 · rename_i o2 h2;simp only[PO.eval] at h2
   split at h2
   · rename_i hc;cases h2;have q2:q.val (e++[.int .i64 dj.length]++[.sl ((dj.take ((dj.length:Int)).toNat).drop (0:Int).toNat)]) = .sl dj:=by rw[SA.val_ext _ (by simp only[List.length_append,hm];exact SA.ok_mono (by omega) hqo)];exact q1
     simp only[q2] at h
     split at h
     · rename_i o3 h3;simp only[PO.eval] at h3
       split at h3
       · rename_i hr;cases h3;have v2:(e++[D.int .i64 dj.length]++[D.sl ((dj.take ((dj.length:Int)).toNat).drop (0:Int).toNat)]++[]).getD m dfl = .int .i64 dj.length:=by rw[← hm];simp
         simp only[v2] at h;have e4:PO.eval (.bin .sub false) [.int .i64 (dj.length:Int),.int .i64 1]=some [.int .i64 (IntKind.i64.wrap ((dj.length:Int)-1))]:=rfl;simp only[e4] at h;cases h;have hw:IntKind.i64.wrap ((dj.length:Int)-1)=(dj.length:Int)-1:=Am.wrapI64 (by omega) (by omega)
         refine ⟨[.int .i64 dj.length,D.sl ((dj.take ((dj.length:Int)).toNat).drop (0:Int).toNat),.int .i64 (IntKind.i64.wrap ((dj.length:Int)-1))],hq,jb,by simp,rfl,?_,by simp[hw],fun r ei=>?_,by omega⟩
         · intro d hd;simp only[List.mem_cons,List.not_mem_nil,or_false] at hd;rcases hd with rfl|rfl|rfl
           · exact .int _ _
           · refine .sl _ fun r ei c hc'=>jb r ?_ c hc'
             exact List.mem_of_mem_take (List.mem_of_mem_drop ei)
           · exact .int _ _
         · have:=List.all_eq_true.1 hc.2.2.2 r ei
           simpa using this
       · cases h3
     · cases h
   · cases h2
 · cases h
theorem qfy{gi:GI}{σ:SS}{g:Operand}{b sz:Nat}{q:SA}(h:wq gi σ g=some (b,sz,q)):∃ (f:FuncId) (k:SB),sev gi.SG σ g = .clo f [] [.ptr b 0 0]∧pj gi.backs f=some sz∧am σ.H b=some k∧k.tl=[[.atm q]]∧im k.d=true:=by
 unfold wq at h
 split at h
 · rename_i f b0 hs
   split at h
   · rename_i sz0 k hf hk
     split at h
     · rename_i q0 ht
       split at h
       · rename_i hn;simp only[Option.some.injEq,Prod.mk.injEq] at h;obtain ⟨rfl,rfl,rfl⟩:=h;exact ⟨f,k,hs,hf,hk,ht,hn⟩
       · cases h
     · cases h
   · cases h
 · cases h
theorem Sat.bare{e:Env}{σ:SS}{s:Sta}{h:ba}{nx n:Nat}(hS:Sat e σ s)(hh:s.H=h)(hx:s.nx=nx)(hn:s.n=n):Sat e { σ with tm:=[] } (o6 h nx n):=by
 subst hh hx hn;exact ⟨hS.wf,fun t=>by cases t<;>rfl,hS.H,hS.sl,⟨hS.wk.n,hS.wk.nx,fun t=>(by show Wk .junk ((bo [] t).inst e (ae e σ.H));cases t<;>exact .junk _),hS.wk.H⟩⟩
theorem Sat.put{e:Env}{σ:SS}{s:Sta}(hS:Sat e σ s)(p:Nat){v:SV}{x:AV}(hv:v.ok e.length=true)(hx:Wk x (v.inst e (ae e σ.H))):Sat e { σ with tm:=jc σ.tm p v } { s with tm:=nr s.tm p x }:=by
 refine ⟨hS.wf,fun t=>?_,hS.H,hS.sl,⟨hS.wk.n,hS.wk.nx,fun t=>?_,hS.wk.H⟩⟩
 · show (bo (jc σ.tm p v) t).ok _=true
   rw[qee]
   split
   · exact hv
   · exact hS.tm t
 · show Wk (nr s.tm p x t) ((bo (jc σ.tm p v) t).inst e (ae e σ.H))
   rw[qee];unfold nr
   by_cases h:t=p
   · rw[if_pos h,if_pos h];exact hx
   · rw[if_neg h,if_neg h];exact hS.get t
theorem aka{M:Nat}:∀ (n m:Nat),m+n≤M→SV.okL M ((vars m n).map .atm)=true
 | 0,_,_=>rfl
 | n+1,m,h=>by
  simp only[vars,List.map_cons,SV.okL,Bool.and_eq_true];exact ⟨by simp[SV.ok];omega,aka n (m+1) (by omega)⟩
end Am
