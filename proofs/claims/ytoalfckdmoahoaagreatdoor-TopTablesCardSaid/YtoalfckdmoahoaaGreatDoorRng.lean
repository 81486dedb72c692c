/- The abstract machine and its reader: lemmas. -/
import Derived.Test.YtoalfckdmoahoaaGreatDoorAm9
import Derived.Test.YtoalfckdmoahoaaGreatDoorSe7
import Derived.RangeFuncRecord
import Derived.RangeFuncIn
import Derived.RangeFuncSeq
set_option linter.unusedSimpArgs false
set_option linter.unusedVariables false
set_option linter.unusedSectionVars false
namespace Am
open Go Go.RowKit
variable {P:Program} {G:Glob}
structure SameBut (X:Nat→Prop) (w w':World):Prop where
 same:∀ r,r<w.heap.size→¬ X r→w'.heap[r]? = w.heap[r]?
 size:w.heap.size≤w'.heap.size
 os:w'.os=w.os
 tape:w'.tape=w.tape
 output:w'.output=w.output
def newX (X:Nat→Prop) (w w':World):Nat→Prop:=fun r=>X r∨(w.heap.size≤r∧r<w'.heap.size)
def noX:Nat→Prop:=fun _=>False
structure Abide (w:World) (C:Com) (J:(Nat→Prop)→World→Prop):Prop where
 cell:∀ X W,J X W→∀ r o,C r o→W.cell? ⟨r,o,none⟩ = w.cell? ⟨r,o,none⟩
 grow:∀ X W W',J X W→SameBut X W W'→J (newX X W W') W'
def SeqIn (P:Program) (gf:FuncId) (lb:Array Value) (ys:List (Array Value)) (w:World) (C:Com):Prop:=
 ∀ (l:Nat) (J:Nat→(Nat→Prop)→World→Prop) (Jx:(Nat→Prop)→World→Prop) (W:World),(∀ k,Abide w C (J k))→Abide w C Jx→
  (∀ k (hk:k<ys.length) X W,J k X W→YieldAt (Fe none) 3 P l ys[k] W fun e W'=>((e = .returned (.bool true)∧J (k+1) X W')∨(e = .returned (.bool false)∧Jx X W'))∧∀ r,X r→W'.heap[r]? = W.heap[r]?)→
  J 0 noX W→CallsIn (Fe none) 4 P gf (#[.func (.yield l) #[] #[]]++lb) W fun e W'=>(∃ v,e = .returned v)∧∃ X,J ys.length X W'∨Jx X W'
def SeqAV (P:Program) (gf:FuncId) (caps:List AV) (H:Heap) (rows:List (List AV)):Prop:=
 (∀ args w,(callFunc gf args).run P w = .ok (.enter gf args) w)∧
 ∀ (w:World) (C:Com) (ρ:Rho) (lb:List Value),RelH w C ρ H→RepAll w C ρ H caps lb→∃ (ys:List (Array Value)),ys.length=rows.length∧
  (∀ k (h:k<rows.length) (h':k<ys.length),RepAll w C ρ H rows[k] (ys[k]).toList)∧SeqIn P gf ⟨lb⟩ ys w C
def putTs (tm:Nat→AV):List Nat→List AV→Nat→AV
 | p::ps,x::xs=>putTs (putT tm p x) ps xs
 | _,_=>tm
theorem RelT.puts {w:World} {C:Com} {ρ:Rho} {H:Heap} {n:Nat}:∀ (ps:List Nat) (xs:List AV) (vs:List Value) (tm:Nat→AV) (tmps:Array Value),RelT tm n H C ρ { tmps:=tmps,defers:=[] } w→(∀ p∈ps,p<n)→RepAll w C ρ H xs vs→ps.length=vs.length→
 RelT (putTs tm ps xs) n H C ρ { tmps:=(ps.zip vs).foldl (fun t (p,v)=>t.setIfInBounds p v) tmps,defers:=[] } w:=by
 intro ps
 induction ps with
 | nil=>intro xs vs tm tmps h _ _ _;simpa [putTs] using h
 | cons p ps ih=>
  intro xs vs tm tmps h hp hv hl;obtain ⟨h1,h2⟩:=hv
  match vs,xs,hl,h1,h2 with
  | v::vs,x::xs,hl,h1,h2=>
   simp only[putTs,List.zip_cons_cons,List.foldl_cons];have hx:=h2 0 (by simp) (by simp)
   simp only[List.getElem_cons_zero] at hx;have h3:=h.put (d:=some p) h.h (.refl _ _ _ _) (hp p (by simp)) hx
   refine ih xs vs (putT tm p x) (tmps.setIfInBounds p v) h3 (fun q hq=>hp q (by simp[hq])) ⟨by simpa using h1,fun i hi hi'=>?_⟩ (by simpa using hl)
   have:=h2 (i+1) (by simp;omega) (by simp;omega)
   simpa using this
def rndQ (I:Nat→Heap→Prop) (j:Nat) (Q:Exit→Sta→Prop) (s:Sta):Exit→Sta→Prop:=fun e s1=>match e with
 | .normal=>∃ s',Ent s.nx s1 s'∧s'.nx=s.nx∧I (j+1) s'.H
 | .ret=>∃ s',Ent s.nx s1 s'∧Q .ret { s with H:=s'.H,nx:=s'.nx }
 | .exit id=>∃ s',Ent s.nx s1 s'∧Q (.exit id) { s with H:=s'.H,nx:=s'.nx }
 | _=>False
def junkS (h:Heap) (nx n:Nat):Sta:=⟨fun _=>.junk,h,nx,n⟩
theorem Inv.forget {B:Beg} {s:Sta} {C:Com} {ρ:Rho} {a:Act} {w:World} (h:Inv G B s C ρ a w) (tmps:Array Value) (hs:tmps.size=s.n):Inv G B (junkS s.H s.nx s.n) C ρ { tmps:=tmps,defers:=[] } w:=
 ⟨⟨fun _=>.junk _,hs,h.rel.h,trivial,trivial⟩,h.nx,h.ext,h.glob,h.marks.bare,fun _=>rfl⟩
theorem Inv.objs {B:Beg} {s:Sta} {C:Com} {ρ:Rho} {a:Act} {w:World} (h:Inv G B s C ρ a w) (O:Nat→Option Obj) (ho:∀ r o,O r=some o→w.heap[r]? = some o∧o.isCells=false):Inv G { B with objs:=O } s C ρ a w:=
 ⟨h.rel,h.nx,h.ext,h.glob,⟨h.marks.1,h.marks.2.1,ho⟩,h.nom⟩
theorem Inv.turn {B:Beg} {s:Sta} {C:Com} {ρ:Rho} {a:Act} {w:World} (h:Inv G B s C ρ a w) {l:Nat} {r:Loop} {o':Obj} (hl:B.w.heap.size≤l) (ho:w.heap[l]? = some (.loop r)) (O:Nat→Option Obj)
 (hO:∀ r x,O r=some x→(w.putObj l o').heap[r]? = some x∧x.isCells=false):Inv G { B with objs:=O } s C ρ a (w.putObj l o'):=by
 have h1:=h.objs (fun _=>none) (fun _ _ h=>nomatch h)
 have hm:Marks (fun _=>none) B.w.heap.size (w.putObj l o') a.defers:=by
  refine ⟨h.marks.1,fun d hd=>?_,fun _ _ h=>nomatch h⟩
  obtain ⟨D,h0,rfl,hD⟩:=h.marks.2.1 d hd;refine ⟨D,h0,rfl,(World.putObj_heap_other fun e=>?_).trans hD⟩
  subst e;rw[ho] at hD;cases hD
 have h2:=Inv.grown h1 (grownBy_putObj' w l o') (fun r e=>by cases e;exact ⟨hl,_,ho,rfl⟩) hm
 exact h2.objs O hO
theorem Inv.more {B:Beg} {s:Sta} {C:Com} {ρ:Rho} {a:Act} {w w':World} (h:Inv G B s C ρ a w) (hg:w.grownBy w' none):Inv G B s C ρ a w':=by
 refine Inv.grown h hg (fun r e=>by cases e) ⟨h.marks.1,fun d hd=>?_,fun r o ho=>?_⟩
 · obtain ⟨D,h0,rfl,hD⟩:=h.marks.2.1 d hd;exact ⟨D,h0,rfl,(hg.block D (Array.getElem?_eq_some_iff.1 hD).1 (by simp)).trans hD⟩
 · obtain ⟨h1,h2⟩:=h.marks.2.2 r o ho;exact ⟨(hg.block r (Array.getElem?_eq_some_iff.1 h1).1 (by simp)).trans h1,h2⟩
theorem Inv.sames {B:Beg} {s:Sta} {C:Com} {ρ:Rho} {a:Act} {w w':World} {X:Nat→Prop} (hi:Inv G B s C ρ a w) (hs:SameBut X w w') (hX:∀ r,X r→B.w.heap.size≤r∧¬ OwnRow ρ s.H r∧(∀ o,¬ C r o)∧B.objs r=none)
 (hd:a.defers=[]):Inv G B s C ρ a w':=by
 have hc:∀ r o,C r o→w'.cell? ⟨r,o,none⟩ = w.cell? ⟨r,o,none⟩:=fun r o h=>qpb (hs.same r (hi.rel.h.com_lt h) fun hx=>(hX r hx).2.2.1 o h)
 have e:Ext0 w C ρ s.H w' C ρ s.H:=⟨fun _ _ h=>h,hc,fun b blk h=>⟨blk,h,rfl,Nat.le_refl _,fun _=>rfl⟩⟩
 have kept:∀ r,OwnRow ρ s.H r→w'.heap[r]? = w.heap[r]?:=fun r ho=>hs.same r (hi.rel.h.row_lt ho) fun hx=>(hX r hx).2.1 ho
 refine ⟨⟨fun t=>(hi.rel.tm t).mono0 e,hi.rel.size,⟨fun b blk hb=>?_,hi.rel.h.dis,fun r o h=>?_⟩,trivial,trivial⟩,hi.nx,?_,hi.glob.mono e.com e.cell,?_,hi.nom⟩
 · exact (hi.rel.h.blk b blk hb).ext0 e rfl (fun r s' hr=>kept r ⟨b,s',by rw[hb];rfl,hr⟩) fun _ _ _ _ _ h=>h
 · obtain ⟨v,hv⟩:=hi.rel.h.com r o h;exact ⟨v,by rw[hc r o h];exact hv⟩
 · have x:=hi.ext
   exact ⟨x.com,fun r o h=>(hc r o (x.com r o h)).trans (x.cell r o h),x.blk,hs.os.trans x.os,hs.tape.trans x.tape,hs.output.trans x.output,Nat.le_trans x.size hs.size,
    fun r hr hn=>(hs.same r (Nat.lt_of_lt_of_le hr x.size) fun h=>by have:=(hX r h).1;omega).trans (x.same r hr hn),x.rows,x.grow⟩
 · rw[hd];refine ⟨List.nodup_nil,(fun _ h=>nomatch h),fun r o ho=>?_⟩
   obtain ⟨h1,h2⟩:=hi.marks.2.2 r o ho;exact ⟨(hs.same r (Array.getElem?_eq_some_iff.1 h1).1 fun h=>by have:=(hX r h).2.2.2;rw[this] at ho;cases ho).trans h1,h2⟩
theorem Ext.turn {w w':World} {C C':Com} {ρ ρ':Rho} {H H':Heap} (hR:RelH w C ρ H) (hR':RelH w' C' ρ' H') (e:Ext w C ρ H w' C' ρ' H') {l:Nat} {r:Loop} {o':Obj} (ho:w.heap[l]? = some (.loop r)) (ho':w'.heap[l]? = some (.loop r)) :
 Ext (w.putObj l o') C ρ H (w'.putObj l o') C' ρ' H':=by
 have nc:∀ x,w.heap[l]? = some x→x.isCells=false:=fun x hx=>by rw[ho] at hx;cases hx;rfl
 have hne:∀ r o,C r o→r≠l:=fun r o hc e=>by
  subst e;obtain ⟨v,hv⟩:=hR.com r o hc;rw[qsb,ho] at hv;cases hv
 have hls:=(Array.getElem?_eq_some_iff.1 ho).1;have hls':=(Array.getElem?_eq_some_iff.1 ho').1;refine ⟨e.com,fun r o hc=>?_,e.blk,?_,?_,?_,?_,fun r hr hn=>?_,fun r hr=>?_,fun r o hc=>?_⟩
 · rw[qpb (World.putObj_heap_other (hne r o hc)),qpb (World.putObj_heap_other (hne r o hc))];exact e.cell r o hc
 · exact e.os
 · exact e.tape
 · exact e.output
 · have:=e.size;simpa using this
 · by_cases hrl:r=l
   · subst hrl;rw[World.putObj_heap_same hls,World.putObj_heap_same hls']
   · rw[World.putObj_heap_other hrl,World.putObj_heap_other hrl];exact e.same r (by simpa using hr) hn
 · have:=e.rows r hr;simpa using this
 · have:=e.grow r o hc;simpa using this
def fullL (H:Heap) (n:Nat):List Blk:=(List.range n).map fun b=>(H b).getD ⟨true,false,0,0,[]⟩
theorem qsh {H:Heap} {n:Nat} (h1:∀ b,b<n→(H b).isSome=true) (h2:∀ b,n≤b→H b=none):hOf (fullL H n)=H:=by
 funext b
 unfold hOf fullL
 by_cases hb:b<n
 · obtain ⟨x,hx⟩:=Option.isSome_iff_exists.1 (h1 b hb);simp[hb,hx]
 · rw[h2 b (by omega)]
   simp;omega
def rcO (D l:Nat) (r:Loop):Nat→Option Obj:=fun x=>if x=l then some (.loop r) else if x=D then some (.deferred (some [])) else none
theorem qgm {k:Nat} {g:Operand} {ps:Array Nat} {assign body:Code} {Q:Exit→Sta→Prop} {s:Sta} {gf:FuncId} {caps:List AV} {rows:List (List AV)}
 (hg:evA G s.tm g = .clo (.func gf) [] caps) (hseq:SeqAV P gf caps s.H rows) (hps:∀ r∈rows,r.length=ps.size) (hpn:∀ p∈ps.toList,p<s.n)
 (hfull:∀ b,b<s.nx→(s.H b).isSome=true) (nra:noRange assign=true) (nrb:noRange body=true)
 (I:Nat→Heap→Prop) (h0:I 0 s.H)
 (hround:∀ j h (hj:j<rows.length),I j h→awp P G s.nx assign (fun e s1=>e = .normal∧∃ s2,Ent s.nx s1 s2∧awp P G s.nx body (rndQ I j Q s) s2) { s with tm:=putTs s.tm ps.toList rows[j],H:=h })
 (hdone:∀ h,I rows.length h→Q .normal { s with H:=h }):awp P G k (.rangeFunc g ps assign body) Q s:=by
 intro B a w hk hnm hi;obtain ⟨C,ρ,hi⟩:=hi;have hgr:=hi.rel.ev hi.glob g;rw[hg] at hgr
 obtain ⟨lb,hgv,hlb⟩:∃ lb:List Value,a.eval g = .func (.func gf) #[] ⟨lb⟩∧RepAll w C ρ s.H caps lb:=by
  generalize a.eval g=v at hgr;cases hgr with
  | clo _ _ _ fv cv hf hc h1 h2=>
   obtain rfl:fv=[]:=List.eq_nil_of_length_eq_zero hf.symm;exact ⟨cv,rfl,hc,h2⟩
 obtain ⟨hent,hseq⟩:=hseq;obtain ⟨ys,hyl,hyr,hsq⟩:=hseq w C ρ lb hi.rel.h hlb;have hHf:=qsh hfull hi.nx;obtain ⟨B0,hB0⟩:∃ B0:Beg,B0=⟨w,C,ρ,fullL s.H s.nx,fun _=>none,false⟩:=⟨_,rfl⟩
 have hBw:B0.w=w:=by rw[hB0]
 have hBl:B0.Hin.length=s.nx:=by rw[hB0];simp[fullL]
 have hBe:∀ {W:World} {C':Com} {ρ':Rho} {H':Heap},Ext B0.w B0.C B0.ρ (hOf B0.Hin) W C' ρ' H'→Ext w C ρ s.H W C' ρ' H':=fun e=>by
  rw[hB0] at e;simp only at e
  rwa [hHf] at e
 obtain ⟨l,hl⟩:∃ l,l=w.heap.size+1:=⟨_,rfl⟩;obtain ⟨D,hD⟩:∃ D,D=w.heap.size:=⟨_,rfl⟩;have hlD:l≠D:=by omega
 have hts:a.tmps.size=s.n:=hi.rel.size;refine wpIn_rangeFunc ?_;intro fn hfn;obtain ⟨rec,hrec⟩:∃ rec:LoopState→Option Code→Loop,rec=fun st pe=>{ state:=st,pending:=pe,fn,tmps:=a.tmps,params:=ps,assign,body,defers:=D }:=⟨_,rfl⟩
 obtain ⟨W1,hW1⟩:∃ W1,(w.alloc (.deferred (some []))).alloc (.loop (rec .ready none))=W1:=⟨_,rfl⟩
 have hL1:W1.heap[l]? = some (.loop (rec .ready none)):=by
  rw[← hW1,hl];have:=World.alloc_heap_new (w.alloc (.deferred (some []))) (.loop (rec .ready none));rwa [World.size_alloc] at this
 have hK1:W1.heap[D]? = some (.deferred (some [])):=by
  rw[← hW1,hD];exact (Below.heap_alloc _ _ _ (by simp)).trans (World.alloc_heap_new w _)
 have hO:∀ {W:World} {r:Loop},W.heap[l]? = some (.loop r)→W.heap[D]? = some (.deferred (some []))→∀ x o,rcO D l r x=some o→W.heap[x]? = some o∧o.isCells=false:=fun h1 h2 x o ho=>by
  unfold rcO at ho
  split at ho
  · rename_i e;subst e;cases ho;exact ⟨h1,rfl⟩
  · split at ho
    · rename_i e;subst e;cases ho;exact ⟨h2,rfl⟩
    · cases ho
 obtain ⟨J,hJ⟩:∃ J:Nat→(Nat→Prop)→World→Prop,J=fun j X W=>∃ h C' ρ',I j h∧Inv G { B0 with objs:=rcO D l (rec .ready none) } (junkS h s.nx s.n) C' ρ' { tmps:=a.tmps,defers:=[] } W∧
  ∀ r,X r→l<r∧r<W.heap.size∧¬ OwnRow ρ' h r∧∀ o,¬ C' r o:=⟨_,rfl⟩
 obtain ⟨Jx,hJx⟩:∃ Jx:(Nat→Prop)→World→Prop,Jx=fun X W=>∃ (c:Code) (s1:Sta) (C':Com) (ρ':Rho),((c = .ret∧Q .ret { s with H:=s1.H,nx:=s1.nx })∨∃ id,c = .exit id∧Q (.exit id) { s with H:=s1.H,nx:=s1.nx })∧
  Inv G { B0 with objs:=rcO D l (rec .done (some c)) } (junkS s1.H s1.nx s.n) C' ρ' { tmps:=a.tmps,defers:=[] } W∧∀ r,X r→l<r∧r<W.heap.size∧¬ OwnRow ρ' s1.H r∧∀ o,¬ C' r o:=⟨_,rfl⟩
 have recs:∀ {W:World} {r:Loop} {s1:Sta} {C':Com} {ρ':Rho} {a':Act},Inv G { B0 with objs:=rcO D l r } s1 C' ρ' a' W→W.heap[l]? = some (.loop r)∧W.heap[D]? = some (.deferred (some [])):=fun h=>
  ⟨(h.marks.2.2 l _ (by simp[rcO])).1,(h.marks.2.2 D _ (by simp[rcO,Ne.symm hlD])).1⟩
 have h00:Inv G B0 (junkS s.H s.nx s.n) C ρ { tmps:=a.tmps,defers:=[] } w:=by
  rw[hB0];exact ⟨⟨fun _=>.junk _,hts,hi.rel.h,trivial,trivial⟩,hi.nx,by simp only;rw[hHf];exact .refl _ _ _ _,hi.glob,Marks.nil _ _,fun _=>rfl⟩
 have hJ0:J 0 noX W1:=by
  rw[hJ];refine ⟨s.H,C,ρ,h0,?_,fun _ h=>h.elim⟩
  have h1:=(h00.more (World.grownBy_alloc w (.deferred (some [])) none)).more (World.grownBy_alloc _ (.loop (rec .ready none)) none);rw[hW1] at h1;exact h1.objs _ (hO hL1 hK1)
 have hrun:CallsIn (Fe none) 4 P gf (#[.func (.yield l) #[] #[]]++⟨lb⟩) W1 fun e W'=>(∃ v,e = .returned v)∧∃ X,J ys.length X W'∨Jx X W':=by
  have rc_none:∀ (r:Nat) (x:Loop),l<r→rcO D l x r=none:=fun r x hr=>by unfold rcO;rw[if_neg (by omega),if_neg (by omega)]
  have grw:∀ {W W':World} {X:Nat→Prop} {x:Loop} {h:Heap} {nx:Nat} {C':Com} {ρ':Rho},Inv G { B0 with objs:=rcO D l x } (junkS h nx s.n) C' ρ' { tmps:=a.tmps,defers:=[] } W→(∀ r,X r→l<r∧r<W.heap.size∧¬ OwnRow ρ' h r∧∀ o,¬ C' r o)→SameBut X W W'→
   Inv G { B0 with objs:=rcO D l x } (junkS h nx s.n) C' ρ' { tmps:=a.tmps,defers:=[] } W'∧∀ r,newX X W W' r→l<r∧r<W'.heap.size∧¬ OwnRow ρ' h r∧∀ o,¬ C' r o:=fun {W W' X x h nx C' ρ'} hv hX hgr=>by
   refine ⟨hv.sames hgr (fun r hr=>⟨?_,(hX r hr).2.2.1,(hX r hr).2.2.2,rc_none r _ (hX r hr).1⟩) rfl,fun r hr=>?_⟩
   · have:=(hX r hr).1;simp only[hBw];omega
   · rcases hr with hr|⟨hr1,hr2⟩
     · obtain ⟨x1,x2,x3,x4⟩:=hX r hr;exact ⟨x1,Nat.lt_of_lt_of_le x2 hgr.size,x3,x4⟩
     · have hls:=(Array.getElem?_eq_some_iff.1 (recs hv).1).1;exact ⟨by omega,hr2,fun ho=>by have:=hv.rel.h.row_lt ho;omega,fun o hc=>by have:=hv.rel.h.com_lt hc;omega⟩
  refine hsq l J Jx W1 (fun j=>⟨fun X W hj r o hc=>?_,fun X W W' hj hgr=>?_⟩) ⟨fun X W hj r o hc=>?_,fun X W W' hj hgr=>?_⟩ (fun j hj X W hjw=>?_) hJ0
  · rw[hJ] at hj;obtain ⟨h,C',ρ',hI,hv,_⟩:=hj;exact (hBe hv.ext).cell r o hc
  · rw[hJ] at hj ⊢;obtain ⟨h,C',ρ',hI,hv,hX⟩:=hj;exact ⟨h,C',ρ',hI,grw hv hX hgr⟩
  · rw[hJx] at hj;obtain ⟨c,s1,C',ρ',_,hv,_⟩:=hj;exact (hBe hv.ext).cell r o hc
  · rw[hJx] at hj ⊢;obtain ⟨c,s1,C',ρ',hc,hv,hX⟩:=hj;exact ⟨c,s1,C',ρ',hc,grw hv hX hgr⟩
  · rw[hJ] at hjw;obtain ⟨h,C',ρ',hI,hv,hX⟩:=hjw;obtain ⟨hl1,hd1⟩:=recs hv;have hj':j<rows.length:=by omega
    have hrl:(ys[j]).size=ps.size:=by
     have:=(hyr j hj' hj).1;rw[hps _ (List.getElem_mem hj')] at this
     simpa using this.symm
    have hy:=run_yield (P:=P) (args:=ys[j]) hl1 (by rw[hrec];exact hrl)
    rw[hrec] at hy;refine ⟨fn,_,assign,body,hy,roundIn_of_wpIn hfn ?_⟩;have hT:RelT s.tm s.n h C' ρ' { tmps:=a.tmps,defers:=[] } W:=⟨fun t=>(hi.rel.tm t).mono (hBe hv.ext),hts,hv.rel.h,trivial,trivial⟩
    have hT1:=RelT.puts ps.toList rows[j] (ys[j]).toList s.tm a.tmps hT hpn ⟨(hyr j hj' hj).1,fun i h1 h2=>((hyr j hj' hj).2 i h1 h2).mono (hBe hv.ext)⟩ (by simpa using hrl.symm)
    have hfold:(ps.zip ys[j]).foldl (fun (t:Array Value) (x:Nat × Value)=>match x with|(p,v)=>t.setIfInBounds p v) a.tmps=(ps.toList.zip (ys[j]).toList).foldl (fun (t:Array Value) (x:Nat × Value)=>match x with|(p,v)=>t.setIfInBounds p v) a.tmps:=by
     rw[← Array.foldl_toList,Array.toList_zip]
    have hfull':∀ b,b<s.nx→(h b).isSome=true:=fun b hb=>by
     obtain ⟨x,hx⟩:=Option.isSome_iff_exists.1 (hfull b hb);obtain ⟨y,hy,_⟩:=(hBe hv.ext).blk b x hx;have hy:h b=some y:=hy;rw[hy];rfl
    have hHfh:=qsh hfull' hv.nx;obtain ⟨BW,hBW⟩:∃ BW:Beg,BW=⟨W,C',ρ',fullL h s.nx,rcO D l (rec .ready none),false⟩:=⟨_,rfl⟩;have hBWl:BW.Hin.length=s.nx:=by rw[hBW];simp[fullL]
    have hInv:Inv G BW { s with tm:=putTs s.tm ps.toList rows[j],H:=h } C' ρ' { tmps:=(ps.toList.zip (ys[j]).toList).foldl (fun (t:Array Value) (x:Nat × Value)=>match x with|(p,v)=>t.setIfInBounds p v) a.tmps,defers:=[] } W:=by
     refine ⟨⟨hT1.tm,hT1.size,hv.rel.h,trivial,trivial⟩,hv.nx,?_,hv.glob,?_,fun _=>rfl⟩
     · rw[hBW];simp only;rw[hHfh];exact .refl _ _ _ _
     · rw[hBW];exact ⟨List.nodup_nil,(fun _ h=>nomatch h),hv.marks.2.2⟩
    have hw1:=qei (P:=P) (rd:=some l) (n:=3) (B:=BW) assign (.inl nra) _ _ _ W ⟨C',ρ',hInv⟩ (by rw[hBWl];exact hround j h hj' hI)
    show assign.wpIn (Fe (some l)) 3 P _ _ W
    rw[hfold];refine wpIn_mono hw1 ?_;rintro e a1 w1 ⟨s0,⟨rfl,s1,he1,hb⟩,C1,ρ1,hi1⟩;obtain ⟨C1,ρ1,hi1⟩:=he1 G BW a1 w1 hBWl ⟨C1,ρ1,hi1⟩;have hl2:w1.heap[l]? = some (.loop (rec .ready none)):=(hi1.marks.2.2 l _ (by rw[hBW];simp[rcO])).1
    have hd2:w1.heap[D]? = some (.deferred (some [])):=(hi1.marks.2.2 D _ (by rw[hBW];simp[rcO,Ne.symm hlD])).1
    refine ⟨_,run_beginRound hl2 (by rw[hrec]),?_⟩
    have hlt2:l<w1.heap.size:=(Array.getElem?_eq_some_iff.1 hl2).1;have hBsz:∀ r:Loop,({ B0 with objs:=rcO D l r }:Beg).w.heap.size≤l:=fun r=>by simp only[hBw];omega
    have hlt0:l<W.heap.size:=(Array.getElem?_eq_some_iff.1 hl1).1;obtain ⟨BX,hBX⟩:∃ BX:Beg,BX=⟨W.putObj l (.loop { rec .ready none with state:=.busy }),C',ρ',fullL h s.nx,rcO D l { rec .ready none with state:=.busy },false⟩:=⟨_,rfl⟩;have hBXl:BX.Hin.length=s.nx:=by rw[hBX];simp[fullL]
    have hvX:=hv.turn (o':=.loop { rec .ready none with state:=.busy }) (hBsz _) hl1 (rcO D l { rec .ready none with state:=.busy }) (hO (World.putObj_heap_same hlt0) ((World.putObj_heap_other (Ne.symm hlD)).trans hd1))
    have hi2:Inv G BX s1 C1 ρ1 a1 (w1.putObj l (.loop { rec .ready none with state:=.busy })):=by
     have h1:=(hi1.objs (fun _=>none) (fun _ _ h=>nomatch h))
     have hm:Marks (fun _=>none) W.heap.size w1 a1.defers:=by have:=h1.marks;rw[hBW] at this;exact this
     have hme:∀ d∈a1.defers,∃ E,W.heap.size≤E∧d = { target:=.collected E,args:=#[] }∧w1.heap[E]? = some (.deferred (some [])):=hm.2.1;have ee:Ext W C' ρ' h w1 C1 ρ1 s1.H:=by have:=hi1.ext;rw[hBW] at this;simp only at this;rwa [hHfh] at this
     have g:=grownBy_putObj' w1 l (.loop { rec .ready none with state:=.busy });have e0:=ext0_grown hi1.rel.h g fun r e=>by cases e;exact ⟨_,hl2,rfl⟩
     have hR1:RelH (w1.putObj l (.loop { rec .ready none with state:=.busy })) C1 ρ1 s1.H:=by
      refine ⟨fun b blk hb=>(hi1.rel.h.blk b blk hb).ext0 e0 rfl (fun r s' hr=>World.putObj_heap_other fun e=>?_) fun _ _ _ _ _ h=>h,hi1.rel.h.dis,fun r o hc=>?_⟩
      · subst e;obtain ⟨cs,t,z,hc⟩:=hi1.rel.h.row_cells ⟨b,s',by rw[hb];rfl,hr⟩
        rw[hl2] at hc;cases hc
      · obtain ⟨v,hv⟩:=hi1.rel.h.com r o hc;exact ⟨v,by rw[e0.cell r o hc];exact hv⟩
     refine ⟨⟨fun t=>(hi1.rel.tm t).mono0 e0,hi1.rel.size,hR1,trivial,trivial⟩,hi1.nx,?_,hi1.glob.mono e0.com e0.cell,?_,fun h=>by rw[hBX] at h;cases h⟩
     · rw[hBX];simp only;rw[hHfh];exact Ext.turn hv.rel.h hi1.rel.h ee hl1 hl2
     · rw[hBX];refine ⟨hm.1,fun d hd=>?_,fun x o ho=>hO (World.putObj_heap_same hlt2) ((World.putObj_heap_other (Ne.symm hlD)).trans hd2) x o ho⟩
       obtain ⟨E,h0,rfl,hE⟩:=hme d hd;refine ⟨E,by simpa using h0,rfl,(World.putObj_heap_other fun e=>?_).trans hE⟩
       subst e;rw[hl2] at hE;cases hE
    have hw2:=qei (P:=P) (rd:=some l) (n:=3) (B:=BX) body (.inl nrb) _ _ _ _ ⟨C1,ρ1,hi2⟩ (by rw[hBXl];exact hb)
    show body.wpIn (Fe (some l)) 3 P _ _ _
    refine wpIn_mono hw2 ?_;rintro e a2 w2 ⟨s2,hq,C2,ρ2,hi3⟩;have hl3:w2.heap[l]? = some (.loop { rec .ready none with state:=.busy }):=(hi3.marks.2.2 l _ (by rw[hBX];simp[rcO])).1
    have hd3:w2.heap[D]? = some (.deferred (some [])):=(hi3.marks.2.2 D _ (by rw[hBX];simp[rcO,Ne.symm hlD])).1
    have ofX:∀ {s':Sta} {C':Com} {ρ':Rho},Inv G BX s' C' ρ' a2 w2→Inv G { B0 with objs:=rcO D l { rec .ready none with state:=.busy } } s' C' ρ' a2 w2:=fun {s' C2 ρ2} hx=>by
     have ee:Ext (W.putObj l (.loop { rec .ready none with state:=.busy })) C' ρ' h w2 C2 ρ2 s'.H:=by have:=hx.ext;rw[hBX] at this;simp only at this;rwa [hHfh] at this
     refine ⟨hx.rel,hx.nx,hvX.ext.trans ee,hx.glob,?_,fun h=>by rw[hB0] at h;cases h⟩
     have hm:=hx.marks;rw[hBX] at hm;refine ⟨hm.1,fun d hd=>?_,hm.2.2⟩
     obtain ⟨E,h0,rfl,hE⟩:=hm.2.1 d hd;refine ⟨E,?_,rfl,hE⟩;have h0':W.heap.size≤E:=by simpa using h0
     simp only[hBw];omega
    have hlt3:l<w2.heap.size:=(Array.getElem?_eq_some_iff.1 hl3).1
    have fin:∀ (jump:Option Code) (s':Sta) (C':Com) (ρ':Rho),Inv G { B0 with objs:=rcO D l { rec .ready none with state:=.busy } } s' C' ρ' a2 w2→Inv G { B0 with objs:=rcO D l (rec (if jump.isNone then .ready else .done) jump) } (junkS s'.H s'.nx s'.n) C' ρ' { tmps:=a2.tmps,defers:=[] }
     (w2.putObj l (.loop (rec (if jump.isNone then .ready else .done) jump))):=fun jump s' C' ρ' h=>by
     have h1:=h.forget a2.tmps h.rel.size;exact h1.turn (o':=.loop (rec (if jump.isNone then .ready else .done) jump)) (hBsz _) hl3 _ (hO (World.putObj_heap_same hlt3) ((World.putObj_heap_other (Ne.symm hlD)).trans hd3))
    have hend:∀ jump:Option Code,(Instr.endRound l jump).run P w2 = .ok (.bool jump.isNone) (w2.putObj l (.loop (rec (if jump.isNone then .ready else .done) jump))):=fun jump=>by
     have:=run_endRound (P:=P) jump hl3;rw[hrec] at this ⊢;exact this
    have fin2:∀ (jump:Option Code) (s':Sta) (C':Com) (ρ':Rho),Inv G { B0 with objs:=rcO D l { rec .ready none with state:=.busy } } s' C' ρ' a2 w2→Inv G { B0 with objs:=rcO D l (rec (if jump.isNone then .ready else .done) jump) } (junkS s'.H s'.nx s.n) C' ρ' { tmps:=a.tmps,defers:=[] }
     (w2.putObj l (.loop (rec (if jump.isNone then .ready else .done) jump))):=fun jump s' C' ρ' h=>by
     have h1:=fin jump s' C' ρ' h;exact ⟨⟨fun _=>.junk _,hts,h1.rel.h,trivial,trivial⟩,h1.nx,h1.ext,h1.glob,h1.marks.bare,fun _=>rfl⟩
    have xf:∀ {s3:Sta} {C3:Com} {ρ3:Rho},Inv G BX s3 C3 ρ3 a2 w2→∀ o',(∀ r,X r→l<r∧r<(w2.putObj l o').heap.size∧¬ OwnRow ρ3 s3.H r∧∀ o,¬ C3 r o)∧∀ r,X r→(w2.putObj l o').heap[r]? = W.heap[r]?:=fun {s3 C3 ρ3} hi4' o'=>by
     have ee:Ext (W.putObj l (.loop { rec .ready none with state:=.busy })) C' ρ' h w2 C3 ρ3 s3.H:=by have:=hi4'.ext;rw[hBX] at this;simp only at this;rwa [hHfh] at this
     refine ⟨fun r hr=>?_,fun r hr=>?_⟩
     · obtain ⟨x1,x2,x3,x4⟩:=hX r hr;have hsz:=ee.size;refine ⟨x1,by simp at hsz ⊢;omega,fun ho=>?_,fun o hc=>?_⟩
       · rcases ee.rows r ho with h1|h1
         · exact x3 h1
         · simp at h1;omega
       · rcases ee.grow r o hc with h1|h1|h1
         · exact x4 o h1
         · exact x3 h1
         · simp at h1;omega
     · obtain ⟨x1,x2,x3,x4⟩:=hX r hr;have hrl:r≠l:=by omega
       rw[World.putObj_heap_other hrl,ee.same r (by simpa using x2) x3,World.putObj_heap_other hrl]
    cases e with
    | normal=>
     obtain ⟨s3,he3,hn3,hI3⟩:=hq;obtain ⟨C3,ρ3,hi4'⟩:=he3 G BX a2 w2 hBXl ⟨C2,ρ2,hi3⟩;have hi4:=ofX hi4';obtain ⟨xf1,xf2⟩:=xf hi4' (.loop (rec (if (none:Option Code).isNone then .ready else .done) none))
     refine ⟨_,_,hend none,.inl ⟨rfl,?_⟩,xf2⟩;rw[hJ];have h5:=fin2 none s3 C3 ρ3 hi4;rw[hn3] at h5;exact ⟨s3.H,C3,ρ3,hI3,h5,xf1⟩
    | ret=>
     obtain ⟨s3,he3,hq⟩:=hq;obtain ⟨C3,ρ3,hi4'⟩:=he3 G BX a2 w2 hBXl ⟨C2,ρ2,hi3⟩;have hi4:=ofX hi4';obtain ⟨xf1,xf2⟩:=xf hi4' (.loop (rec (if (some Code.ret).isNone then .ready else .done) (some .ret)))
     refine ⟨_,_,hend (some .ret),.inr ⟨rfl,?_⟩,xf2⟩;rw[hJx];exact ⟨.ret,s3,C3,ρ3,.inl ⟨rfl,hq⟩,fin2 (some .ret) s3 C3 ρ3 hi4,xf1⟩
    | exit id=>
     obtain ⟨s3,he3,hq⟩:=hq;obtain ⟨C3,ρ3,hi4'⟩:=he3 G BX a2 w2 hBXl ⟨C2,ρ2,hi3⟩;have hi4:=ofX hi4';obtain ⟨xf1,xf2⟩:=xf hi4' (.loop (rec (if (some (Code.exit id)).isNone then .ready else .done) (some (.exit id))))
     refine ⟨_,_,hend (some (.exit id)),.inr ⟨rfl,?_⟩,xf2⟩;rw[hJx];exact ⟨.exit id,s3,C3,ρ3,.inr ⟨id,rfl,hq⟩,fin2 (some (.exit id)) s3 C3 ρ3 hi4,xf1⟩
    | goto t=>exact hq.elim
    | panic c=>exact hq.elim
    | outgrown=>exact hq.elim
 have back:∀ {W:World} {r:Loop} {h:Heap} {nx:Nat} {C':Com} {ρ':Rho},Inv G { B0 with objs:=rcO D l r } (junkS h nx s.n) C' ρ' { tmps:=a.tmps,defers:=[] } W→
  Inv G B { s with H:=h,nx:=nx } C' ρ' { a with defers:=[{ target:=.collected D,args:=#[] }]++a.defers } (W.putObj l (.loop { r with state:=.exhausted })):=fun {W r h nx C' ρ'} hv=>by
  obtain ⟨hl1,hd1⟩:=recs hv;have hv1:=hv.turn (o':=.loop { r with state:=.exhausted }) (by simp only[hBw];omega) hl1 (fun _=>none) (fun _ _ h=>nomatch h)
  have he:=hBe hv1.ext;have hm:=hi.marks.ext hi.rel.h he;have hDsz:D<W.heap.size:=(Array.getElem?_eq_some_iff.1 hd1).1;refine ⟨⟨fun t=>(hi.rel.tm t).mono he,hi.rel.size,hv1.rel.h,trivial,trivial⟩,hv1.nx,hi.ext.trans he,hv1.glob,⟨?_,fun d hd=>?_,hm.2.2⟩,fun h=>by rw[hnm] at h;cases h⟩
  · refine List.nodup_cons.2 ⟨fun hd=>?_,hi.marks.1⟩
    obtain ⟨E,_,hE,hE2⟩:=hi.marks.2.1 _ hd;have:D=E:=by cases hE;rfl
    have:=(Array.getElem?_eq_some_iff.1 hE2).1;omega
  · rcases List.mem_cons.1 hd with rfl|hd
    · exact ⟨D,by have:=hi.ext.size;omega,rfl,(World.putObj_heap_other (Ne.symm hlD)).trans hd1⟩
    · exact hm.2.1 d hd
 refine ⟨l,[{ target:=.collected D,args:=#[] }],W1,{ target:=.fn (.func gf) ⟨lb⟩,args:=#[.func (.yield l) #[] #[]] },W1,gf,#[.func (.yield l) #[] #[]]++⟨lb⟩,W1,?_,?_,?_,?_,fun _=>by decide,?_⟩
 · rw[← hW1,hrec,hl,hD];exact run_enterLoop_outer _ _ _ _ _
 · simp only[resolve,hgv];simp[go_sem]
 · intro f' hf';trivial
 · simp[invoke,go_sem,hent]
 · refine hrun.mono ?_;rintro e W' ⟨⟨v,rfl⟩,X,hj|hx⟩
   · rw[hJ] at hj;obtain ⟨h,C',ρ',hI,hv,_⟩:=hj;obtain ⟨hl1,_⟩:=recs hv;refine ⟨_,_,run_endLoop hl1 (by rw[hrec];simp),?_⟩
     rw[hrec];refine ⟨_,hdone h (by rw[← hyl];exact hI),C',ρ',?_⟩
     have:=back hv;rw[hrec] at this;exact this
   · rw[hJx] at hx;obtain ⟨c,s1,C',ρ',hc,hv,_⟩:=hx;obtain ⟨hl1,_⟩:=recs hv;refine ⟨_,_,run_endLoop hl1 (by rw[hrec];simp),?_⟩
     have hb:=back hv;rw[hrec] at hb ⊢;rcases hc with ⟨rfl,hq⟩|⟨id,rfl,hq⟩
     · exact wpIn_ret ⟨_,hq,C',ρ',hb⟩
     · exact wpIn_exit ⟨_,hq,C',ρ',hb⟩
def backR (rws:List (List D)):List (List AV):=(List.range rws.length).map fun (k:Nat)=>[.d (.int .i64 ((rws.length:Int)-1-k)),.agg ((rws.getD (rws.length-1-k) []).map .d)]
def BackOK (P:Program) (f:FuncId) (sz:Nat):Prop:=∀ (H:Heap) (b0:Nat) (blk:Blk) (rws:List (List D)),H b0=some blk→blk.rows=[[.d (.sl rws)]]→blk.fz=true→(∀ r∈rws,r.length=sz)→rws.length≤140737488355328→
 SeqAV P f [.ptr b0 1 0 0] H (backR rws)
end Am

namespace Am
open Go
variable {P:Program} {G:Glob}
theorem qzrb {q:SA} (h:sNil q=true):∀ e:Env,q.val e = .sl []:=by
 intro e;cases q with
 | v x=>simp[sNil] at h
 | c d=>cases d with
  | sl xs=>cases xs with
   | nil=>rfl
   | cons=>simp[sNil] at h
  | _=>simp[sNil] at h
theorem qfnb {k:SB} (h:sNil k.d=true) (e:Env):k.len e=k.tl.length:=by simp[SB.len,qzrb h e,D.rows]
theorem qkf {e:Env} {H:List (Option SB)} {b:Nat} {k:SB} (hb:getB H b=some k) (h:sNil k.d=true):lnOf e H b=k.tl.length:=by rw[qk hb,qfnb h]
theorem qqt {H:List (Option SB)} {v:SV} (h:stabV H v=true) {e a b:Env} (hok:v.ok e.length=true):v.inst (e++a) (lnOf (e++a) H)=v.inst (e++b) (lnOf (e++b) H):=by
 unfold stabV at h
 split at h
 · simp only[SV.inst];rw[SA.val_ext' a hok,SA.val_ext' b hok]
 · rfl
 · rename_i c _ _;unfold boxB at h
   split at h
   · rename_i k hk;simp only[SV.inst];rw[qkf hk h,qkf hk h]
   · cases h
 · rename_i c _ _;unfold boxB at h
   split at h
   · rename_i k hk;simp only[SV.inst,SV.instL];rw[qkf hk h,qkf hk h]
   · cases h
 · cases h
theorem qqcb (H:List (Option SB)) (v:SV):stabS H v = .junk∨stabV H (stabS H v)=true:=by
 unfold stabS
 by_cases h:stabV H v=true
 · rw[if_pos h];exact .inr h
 · rw[if_neg h];exact .inl rfl
theorem qoa (H:List (Option SB)):stabS H .junk = .junk:=by unfold stabS;split<;>rfl
structure Stab (e:Env) (σL:SS) (s0:Sta):Prop where
 n:s0.n=σL.n
 ok:∀ t,(getS σL.tm t).ok e.length=true
 st:∀ t,getS σL.tm t = .junk∨stabV σL.H (getS σL.tm t)=true
 wk:∀ t,Wk (s0.tm t) ((getS σL.tm t).inst e (lnOf e σL.H))
theorem Stab.inst {e:Env} {σL:SS} {s0:Sta} (h:Stab e σL s0) (o:Env) (t:Nat):Wk (s0.tm t) ((getS σL.tm t).inst (e++o) (lnOf (e++o) σL.H)):=by
 rcases h.st t with hj|hs
 · rw[hj];exact .junk _
 · have h1:=h.wk t;have h2:=qqt hs (e:=e) (a:=[]) (b:=o) (h.ok t);rw[List.append_nil] at h2;rw[← h2];exact h1
theorem Stab.sat {e o:Env} {σL:SS} {s0:Sta} (h:Stab e σL s0) {s1:Sta} (hS:Sat (e++o) { σL with tm:=[] } s1):Sat (e++o) σL { s0 with H:=s1.H,nx:=s1.nx }:=by
 refine ⟨hS.wf,fun t=>SV.ok_mono (by simp) (h.ok t),hS.H,hS.sl,⟨h.n,hS.wk.nx,fun t=>h.inst o t,hS.wk.H⟩⟩
theorem qio (HL H:List (Option SB)):restV HL H .junk = .junk:=rfl
theorem Stab.rest {e o:Env} {σL σ:SS} {s0 s:Sta} (h:Stab e σL s0) (hS:Sat (e++o) σ s):Sat (e++o) (σL.rest σ) { s0 with H:=s.H,nx:=s.nx }:=by
 refine ⟨hS.wf,fun t=>?_,hS.H,hS.sl,⟨h.n,hS.wk.nx,fun t=>?_,hS.wk.H⟩⟩
 · show (getS (σL.tm.map (restV σL.H σ.H)) t).ok _=true
   rw[qjd (qio _ _)];have hk:=SV.ok_mono (m':=(e++o).length) (by simp) (h.ok t)
   generalize getS σL.tm t=v at hk;cases v<;>simp only[restV]<;>first|exact hk|rfl|skip
   split<;>rfl
 · show Wk (s0.tm t) ((getS (σL.tm.map (restV σL.H σ.H)) t).inst (e++o) (lnOf (e++o) σ.H))
   rw[qjd (qio _ _)];have h1:=h.inst o t;generalize getS σL.tm t=v at h1;cases v with
   | atm a=>exact h1
   | nils=>exact h1
   | ptr b i j=>
    simp only[restV]
    split
    · rename_i hb;unfold sameBox at hb
      split at hb
      · rename_i k k' hk hk';simp only[Bool.and_eq_true,beq_iff_eq] at hb;simp only[SV.inst] at h1 ⊢;rw[qkf hk hb.1.1] at h1;rw[qkf hk' hb.1.2,← hb.2];exact h1
      · cases hb
    · exact .junk _
   | _=>exact .junk _
theorem qts {kk:Nat}:∀ (c:Code),straightC c=true→∀ {Q:Exit→Sta→Prop} {s:Sta},awp P G kk c Q s→awp P G kk c (fun e s=>e = .normal∧Q .normal s) s:=by
 intro c
 induction c with
 | region id ops draw=>
  intro _ Q s h
  have key:∀ {l:List SO} {s:Sta},regE P G kk (Q .normal) l s→regE P G kk (fun s=>Exit.normal=Exit.normal∧Q .normal s) l s:=fun {l s} h=>by
   have:(fun s=>Exit.normal=Exit.normal∧Q .normal s)=Q .normal:=by funext s;simp
   rw[this];exact h
  cases draw with
  | false=>exact key h
  | true=>
   have:(fun s=>Exit.normal=Exit.normal∧Q .normal s)=Q .normal:=by funext s;simp
   refine ⟨h.1,?_⟩;have h2:=h.2
   simpa using h2
 | seq a b iha ihb=>
  intro hs Q s h;simp only[straightC,Bool.and_eq_true] at hs
  show awp P G kk a _ s
  refine qtg (fun e s hh=>?_) (iha hs.1 h)
  obtain ⟨rfl,s',he,hb⟩:=hh;exact ⟨s',he,ihb hs.2 hb⟩
 | _=>intro hs;cases hs
theorem wrapI64 {n:Int} (h0:-9223372036854775808≤n) (h1:n<9223372036854775808):IntKind.i64.wrap n=n:=by
 simp[IntKind.wrap,IntKind.bits,IntKind.signed];omega
theorem qndb {e e':Env} {m sz:Nat} {q:SA} (hm:e.length=m) (hqo:q.ok m=true) (he:EWF e) (h:runE (backEm m sz q) e=some e') :
 ∃ (rws:List (List D)) (o:Env),q.val e = .sl rws∧(∀ r∈rws,∀ c∈r,D.WF c)∧e' = e++o∧o.length=3∧EWF o∧o[2]? = some (.int .i64 ((rws.length:Int)-1))∧(∀ r∈rws,r.length=sz)∧rws.length≤140737488355328:=by
 have hvv:∀ (e:Env) (x:Nat),SA.val e (.v x)=e.getD x dfl:=fun _ _=>rfl
 have hvc:∀ (e:Env) (d:D),SA.val e (.c d)=d:=fun _ _=>rfl
 obtain ⟨rws,hq⟩:∃ rws,q.val e = .sl rws:=by
  simp only[backEm,runE,List.map_cons,List.map_nil] at h
  split at h
  · rename_i o2 h2;generalize q.val e=d at h2;cases d with
    | sl rws=>exact ⟨rws,rfl⟩
    | _=>simp[PO.eval] at h2
  · cases h
 have hwf:∀ r∈rws,∀ c∈r,D.WF c:=by
  have:=EWF.map he (l:=[q]) (by rw[hm];simpa using hqo)
  have:=this (q.val e) (by simp)
  rw[hq] at this;cases this with
  | sl _ h=>exact h
 refine ⟨rws,?_⟩;simp only[backEm,runE,List.map_cons,List.map_nil,hq,hvv,hvc] at h;have e1:PO.eval .lenL [.sl rws]=some [.int .i64 rws.length]:=rfl;simp only[e1] at h;have q1:q.val (e++[.int .i64 rws.length]) = .sl rws:=by rw[SA.val_ext _ (by rw[hm];exact hqo)];exact hq
 have v1:(e++[D.int .i64 rws.length]).getD m dfl = .int .i64 rws.length:=by rw[← hm];simp
 simp only[q1,v1] at h
 split at h
 · rename_i o2 h2;simp only[PO.eval] at h2
   split at h2
   · rename_i hc;cases h2;have q2:q.val (e++[.int .i64 rws.length]++[.sl ((rws.take ((rws.length:Int)).toNat).drop (0:Int).toNat)]) = .sl rws:=by rw[SA.val_ext _ (by simp only[List.length_append,hm];exact SA.ok_mono (by omega) hqo)];exact q1
     simp only[q2] at h
     split at h
     · rename_i o3 h3;simp only[PO.eval] at h3
       split at h3
       · rename_i hr;cases h3;have v2:(e++[D.int .i64 rws.length]++[D.sl ((rws.take ((rws.length:Int)).toNat).drop (0:Int).toNat)]++[]).getD m dfl = .int .i64 rws.length:=by rw[← hm];simp
         simp only[v2] at h;have e4:PO.eval (.bin .sub false) [.int .i64 (rws.length:Int),.int .i64 1]=some [.int .i64 (IntKind.i64.wrap ((rws.length:Int)-1))]:=rfl;simp only[e4] at h;cases h;have hw:IntKind.i64.wrap ((rws.length:Int)-1)=(rws.length:Int)-1:=Am.wrapI64 (by omega) (by omega)
         refine ⟨[.int .i64 rws.length,D.sl ((rws.take ((rws.length:Int)).toNat).drop (0:Int).toNat),.int .i64 (IntKind.i64.wrap ((rws.length:Int)-1))],hq,hwf,by simp,rfl,?_,by simp[hw],fun r hr'=>?_,by omega⟩
         · intro d hd;simp only[List.mem_cons,List.not_mem_nil,or_false] at hd;rcases hd with rfl|rfl|rfl
           · exact .int _ _
           · refine .sl _ fun r hr' c hc'=>hwf r ?_ c hc'
             exact List.mem_of_mem_take (List.mem_of_mem_drop hr')
           · exact .int _ _
         · have:=List.all_eq_true.1 hc.2.2.2 r hr'
           simpa using this
       · cases h3
     · cases h
   · cases h2
 · cases h
theorem qsu {gi:GI} {σ:SS} {g:Operand} {b sz:Nat} {q:SA} (h:backAt gi σ g=some (b,sz,q)):∃ (f:FuncId) (k:SB),sev gi.SG σ g = .clo f [] [.ptr b 0 0]∧backOf gi.backs f=some sz∧getB σ.H b=some k∧k.tl=[[.atm q]]∧sNil k.d=true:=by
 unfold backAt at h
 split at h
 · rename_i f b0 hs
   split at h
   · rename_i sz0 k hf hk
     split at h
     · rename_i q0 ht
       split at h
       · rename_i hn;simp only[Option.some.injEq,Prod.mk.injEq] at h;obtain ⟨rfl,rfl,rfl⟩:=h;exact ⟨f,k,hs,hf,hk,ht,hn⟩
       · cases h
     · cases h
   · cases h
 · cases h
theorem Sat.bare {e:Env} {σ:SS} {s:Sta} {h:Heap} {nx n:Nat} (hS:Sat e σ s) (hh:s.H=h) (hx:s.nx=nx) (hn:s.n=n):Sat e { σ with tm:=[] } (junkS h nx n):=by
 subst hh hx hn;exact ⟨hS.wf,fun t=>by cases t<;>rfl,hS.H,hS.sl,⟨hS.wk.n,hS.wk.nx,fun t=>(by show Wk .junk ((getS [] t).inst e (lnOf e σ.H));cases t<;>exact .junk _),hS.wk.H⟩⟩
theorem Sat.put {e:Env} {σ:SS} {s:Sta} (hS:Sat e σ s) (p:Nat) {v:SV} {x:AV} (hv:v.ok e.length=true) (hx:Wk x (v.inst e (lnOf e σ.H))):Sat e { σ with tm:=setS σ.tm p v } { s with tm:=putT s.tm p x }:=by
 refine ⟨hS.wf,fun t=>?_,hS.H,hS.sl,⟨hS.wk.n,hS.wk.nx,fun t=>?_,hS.wk.H⟩⟩
 · show (getS (setS σ.tm p v) t).ok _=true
   rw[qrd]
   split
   · exact hv
   · exact hS.tm t
 · show Wk (putT s.tm p x t) ((getS (setS σ.tm p v) t).inst e (lnOf e σ.H))
   rw[qrd];unfold putT
   by_cases h:t=p
   · rw[if_pos h,if_pos h];exact hx
   · rw[if_neg h,if_neg h];exact hS.get t
theorem qty {M:Nat}:∀ (n m:Nat),m+n≤M→SV.okL M ((vars m n).map .atm)=true
 | 0,_,_=>rfl
 | n+1,m,h=>by
  simp only[vars,List.map_cons,SV.okL,Bool.and_eq_true];exact ⟨by simp[SV.ok];omega,qty n (m+1) (by omega)⟩
end Am
