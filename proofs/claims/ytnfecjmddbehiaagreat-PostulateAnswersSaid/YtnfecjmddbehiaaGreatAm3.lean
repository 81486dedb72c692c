/- The abstract machine and its reader: lemmas. -/
import Derived.Test.YtnfecjmddbehiaaGreatAmEv
import Derived.ReadAgain
import Derived.ChangeReads
import Derived.OpenShut
import Derived.ChangeArms
import Derived.Sort.OwnSorted
import Derived.Below
set_option linter.unusedSimpArgs false
set_option linter.unusedVariables false
set_option linter.unusedSectionVars false
namespace Am
open Go Go.ChangeShapes Go.WideShapes
def allC (W:World):Com:=fun r o=>∃ v,W.cell? ⟨r,o,none⟩ = some v
theorem qljb (W:World) (ρ:Rho):RelH W (allC W) ρ (hOf []):=⟨fun b k h=>by simp[hOf] at h,fun b b' r s s' _ h=>by simp[hOf] at h,fun r o h=>h⟩
section
variable {H:Type} {enc:TypeId × Value→H} {P:Program} {W W':World} {C C':Com} {ρ ρ':Rho}
theorem Ext.old (hE:Ext W C ρ (hOf []) W' C' ρ' (hOf [])) {r:Nat} (h:r<W.heap.size):W'.heap[r]? = W.heap[r]?:=
 hE.same r h (fun ⟨b,s,hb,_⟩=>by simp[hOf] at hb)
theorem qrlb {w w':World} {a:Addr} (h:w'.heap[a.block]? = w.heap[a.block]?):w'.cell? a=w.cell? a:=by
 unfold World.cell?;rw[h]
theorem qlz (hE:Ext W C ρ (hOf []) W' C' ρ' (hOf [])):∀ p:MemPlace,p.block<W.heap.size→W.sameAt W' p
 | .cell b off,h=>qrlb (hE.old h)
 | .map b,h=>hE.old h
theorem qlh {base:Nat} {sp:Nat→Bool} {hd:Bool}:∀ {ts:List TypeId} {vs:List Value} {ds:List (DataW H)} {ps:List MemPlace},DataW.TrodAll enc P W base sp hd ts vs ds ps→(∀ p∈ps,W.sameAt W' p)→DataW.TrodAll enc P W' base sp hd ts vs ds ps
 | [],[],[],_,h,_=>h
 | _::_,_::_,_::_,_,⟨p,q,⟨n,h1⟩,h2,e⟩,hs=>
  ⟨p,q,⟨n,DataW.trod_carry n _ _ _ h1 (fun x hx=>hs x (by rw[e];exact List.mem_append_left _ hx))⟩,qlh h2 (fun x hx=>hs x (by rw[e];exact List.mem_append_right _ hx)),e⟩
theorem post_true {f:Func} {s:ChangeSpec} {apart fresh handsOn again:Bool} {args:Array Value} {ds gs:List (DataW H)} {before:List MemPlace} {tb:TypeId}
 (hl:laidOutB P=true) (hm:mapsRowed P=true) (hz:((List.range P.types.size).all fun t=>match P.underlying t with|some (.slice e)=>decide (0<P.cellsOf e)|_=>true)=true)
 (hT:∀ t∈f.params.toList,t<P.types.size) (hvars:s.vars=[])
 (hW:DataW.Whole enc P f.params.toList s.vars apart W args.toList ds gs before)
 (hfn:s.fn H (ds++gs) = { results:=[.lit (.bool true)],args:=ds }) (hres:f.resultTypes = #[tb]) (hb:P.underlying tb=some .bool)
 (hE:Ext W C ρ (hOf []) W' C' ρ' (hOf [])):s.post enc P f apart fresh handsOn again W args (.bool true) W':=by
 have hlt:=hW.lt;have hW0:=hW;obtain ⟨p,q,hA,hV,hpq,hfz,hnd⟩:=hW0;rw[hvars] at hV;obtain ⟨rfl,rfl⟩:=trodVars_none hV;simp only[List.append_nil] at hpq;subst hpq
 have hfr:∀ b off,MemPlace.cell b off∈before→W'.frozen? ⟨b,off,none⟩ = false:=by
  intro b off hp
  rw[show W'.frozen? ⟨b,off,none⟩ = W.frozen? ⟨b,off,none⟩ by
   unfold World.frozen?;rw[show W'.heap[b]? = W.heap[b]? from hE.old (hlt _ hp)]]
  exact hfz b off hp
 have hA':DataW.TrodAll enc P W' 0 (fun _=>true) true f.params.toList args.toList ds before:=qlh hA (fun x hx=>qlz hE x (hlt x hx))
 have hR:∀ (b:Nat) (sp:Nat→Bool) (hd:Bool),DataW.TrodAll enc P W' b sp hd [tb] [.bool true] [.lit (.bool true)] []:=fun b sp hd=>trodAll_mk1 ⟨1,by simp[DataW.trod,Value.cells,hb]⟩
 have hv1:(Value.bool true).resultList f.resultTypes.size=[.bool true]:=by rw[hres];rfl
 refine ⟨ds,[],before,[],before,[],hW,?_,?_,?_,?_,fun _=>⟨?_,[.lit (.bool true)]++ds,[],before,⟨[]++before,[],?_,?_,by simp,hfr,hnd⟩,fun p hp _=>hp⟩⟩
 · rw[hv1,hres,hfn];exact hR _ _ _
 · rw[hfn];exact hA'.respare (kids_rows hl hm) (slices_full_of P hz) hT (fun p hp=>decide_eq_true (hlt p hp))
 · rw[hvars,hfn];rfl
 · refine ⟨hE.os,hE.output,fun i hi=>?_⟩
   rw[hE.old hi];cases hc:W.heap[i]? with
   | none=>rfl
   | some o=>cases o with
    | cells c t fr=>exact ⟨rfl,rfl,rfl,fun _ _=>rfl⟩
    | map es clock=>exact .inr ⟨rfl,rfl⟩
    | _=>rfl
 · intro j t r h1 h2;rw[hv1] at h2;rw[hres] at h1;cases j with
   | succ j=>simp at h2
   | zero=>
    simp at h1 h2;subst h1;subst h2;simp[Value.okWide,hb,Cell.okWide,Cell.ok]
 · rw[hv1,hres];exact trodAll_append hA' (hR _ _ _)
 · rw[hvars];rfl
end
end Am

namespace Am
open Go Go.ChangeShapes
def catW (W:TypeId→List D→Prop):List TypeId→List D→Prop
 | [],ds=>ds=[]
 | t::ts,ds=>∃ a b,ds=a++b∧W t a∧catW W ts b
def WT (P:Program):Nat→TypeId→List D→Prop
 | 0,_,_=>False
 | n+1,t,ds=>match P.underlying t with
  | some .bool=>∃ b,ds=[.bool b]
  | some (.int k)=>∃ x,ds=[.int k x]∧(Lit.int k x).wf=true
  | some .string=>∃ l:List UInt8,ds=[.str l]∧l.length≤maxLen
  | some (.slice e)=>∃ xs:List (List D),ds=[.sl xs]∧xs.length≤maxLen∧∀ row∈xs,WT P n e row
  | some (.struct fs)=>catW (WT P n) (fs.toList.map (·.type)) ds
  | _=>False
def offsB (P:Program):Nat→List Field→Option Nat
 | o,[]=>some o
 | o,f::fs=>if f.offset == o then offsB P (o+P.cellsOf f.type) fs else none
def simpleT (P:Program) (L:List Nat):Bool:=L.all fun t=>match P.underlying t with
 | some .bool=>P.cellsOf t == 1
 | some (.int _)=>P.cellsOf t == 1
 | some .string=>P.cellsOf t == 1
 | some (.slice e)=>P.cellsOf t == 1&&L.contains e&&Nat.blt 0 (P.cellsOf e)
 | some (.struct fs)=>fs.toList.all (fun f=>L.contains f.type)&&offsB P 0 fs.toList == some (P.cellsOf t)
 | _=>false
def RL (w:World) (ds:List D) (cs:List Value):Prop:=ds.length=cs.length∧∀ (i:Nat) (d:D) (v:Value),ds[i]? = some d→cs[i]? = some v→RepD w (allC w) d v∧v.oneCell' = true
theorem RL.nil {w:World}:RL w [] []:=⟨rfl,fun i d v h=>by simp at h⟩
theorem RL.one {w:World} {d:D} {v:Value} (h:RepD w (allC w) d v) (h1:v.oneCell' = true):RL w [d] [v]:=
 ⟨rfl,fun i d' v' hd hv=>by cases i with
  | zero=>simp at hd hv;subst hd;subst hv;exact ⟨h,h1⟩
  | succ i=>simp at hd⟩
theorem RL.append {w:World} {a b:List D} {x y:List Value} (h:RL w a x) (h':RL w b y):RL w (a++b) (x++y):=by
 refine ⟨by simp[h.1,h'.1],fun i d v hd hv=>?_⟩
 by_cases hi:i<a.length
 · rw[List.getElem?_append_left hi] at hd;rw[List.getElem?_append_left (by rw[← h.1];exact hi)] at hv
   exact h.2 i d v hd hv
 · rw[List.getElem?_append_right (by omega)] at hd
   rw[List.getElem?_append_right (by rw[← h.1];omega)] at hv
   rw[← h.1] at hv;exact h'.2 _ d v hd hv
section
variable {H:Type} {enc:TypeId × Value→H} {P:Program} {w:World} {base:Nat} {L:List Nat}
theorem qhi {α β:Type} {f:α→Option β}:∀ {l:List α} {r:List β},l.mapM f=some r→∀ (i:Nat) (a:α),l[i]? = some a→∃ b,r[i]? = some b∧f a=some b
 | [],_,_,i,a,ha=>by simp at ha
 | x::l,r,h,i,a,ha=>by
  simp only[List.mapM_cons,Option.bind_eq_bind,Option.bind_eq_some_iff,Option.pure_def,Option.some.injEq] at h;obtain ⟨b,hb,r',hr',rfl⟩:=h;cases i with
  | zero=>
   simp only[List.getElem?_cons_zero,Option.some.injEq] at ha;subst ha;exact ⟨b,rfl,hb⟩
  | succ i=>exact qhi hr' i a (by simpa using ha)
theorem qfg {α β:Type} {f:α→Option β}:∀ {l:List α} {r:List β},l.mapM f=some r→r.length=l.length
 | [],r,h=>by simp at h;subst h;rfl
 | x::l,r,h=>by
  simp only[List.mapM_cons,Option.bind_eq_bind,Option.bind_eq_some_iff,Option.pure_def,Option.some.injEq] at h;obtain ⟨b,hb,r',hr',rfl⟩:=h;simp[qfg hr']
theorem cells?_at {a:Addr} {n:Nat} {cs:List Value} (h:w.cells? base a n=some cs):cs.length=n∧∀ i,i<n→∃ v,cs[i]? = some v∧w.cell? (a.add i)=some v:=by
 unfold World.cells? at h
 split at h
 · refine ⟨by simpa using qfg h,fun i hi=>?_⟩
   obtain ⟨b,h1,h2⟩:=qhi h i i (by simp[hi])
   exact ⟨b,h1,h2⟩
 · cases h
theorem qfr {a:Addr} {v:Value} (h:w.cell? a=some v):a.spot=none:=by
 unfold World.cell? at h
 split at h
 · split at h
   · cases h
   · rename_i hs;simpa using hs
 · cases h
theorem qonb {a:Addr} (h:a.spot=none) (n:Nat):a.add n=⟨a.block,a.off+n,none⟩:=by
 unfold Addr.add
 split
 · rename_i h0;subst h0;cases a;simp at h;subst h;rfl
 · rfl
theorem qyr {n:Nat} (hrec:∀ (t:TypeId) (cs:List Value) (x:DataW H × List MemPlace),t∈L→DataW.trod enc P w base (fun _=>true) true n t cs=some x→cs.length=P.cellsOf t∧∃ ds,WT P n t ds∧RL w ds cs)
 (cs:List Value):∀ (fs:List Field) (o m:Nat) (xs:List (DataW H × List MemPlace)),fs.all (fun f=>L.contains f.type)=true→offsB P o fs=some m→
 (fs.mapM fun f=>DataW.trod enc P w base (fun _=>true) true n f.type ((cs.drop f.offset).take (P.cellsOf f.type)))=some xs→m≤cs.length→∃ ds,catW (WT P n) (fs.map (·.type)) ds∧RL w ds ((cs.drop o).take (m-o))∧o≤m
 | [],o,m,xs,_,h,_,_=>by
  simp only[offsB,Option.some.injEq] at h;subst h;exact ⟨[],rfl,by simpa using RL.nil,Nat.le_refl _⟩
 | f::fs,o,m,xs,hL,h,hm,hlen=>by
  simp only[offsB] at h
  split at h
  · rename_i ho;have ho':f.offset=o:=by simpa using ho
    simp only[List.all_cons,Bool.and_eq_true] at hL;simp only[List.mapM_cons,Option.bind_eq_bind,Option.bind_eq_some_iff,Option.pure_def,Option.some.injEq] at hm;obtain ⟨b,hb,r',hr',rfl⟩:=hm;obtain ⟨h1,d1,w1,r1⟩:=hrec _ _ _ (by simpa using hL.1) hb
    obtain ⟨ds,w2,r2,hle⟩:=qyr hrec cs fs _ _ _ hL.2 h hr' hlen;refine ⟨d1++ds,⟨d1,ds,rfl,w1,w2⟩,?_,by omega⟩
    rw[ho'] at r1
    have:(cs.drop o).take (m-o)=(cs.drop o).take (P.cellsOf f.type)++(cs.drop (o+P.cellsOf f.type)).take (m-(o+P.cellsOf f.type)):=by
     rw[show m-o=P.cellsOf f.type+(m-(o+P.cellsOf f.type)) by omega,List.take_add,List.drop_drop]
    rw[this];exact r1.append r2
  · cases h
theorem qnq (hL:simpleT P L=true):∀ (n:Nat) (t:TypeId) (cs:List Value) (x:DataW H × List MemPlace),t∈L→DataW.trod enc P w base (fun _=>true) true n t cs=some x→
 cs.length=P.cellsOf t∧∃ ds,WT P n t ds∧RL w ds cs:=by
 intro n
 induction n with
 | zero=>intro t cs x _ h;simp[DataW.trod] at h
 | succ n ih=>
  intro t cs x ht h;have hs:=List.all_eq_true.1 hL t ht;cases hu:P.underlying t with
  | none=>simp[hu] at hs
  | some u=>
   simp only[hu] at hs;cases u with
   | bool=>
    obtain ⟨b,rfl,rfl⟩:=DataW.trod_bool hu h;exact ⟨by simpa using (beq_iff_eq.1 hs).symm,[.bool b],by simp only[WT,hu];exact ⟨b,rfl⟩,.one (.bool b) rfl⟩
   | int k=>
    obtain ⟨z,rfl,rfl,hw⟩:=DataW.trod_int hu h;exact ⟨by simpa using (beq_iff_eq.1 hs).symm,[.int k z],by simp only[WT,hu];exact ⟨z,rfl,hw⟩,.one (.int k z) rfl⟩
   | string=>
    obtain ⟨s,rfl,rfl,hw⟩:=DataW.trod_string hu h;refine ⟨by simpa using (beq_iff_eq.1 hs).symm,[.str s.data.toList],by simp only[WT,hu];exact ⟨_,rfl,by simpa using hw⟩,.one (.str _) rfl⟩
   | slice e=>
    simp only[Bool.and_eq_true,beq_iff_eq] at hs;obtain ⟨⟨hc,he⟩,h0⟩:=hs;have h0':0<P.cellsOf e:=by simpa [Nat.blt_eq] using h0
    have he':e∈L:=by simpa using he
    rcases DataW.trod_slice hu h with ⟨rfl,rfl⟩|⟨a,len,cap,elems,rest,m,hm,rfl,rfl,hb,hl,hcap,hlen,hel,hsp,_⟩
    · exact ⟨by simpa using hc.symm,[.sl []],by simp only[WT,hu];exact ⟨[],rfl,by simp,by simp⟩,.one .nil rfl⟩
    · obtain rfl:n=m:=by omega
      refine ⟨by simpa using hc.symm,?_⟩
      have hrow:∀ i,∃ row:List D,i<len→WT P n e row∧∃ cs,w.cells? base (a.add (i*P.cellsOf e)) (P.cellsOf e)=some cs∧RL w row cs:=by
       intro i
       by_cases hi:i<len
       · have h1:=hel i hi;rw[List.getElem?_eq_getElem (by omega)] at h1
         obtain ⟨cs,h2,h3⟩:=Option.bind_eq_some_iff.1 h1;obtain ⟨_,ds,h4,h5⟩:=ih _ _ _ he' h3;exact ⟨ds,fun _=>⟨h4,cs,h2,h5⟩⟩
       · exact ⟨[],fun h=>absurd h hi⟩
      obtain ⟨R,hR⟩:=Classical.axiomOfChoice hrow;refine ⟨[.sl ((List.range len).map R)],?_,.one ?_ rfl⟩
      · simp only[WT,hu];refine ⟨_,rfl,by simp;omega,fun row hrow=>?_⟩
        simp only[List.mem_map,List.mem_range] at hrow;obtain ⟨i,hi,rfl⟩:=hrow;exact (hR i hi).1
      · by_cases hcz:cap=0
        · subst hcz;have:len=0:=by omega
          subst this;exact .nilA a
        ·
         have hspot:a.spot=none:=by
          have h1:∃ cs,w.cells? base (a.add 0) (P.cellsOf e)=some cs:=by
           by_cases hl0:0<len
           · obtain ⟨_,cs,h2,_⟩:=hR 0 hl0;exact ⟨cs,by simpa using h2⟩
           · obtain ⟨h1,h2⟩:=hsp rfl;have:=h2 0 (by omega)
             rw[List.getElem?_eq_getElem (by omega)] at this
             obtain ⟨cs,h3,_⟩:=Option.bind_eq_some_iff.1 this;have hz:len=0:=by omega
             subst hz;exact ⟨cs,by simpa using h3⟩
          obtain ⟨cs,h1⟩:=h1;obtain ⟨v,_,h2⟩:=(cells?_at h1).2 0 h0';have:=qfr h2
          simpa [Addr.add] using this
         have hcell:∀ i,i<len→∀ j,j<P.cellsOf e→∃ (d:D) (v:Value),(R i)[j]? = some d∧w.cell? ⟨a.block,a.off+i*P.cellsOf e+j,none⟩ = some v∧RepD w (allC w) d v∧v.oneCell' = true:=by
          intro i hi j hj;obtain ⟨_,cs,h2,h3⟩:=hR i hi;obtain ⟨h4,h5⟩:=cells?_at h2;obtain ⟨v,h6,h7⟩:=h5 j hj;have hj':j<(R i).length:=by rw[h3.1,h4];exact hj
          obtain ⟨h8,h9⟩:=h3.2 j _ v (List.getElem?_eq_getElem hj') h6;refine ⟨_,v,List.getElem?_eq_getElem hj',?_,h8,h9⟩;rw[qonb hspot,qonb rfl] at h7;exact h7
         have hRl:∀ i,i<len→(R i).length=P.cellsOf e:=by
          intro i hi;obtain ⟨_,cs,h2,h3⟩:=hR i hi;rw[h3.1];exact (cells?_at h2).1
         have hvs:∀ i j,∃ v:Value,i<len→j<P.cellsOf e→w.cell? ⟨a.block,a.off+i*P.cellsOf e+j,none⟩ = some v:=by
          intro i j
          by_cases hi:i<len∧j<P.cellsOf e
          · obtain ⟨d,v,_,h1,_⟩:=hcell i hi.1 j hi.2;exact ⟨v,fun _ _=>h1⟩
          · exact ⟨.nilFunc,fun h1 h2=>absurd ⟨h1,h2⟩ hi⟩
         have hvs':∀ i,∃ f:Nat→Value,∀ j,i<len→j<P.cellsOf e→w.cell? ⟨a.block,a.off+i*P.cellsOf e+j,none⟩ = some (f j):=fun i=>Classical.axiomOfChoice (hvs i)
         obtain ⟨V,hV⟩:=Classical.axiomOfChoice hvs'
         have key:=RepD.sl (w:=w) (C:=allC w) ((List.range len).map R) a.block a.off cap (P.cellsOf e) V (by simpa using hl) (fun i h=>by simp at h ⊢;exact hRl i h)
          (fun i j hi hj=>⟨_,hV i j (by simpa using hi) hj⟩)
          (fun i j hi hj=>by
           have hi':i<len:=by simpa using hi
           refine ⟨hV i j hi' hj,?_⟩;obtain ⟨d,v,_,h1,_,h2⟩:=hcell i hi' j hj;rw[hV i j hi' hj] at h1;cases h1;exact h2)
          (fun i j hi hj=>by
           have hi':i<len:=by simpa using hi
           simp only[List.getElem_map,List.getElem_range] at hj ⊢;have hj':j<P.cellsOf e:=by rw[← hRl i hi'];exact hj
           obtain ⟨d,v,h0,h1,h2,_⟩:=hcell i hi' j hj';rw[hV i j hi' hj'] at h1;cases h1;rw[List.getElem?_eq_getElem hj] at h0;cases h0;exact h2)
         have ha:a=⟨a.block,a.off,none⟩:=by cases a;simp at hspot;subst hspot;rfl
         simp only[List.length_map,List.length_range] at key;rw[ha];exact key
   | struct fs=>
    simp only[Bool.and_eq_true,beq_iff_eq] at hs;simp only[DataW.trod,hu] at h
    split at h
    · rename_i hl;obtain ⟨xs,hm,_⟩:=Option.map_eq_some_iff.1 h;obtain ⟨ds,w2,r2,_⟩:=qyr (L:=L) ih cs fs.toList 0 _ _ hs.1 hs.2 hm (by omega)
      refine ⟨hl,ds,by simp only[WT,hu];exact w2,?_⟩
      simpa [← hl] using r2
    · cases h
   | _=>simp at hs
end
end Am

namespace Am
open Go Go.ChangeShapes
theorem qpeb {P:Program} {n:Nat} (ih:∀ t ds,WT P n t ds→EWF ds):∀ (ts:List TypeId) (ds:List D),catW (WT P n) ts ds→EWF ds
 | [],ds,h=>by simp only[catW] at h;subst h;intro d hd;simp at hd
 | t::ts,ds,⟨a,b,e,h1,h2⟩=>by
  subst e;intro d hd;rcases List.mem_append.1 hd with hd|hd
  · exact ih _ _ h1 d hd
  · exact qpeb ih ts b h2 d hd
theorem qdrb {P:Program}:∀ (n:Nat) (t:TypeId) (ds:List D),WT P n t ds→EWF ds
 | 0,_,_,h=>h.elim
 | n+1,t,ds,h=>by
  simp only[WT] at h
  split at h
  · obtain ⟨b,rfl⟩:=h;intro d hd;simp at hd;subst hd;exact .bool b
  · obtain ⟨x,rfl,_⟩:=h;intro d hd;simp at hd;subst hd;exact .int _ x
  · obtain ⟨l,rfl,_⟩:=h;intro d hd;simp at hd;subst hd;exact .str l
  · obtain ⟨xs,rfl,_,h2⟩:=h;intro d hd;simp at hd;subst hd;exact .sl xs fun r hr=>qdrb n _ r (h2 r hr)
  · exact qpeb (fun t ds=>qdrb n t ds) _ ds h
  · exact h.elim
def parS (P:Program):Nat→List TypeId→List SV
 | _,[]=>[]
 | m,t::ts=>(match P.underlying t with|some (.struct _)=>.agg ((List.range (P.cellsOf t)).map fun i=>.atm (.v (m+i)))|_=>.atm (.v m))::parS P (m+P.cellsOf t) ts
inductive Ins (P:Program):List TypeId→List (List D)→Prop
 | nil:Ins P [] []
 | cons {t:TypeId} {ts:List TypeId} {d:List D} {I:List (List D)} (n:Nat) (h:WT P n t d) (hl:d.length=P.cellsOf t) (hr:Ins P ts I):Ins P (t::ts) (d::I)
theorem Ins.wf {P:Program} {ts:List TypeId} {I:List (List D)} (h:Ins P ts I):EWF I.flatten:=by
 induction h with
 | nil=>intro d hd;simp at hd
 | cons n h hl hr ih=>
  intro d hd;simp only[List.flatten_cons,List.mem_append] at hd;rcases hd with hd|hd
  · exact qdrb n _ _ h d hd
  · exact ih d hd
theorem qxu {w:World} {C:Com} {ρ:Rho} {H:Heap} {a:AV} {l:List AV} {v:Value} {vs:List Value} (h:RepA w C ρ H a v) (h':RepAll w C ρ H l vs):RepAll w C ρ H (a::l) (v::vs):=by
 refine ⟨by simp[h'.1],fun i hi hi'=>?_⟩
 cases i with
 | zero=>exact h
 | succ i=>exact h'.2 i (by simpa using hi) (by simpa using hi')
section
variable {H:Type} {enc:TypeId × Value→H} {P:Program} {w:World} {L:List Nat}
theorem qov (hL:simpleT P L=true) {ρ:Rho} {Hp:Heap} {base:Nat}:∀ (ts:List TypeId) (vs:List Value) (ds:List (DataW H)) (ps:List MemPlace),(ts.all fun t=>L.contains t)=true→
 DataW.TrodAll enc P w 0 (fun _=>true) true ts vs ds ps→(∀ (j:Nat) t v,ts[j]? = some t→vs[j]? = some v→Value.okWide P w .any base t v)→
 ∃ I:List (List D),Ins P ts I∧∀ (pre:Env) (ln:Nat→Nat),RepAll w (allC w) ρ Hp (SV.instL (pre++I.flatten) ln (parS P pre.length ts)) vs
 | [],vs,ds,ps,_,h,_=>by
  obtain ⟨rfl,rfl,rfl⟩:=trodAll_nil h;exact ⟨[],.nil,fun pre ln=>⟨rfl,fun i hi=>by simp[parS,SV.instL] at hi⟩⟩
 | t::ts,vs,ds,ps,hts,h,hok=>by
  obtain ⟨v,vs',d,ds',p0,q0,rfl,rfl,rfl,h0,hr⟩:=trodAll_cons h;simp only[List.all_cons,Bool.and_eq_true] at hts;have ht:t∈L:=by simpa using hts.1
  obtain ⟨I,hI,hrep⟩:=qov hL (ρ:=ρ) (Hp:=Hp) (base:=base) ts vs' ds' q0 hts.2 hr fun j t' v' h1 h2=>hok (j+1) t' v' (by simpa using h1) (by simpa using h2)
  have hv:=hok 0 t v rfl rfl;obtain ⟨n,h0⟩:=h0;obtain ⟨hlen,row,hW,hR⟩:=qnq hL n t v.cells.toList _ ht h0;have hrl:row.length=P.cellsOf t:=by rw[hR.1,hlen]
  refine ⟨row::I,.cons n hW hrl hI,fun pre ln=>?_⟩
  have htail:=hrep (pre++row) ln;rw[List.length_append,hrl,List.append_assoc] at htail;simp only[List.flatten_cons,parS,SV.instL];refine qxu ?_ htail;have hsimp:=List.all_eq_true.1 hL t ht
  have single:v.cells.toList=[v]→P.cellsOf t=1→∃ x,row=[x]∧RepD w (allC w) x v:=by
   intro hc h1;rw[hc] at hR;rw[h1] at hrl
   match row,hrl with
   | [x],_=>exact ⟨x,rfl,(hR.2 0 x v rfl rfl).1⟩
  have atom:(∃ x,row=[x]∧RepD w (allC w) x v)→RepA w (allC w) ρ Hp ((SV.atm (.v pre.length)).inst (pre++(row++I.flatten)) ln) v:=by
   rintro ⟨x,rfl,hx⟩
   have:(SA.v pre.length).val (pre++([x]++I.flatten))=x:=by
    simp[SA.val,List.getD_eq_getElem?_getD]
   simp only[SV.inst,this];exact .d x v hx
  cases hu:P.underlying t with
  | none=>simp[hu] at hsimp
  | some u=>
   simp only[hu] at hsimp;cases u with
   | struct fs=>
    simp only[Value.okWide,hu] at hv;obtain ⟨cs,rfl,hsz,_⟩:=hv;have hcs:(Value.agg cs).cells.toList=cs.toList:=rfl;rw[hcs] at hR hlen;obtain ⟨cs⟩:=cs;simp only at hR hlen;simp only[SV.inst]
    have hl2:SV.instL (pre++(row++I.flatten)) ln ((List.range (P.cellsOf t)).map fun i=>SV.atm (.v (pre.length+i)))=row.map .d:=by
     have key:∀ l:List Nat,SV.instL (pre++(row++I.flatten)) ln (l.map fun i=>SV.atm (.v (pre.length+i)))=l.map fun i=>AV.d ((pre++(row++I.flatten)).getD (pre.length+i) dfl):=by
      intro l
      induction l with
      | nil=>rfl
      | cons a l ih=>simp only[List.map_cons,SV.instL,SV.inst,ih,SA.val]
     rw[key]
     apply List.ext_getElem (by simp[hrl])
     intro i h1 h2;simp only[List.getElem_map,List.getElem_range];have hi:i<row.length:=by simpa using h2
     congr 1
     rw[List.getD_eq_getElem?_getD,List.getElem?_append_right (by omega),show pre.length+i-pre.length=i by omega,List.getElem?_append_left hi,List.getElem?_eq_getElem hi]
     rfl
    rw[hl2];refine .agg _ _ (by simp[hR.1]) (fun x hx=>?_) (fun i h1 h2=>?_)
    · obtain ⟨i,hi,rfl⟩:=List.getElem_of_mem hx;have hi':i<row.length:=by rw[hR.1];exact hi
      exact (hR.2 i _ _ (List.getElem?_eq_getElem hi') (List.getElem?_eq_getElem hi)).2
    · have hi':i<row.length:=by simpa using h1
      simp only[List.getElem_map];exact .d _ _ (hR.2 i _ _ (List.getElem?_eq_getElem hi') (List.getElem?_eq_getElem h2)).1
   | bool=>
    refine atom (single ?_ (by simpa using hsimp))
    simp only[Value.okWide,hu,Cell.okWide,Cell.ok] at hv;cases v<;>first|rfl|simp at hv
   | int k=>
    refine atom (single ?_ (by simpa using hsimp))
    simp only[Value.okWide,hu,Cell.okWide,Cell.ok] at hv;cases v<;>first|rfl|simp at hv
   | string=>
    refine atom (single ?_ (by simpa using hsimp))
    simp only[Value.okWide,hu,Cell.okWide,Cell.ok] at hv;cases v<;>first|rfl|simp at hv
   | slice e=>
    refine atom (single ?_ (by simp only[Bool.and_eq_true,beq_iff_eq] at hsimp;exact hsimp.1.1))
    simp only[Value.okWide,hu,Cell.okWide,Cell.ok] at hv;cases v<;>first|rfl|simp at hv
   | _=>simp at hsimp
end
end Am
namespace Am
open Go
theorem Ins.len {P:Program} {ts:List TypeId} {I:List (List D)} (h:Ins P ts I):I.flatten.length=(ts.map P.cellsOf).foldr (· + ·) 0:=by
 induction h with
 | nil=>rfl
 | cons n h hl hr ih=>simp only[List.flatten_cons,List.length_append,hl,ih,List.map_cons,List.foldr_cons]
end Am

namespace Am
open Go Go.Sort
section
variable {α:Type} [Inhabited α] {P:Program} {G:Glob}
def rowB (fz:Bool) (ty:TypeId) (dE:α→D) (xs:List α):Blk:={ fz,ap:=true,ty,sz:=1,rows:=xs.map fun x=>[.d (dE x)] }
structure EncOK (enc:α→Value) (dE:α→D):Prop where
 rep:∀ w C x,RepD w C (dE x) (enc x)
 one:∀ x,(enc x).oneCell' = true
 inj:∀ w C x v,RepD w C (dE x) v→v=enc x
variable {enc:α→Value} {dE:α→D} {ty:TypeId} {w:World} {C:Com} {ρ:Rho} {xs:List α}
theorem qfj {g n:Nat} {os:Array Obj} (d:Array α) {cur:Array Value} {e:TypeId} {fr:Nat × Nat} (hb:w.heap[g]? = some (.cells cur e fr)) :
 (grow (putRow enc (Sort.ahead w n) g 0 d) os).heap[g]? = some (.cells (putCells enc 0 d cur) e fr):=by
 have hg:g<w.heap.size:=(Array.getElem?_eq_some_iff.1 hb).1;rw[heap_grow_old _ _ (by simpa using hg)]
 simp only[putRow,mapBlock,Sort.ahead,Array.getElem?_modify,if_true,hb,Option.map_some,onCells]
theorem qsr {g n:Nat} {os:Array Obj} (d:Array α) {r:Nat} (hr:r<w.heap.size) (hne:r≠g) :
 (grow (putRow enc (Sort.ahead w n) g 0 d) os).heap[r]? = w.heap[r]?:=by
 rw[heap_grow_old _ _ (by simpa using hr)]
 simp only[putRow,mapBlock,Sort.ahead,Array.getElem?_modify];rw[if_neg (fun h=>hne h.symm)]
theorem qff {d:Array α} {cur:Array Value} {j:Nat} (hj:j<d.size) (hc:j<cur.size):(putCells enc 0 d cur)[j]? = some (enc d[j]!):=by
 simp[putCells,hj,hc]
theorem qrfb {w:World} {r o:Nat} {v:Value} (h:w.cell? ⟨r,o,none⟩ = some v):r<w.heap.size:=by
 rw[qib] at h
 by_cases hr:r<w.heap.size
 · exact hr
 · rw[Array.getElem?_eq_none (by omega)] at h;simp at h
theorem qfk (hE:EncOK enc dE) (fz:Bool) {xs ys:List α} (hl:ys.length=xs.length) (hR:RelH w C ρ (hOf [rowB false ty dE xs])) {r s:Nat} (hr:ρ 0=some (r,s)) (n:Nat) (os:Array Obj) :
 RelH (grow (putRow enc (Sort.ahead w n) r 0 ys.toArray) os) (fun r' o=>C r' o∨(fz=true∧r' = r∧o<ys.length)) ρ (hOf [rowB fz ty dE ys])∧
 Ext w C ρ (hOf [rowB false ty dE xs]) (grow (putRow enc (Sort.ahead w n) r 0 ys.toArray) os) (fun r' o=>C r' o∨(fz=true∧r' = r∧o<ys.length)) ρ (hOf [rowB fz ty dE ys]):=by
 have hb0:hOf [rowB false ty dE xs] 0=some (rowB false ty dE xs):=rfl;have hbk:=hR.blk 0 _ hb0;unfold BlkOK at hbk;rw[hr] at hbk;obtain ⟨⟨cs,lo,hi,m1,m2,m3,m4,m5,m6,m7⟩,n1,n2⟩:=hbk;have hnC:=n1 rfl;have hrs:r<w.heap.size:=(Array.getElem?_eq_some_iff.1 m1).1;have hx:xs.length≤cs.size:=by simpa [rowB,m2] using m5
 have hrow':=qfj (enc:=enc) (n:=n) (os:=os) ys.toArray m1;have hother:∀ r',r' < w.heap.size→r'≠r→(grow (putRow enc (Sort.ahead w n) r 0 ys.toArray) os).heap[r']? = w.heap[r']?:=fun r' h1 h2=>qsr ys.toArray h1 h2
 have hcell:∀ r' o,C r' o→(grow (putRow enc (Sort.ahead w n) r 0 ys.toArray) os).cell? ⟨r',o,none⟩ = w.cell? ⟨r',o,none⟩:=by
  intro r' o h;obtain ⟨v,hv⟩:=hR.com r' o h;have h1:=qrfb hv;have h2:r'≠r:=fun e=>hnC o (e ▸ h)
  rw[qib,qib,hother r' h1 h2]
 have hown:∀ r',OwnRow ρ (hOf [rowB false ty dE xs]) r'↔r' = r:=by
  intro r'
  constructor
  · rintro ⟨b,s',hb,hrb⟩
    match b,hb with
    | 0,_=>rw[hr] at hrb;cases hrb;rfl
    | b+1,hb=>simp[hOf] at hb
  · rintro rfl;exact ⟨0,s,rfl,hr⟩
 have hown':∀ r',OwnRow ρ (hOf [rowB fz ty dE ys]) r'↔r' = r:=by
  intro r'
  constructor
  · rintro ⟨b,s',hb,hrb⟩
    match b,hb with
    | 0,_=>rw[hr] at hrb;cases hrb;rfl
    | b+1,hb=>simp[hOf] at hb
  · rintro rfl;exact ⟨0,s,rfl,hr⟩
 constructor
 · refine ⟨fun b blk hb=>?_,fun b b' r1 s1 s2 hne h1 h2=>?_,fun r' o h=>?_⟩
   · match b,hb with
     | 0,hb=>
      obtain rfl:rowB fz ty dE ys=blk:=by simpa [hOf] using hb
      unfold BlkOK;rw[hr];refine ⟨⟨_,lo,hi,hrow',by simp[putCells,m2],fun _=>m3 rfl,fun _=>m4 rfl,by simpa [rowB,hl] using m5,?_,?_⟩,?_,?_⟩
      · intro i h;simp[rowB]
      · intro i j h1 h2;simp only[rowB,List.length_map] at h1;have hj:j=0:=by simp[rowB] at h2;exact h2
        subst hj;refine ⟨enc ys[i],?_,hE.one _,?_⟩
        · have:(putCells enc 0 ys.toArray cs)[i]? = some (enc ys.toArray[i]!):=qff (by simpa using h1) (by omega)
          simp only[rowB,Nat.mul_one,Nat.add_zero];rw[this];simp[h1]
        · simp only[rowB,List.getElem_map,List.getElem_cons_zero];exact .d _ _ (hE.rep _ _ _)
      · intro hf o ho;rcases ho with ho|⟨h,_⟩
        · exact hnC o ho
        · simp[rowB] at hf;rw[hf] at h;cases h
      · intro hf o ho;simp only[rowB] at hf ho;exact .inr ⟨hf,rfl,by simpa using ho⟩
     | b+1,hb=>simp[hOf] at hb
   · match b,b' with
     | 0,0=>exact absurd rfl hne
     | b+1,_=>simp[hOf] at h1
     | 0,b'+1=>simp[hOf] at h2
   · rcases h with h|⟨_,rfl,ho⟩
     · rw[hcell r' o h];exact hR.com r' o h
     · refine ⟨enc ys.toArray[o]!,?_⟩;rw[qib,hrow'];exact qff (by simpa using ho) (by omega)
 · refine ⟨fun r' o h=>.inl h,hcell,fun b blk hb=>?_,rfl,rfl,rfl,?_,fun r' h1 h2=>?_,fun r' h=>?_,fun r' o h=>?_⟩
   · match b,hb with
     | 0,hb=>
      obtain rfl:rowB false ty dE xs=blk:=by simpa [hOf] using hb
      exact ⟨rowB fz ty dE ys,rfl,rfl,by simp[rowB,hl],fun _=>rfl⟩
     | b+1,hb=>simp[hOf] at hb
   · simp
   · exact hother r' h1 (fun e=>h2 ((hown r').2 e))
   · exact .inl ((hown r').2 ((hown' r').1 h))
   · rcases h with h|⟨_,rfl,_⟩
     · exact .inl h
     · exact .inr (.inl ((hown r').2 rfl))
theorem qwcb (hR:RelH w C ρ (hOf [rowB false ty dE xs])) {v:Value} (hv:RepA w C ρ (hOf [rowB false ty dE xs]) (.own 0 xs.length 0 xs.length) v) :
 (xs=[]∧v = .slice none 0 0)∨∃ r s cap,ρ 0=some (r,s)∧v = .slice (some ⟨r,0,none⟩) xs.length cap∧xs.length≤cap:=by
 cases hv with
 | own _ _ _ _ _ blk hb hn h1 h=>
  obtain rfl:rowB false ty dE xs=blk:=by simpa [hOf] using hb
  rcases h (by simp[rowB]) with ⟨r,s,cap,h2,rfl,h3,_⟩|⟨_,_,h4,rfl⟩
  · exact .inr ⟨r,s,cap,h2,by simp[rowB],h3⟩
  · exact .inl ⟨List.length_eq_zero_iff.1 h4,rfl⟩
theorem qgq (hE:EncOK enc dE) (hR:RelH w C ρ (hOf [rowB false ty dE xs])) {r s:Nat} (hr:ρ 0=some (r,s)):Holds enc w r 0 xs.toArray∧r<w.heap.size:=by
 have hbk:=hR.blk 0 _ (rfl:hOf [rowB false ty dE xs] 0=some (rowB false ty dE xs));unfold BlkOK at hbk;rw[hr] at hbk;obtain ⟨⟨cs,lo,hi,m1,m2,m3,m4,m5,m6,m7⟩,n1,n2⟩:=hbk;refine ⟨fun j hj=>?_,(Array.getElem?_eq_some_iff.1 m1).1⟩
 have hj':j<xs.length:=by simpa using hj
 obtain ⟨v,v1,v2,v3⟩:=m7 j 0 (by simpa [rowB] using hj') (by simp[rowB])
 simp only[rowB,List.getElem_map,List.getElem_cons_zero,Nat.mul_one,Nat.add_zero] at v1 v3
 have hv:v=enc xs[j]:=by
  cases v3 with
  | d _ _ h=>exact hE.inj _ _ _ _ h
 subst hv
 have hlt:j<s:=by
  have:xs.length≤s:=by simpa [rowB] using m5
  omega
 constructor
 · rw[qib,Nat.zero_add,m1];simp only[v1];simp[hj']
 · rw[Nat.zero_add,qvp w r j m1]
   simpa using m4 rfl j hlt
theorem qwub (hE:EncOK enc dE) {f:FuncId} (hb:Body P f) {g:List α→List α} (hg:∀ l,(g l).length=l.length)
 (h:∀ (blk cap:Nat) (l:List α) (w:World),Holds enc w blk 0 l.toArray→blk<w.heap.size→l.length<4611686018427387904→Calls P f #[.slice (some ⟨blk,0,none⟩) l.length cap] w fun e w'=>e = .returned (.tuple #[])∧∃ n os,w' = grow (putRow enc (Sort.ahead w n) blk 0 (g l).toArray) os)
 (h0:∀ p cap w,Calls P f #[.slice p 0 cap] w fun e w'=>e = .returned (.tuple #[])∧w' = w) (xs:List α) (hl:xs.length<4611686018427387904) :
 CC P G f [rowB false ty dE xs] [.own 0 xs.length 0 xs.length] [rowB false ty dE (g xs)] (.tup []):=by
 refine ⟨hb,fun w C ρ vs hR hG hv=>?_⟩
 obtain ⟨hlen,hv⟩:=hv
 obtain ⟨v,rfl⟩:∃ v,vs=[v]:=by
  match vs,hlen with
  | [v],_=>exact ⟨v,rfl⟩
 have hp:=hv 0 (by simp) (by simp)
 simp only[List.getElem_cons_zero] at hp;have htup:∀ w' C' ρ' H',RepA w' C' ρ' H' (.tup []) (.tuple #[]):=fun w' C' ρ' H'=>.tup [] [] rfl fun i h=>by simp at h
 rcases qwcb hR hp with ⟨rfl,rfl⟩|⟨r,s,cap,hr,rfl,hc⟩
 · have hg0:g []=[]:=List.length_eq_zero_iff.1 (by rw[hg];rfl)
   rw[hg0];refine (h0 none 0 w).mono ?_;rintro e w' ⟨rfl,rfl⟩;exact ⟨_,C,ρ,rfl,hR,.refl _ _ _ _,htup _ _ _ _⟩
 · obtain ⟨hH,hs⟩:=qgq hE hR hr;refine (h r cap xs w hH hs hl).mono ?_;rintro e w' ⟨rfl,n,os,rfl⟩;obtain ⟨k1,k2⟩:=qfk hE false (hg xs) hR hr n os
   have hC:(fun r' o=>C r' o∨(false=true∧r' = r∧o<(g xs).length))=C:=by
    funext r' o;simp
   rw[hC] at k1 k2;exact ⟨_,C,ρ,rfl,k1,k2,htup _ _ _ _⟩
theorem qfkb (hE:EncOK enc dE) {f:FuncId} (hb:Body P f) {g:List α→List α} {k:List α→Nat} (hg:∀ l,(g l).length=l.length) (hk:∀ l,k l≤l.length)
 (h:∀ (blk cap:Nat) (l:List α) (w:World),Holds enc w blk 0 l.toArray→l.length≤9223372036854775807→l.length≤cap→Calls P f #[.slice (some ⟨blk,0,none⟩) l.length cap] w fun e w'=>e = .returned (.slice (some ⟨blk,0,none⟩) (k l) cap)∧∃ n,w' = putRow enc (Sort.ahead w n) blk 0 (g l).toArray)
 (h0:∀ p cap w,Calls P f #[.slice p 0 cap] w fun e w'=>e = .returned (.slice p 0 cap)∧w' = w) (xs:List α) (hl:xs.length<4611686018427387904) :
 CC P G f [rowB false ty dE xs] [.own 0 xs.length 0 xs.length] [rowB true ty dE (g xs)] (.d (.sl (((g xs).take (k xs)).map fun x=>[dE x]))):=by
 refine ⟨hb,fun w C ρ vs hR hG hv=>?_⟩
 obtain ⟨hlen,hv⟩:=hv
 obtain ⟨v,rfl⟩:∃ v,vs=[v]:=by
  match vs,hlen with
  | [v],_=>exact ⟨v,rfl⟩
 have hp:=hv 0 (by simp) (by simp)
 simp only[List.getElem_cons_zero] at hp;rcases qwcb hR hp with ⟨rfl,rfl⟩|⟨r,s,cap,hr,rfl,hc⟩
 · have hg0:g []=[]:=List.length_eq_zero_iff.1 (by rw[hg];rfl)
   rw[hg0];refine (h0 none 0 w).mono ?_;rintro e w' ⟨rfl,rfl⟩;have hb0:=hR.blk 0 _ (rfl:hOf [rowB false ty dE ([]:List α)] 0=some (rowB false ty dE []))
   have hrep:RepA w' C ρ (hOf [rowB true ty dE ([]:List α)]) (.d (.sl ((([]:List α).take (k [])).map fun x=>[dE x]))) (.slice none 0 0):=by
    simp only[List.take_nil,List.map_nil];exact .d _ _ .nil
   cases hr:ρ 0 with
   | none=>
    refine ⟨_,C,ρ,rfl,⟨fun b blk hb=>?_,fun b b' r1 s1 s2 hne h1 h2=>?_,hR.com⟩,⟨fun _ _ h=>h,fun _ _ _=>rfl,fun b blk hb=>?_,rfl,rfl,rfl,Nat.le_refl _,fun _ _ _=>rfl,fun r' h=>?_,fun _ _ h=>.inl h⟩,hrep⟩
    · match b,hb with
      | 0,hb=>
       obtain rfl:rowB true ty dE ([]:List α)=blk:=by simpa [hOf] using hb
       unfold BlkOK;rw[hr];exact ⟨rfl,rfl⟩
      | b+1,hb=>simp[hOf] at hb
    · match b,b' with
      | 0,0=>exact absurd rfl hne
      | b+1,_=>simp[hOf] at h1
      | 0,b'+1=>simp[hOf] at h2
    · match b,hb with
      | 0,hb=>
       obtain rfl:rowB false ty dE ([]:List α)=blk:=by simpa [hOf] using hb
       exact ⟨rowB true ty dE [],rfl,rfl,Nat.le_refl _,fun _=>rfl⟩
      | b+1,hb=>simp[hOf] at hb
    · obtain ⟨b,s',hb,hrb⟩:=h
      match b,hb with
      | 0,_=>rw[hr] at hrb;cases hrb
      | b+1,hb=>simp[hOf] at hb
   | some p=>
    obtain ⟨r,s⟩:=p;have hH:Holds enc w' r 0 ([]:List α).toArray:=fun j hj=>by simp at hj
    obtain ⟨k1,k2⟩:=qfk hE true (xs:=([]:List α)) (ys:=[]) rfl hR hr 0 #[]
    have hw:grow (putRow enc (Sort.ahead w' 0) r 0 ([]:List α).toArray) #[]=w':=by
     rw[grow_empty,Sort.ahead_zero,putRow_self enc w' r 0 _ hH]
    rw[hw] at k1 k2;refine ⟨_,_,ρ,rfl,k1,k2,?_⟩;simp only[List.take_nil,List.map_nil];exact .d _ _ .nil
 · obtain ⟨hH,hs⟩:=qgq hE hR hr;refine (h r cap xs w hH (by omega) hc).mono ?_
   rintro e w' ⟨rfl,n,rfl⟩;obtain ⟨k1,k2⟩:=qfk hE true (hg xs) hR hr n #[];rw[grow_empty] at k1 k2;have hb0:=hR.blk 0 _ (rfl:hOf [rowB false ty dE xs] 0=some (rowB false ty dE xs));unfold BlkOK at hb0;rw[hr] at hb0;obtain ⟨⟨cs,lo,hi,m1,m2,m3,m4,m5,m6,m7⟩,n1,n2⟩:=hb0;have hx:xs.length≤cs.size:=by simpa [rowB,m2] using m5
   refine ⟨_,_,ρ,rfl,k1,k2,.d _ _ ?_⟩;have hkl:=hk xs;have hgl:=hg xs;have hlen':(((g xs).take (k xs)).map fun x=>[dE x]).length=k xs:=by simp;omega
   have key:=RepD.sl (w:=putRow enc (Sort.ahead w n) r 0 (g xs).toArray) (C:=fun r' o=>C r' o∨(true=true∧r' = r∧o<(g xs).length)) (((g xs).take (k xs)).map fun x=>[dE x]) r 0 cap 1 (fun i _=>enc (g xs).toArray[i]!) (by rw[hlen'];omega)
    (fun i h=>by simp) (fun i j h1 h2=>.inr ⟨rfl,rfl,by rw[hlen'] at h1;omega⟩)
    (fun i j h1 h2=>by
     rw[hlen'] at h1;refine ⟨?_,hE.one _⟩;have hj:j=0:=by omega
     subst hj;have hrow':=qfj (enc:=enc) (n:=n) (os:=#[]) (g xs).toArray m1;rw[grow_empty] at hrow';rw[qib,hrow'];simp only[Nat.mul_one,Nat.add_zero,Nat.zero_add];exact qff (by simp;omega) (by omega))
    (fun i j h1 h2=>by
     rw[hlen'] at h1;have hj:j=0:=by simp at h2;exact h2
     subst hj;simp only[List.getElem_map,List.getElem_cons_zero,List.getElem_take];have:(g xs).toArray[i]! = (g xs)[i]'(by omega):=by simp[show i<(g xs).length by omega]
     rw[this];exact hE.rep _ _ _)
   rw[hlen'] at key;exact key
end
end Am

namespace Am
open Go Go.RowKit
variable {w w':World} {C:Com} {ρ:Rho} {H:Heap}
theorem ext_below (hR:RelH w C ρ H) (hb:Below w.heap.size w w'):Ext w C ρ H w' C ρ H where
 com _ _ h:=h
 cell r o hc:=qdb (hb.block r (hR.com_lt hc))
 blk _ blk h:=⟨blk,h,rfl,Nat.le_refl _,fun _=>rfl⟩
 os:=hb.os
 tape:=hb.tape
 output:=hb.output
 size:=hb.size
 same r hr _:=hb.block r hr
 rows _ h:=.inl h
 grow _ _ h:=.inl h
theorem qpm (hR:RelH w C ρ H) (hb:Below w.heap.size w w'):RelH w' C ρ H where
 blk b blk hx:=(hR.blk b blk hx).ext (ext_below hR hb) rfl (fun r s hr=>hb.block r (hR.row_lt ⟨b,s,by simp[hx],hr⟩)) (fun _ _ _ _ _ hc=>hc)
 dis:=hR.dis
 com r o hc:=by
  obtain ⟨v,hv⟩:=hR.com r o hc;exact ⟨v,by rw[(ext_below hR hb).cell r o hc];exact hv⟩
theorem ext_add (hR:RelH w C ρ H) (hb:Below w.heap.size w w') {b g:Nat} {blk:Blk} {cs:Array Value} (hid:H b=none) (hg:w.heap.size≤g) :
 Ext w C ρ H w' C (rhoSet ρ b (g,cs.size)) (updH H b blk) where
 com _ _ h:=h
 cell r o hc:=qdb (hb.block r (hR.com_lt hc))
 blk x blk0 hx:=by
  have hxb:x≠b:=fun e=>by subst e;rw[hid] at hx;cases hx
  exact ⟨blk0,by rw[qj _ _ hxb];exact hx,rfl,Nat.le_refl _,fun _=>qo _ _ hxb⟩
 os:=hb.os
 tape:=hb.tape
 output:=hb.output
 size:=hb.size
 same r hr _:=hb.block r hr
 rows r ho:=by
  obtain ⟨x,s,hx,hr⟩:=ho
  by_cases hxb:x=b
  · subst hxb;rw[qn] at hr;simp at hr;exact .inr (by omega)
  · rw[qj _ _ hxb] at hx;rw[qo _ _ hxb] at hr;exact .inl ⟨x,s,hx,hr⟩
 grow _ _ h:=.inl h
theorem qaw (hR:RelH w C ρ H) (hb:Below w.heap.size w w') {b g:Nat} {blk:Blk} {cs:Array Value} (hid:H b=none) (hg:w.heap.size≤g) (hcs:w'.heap[g]? = some (.cells cs blk.ty (0,0)))
 (hf:Fits w' C ρ H blk cs) (hfz:blk.fz=false):RelH w' C (rhoSet ρ b (g,cs.size)) (updH H b blk):=by
 have hR':=qpm hR hb;have e:=ext_add (cs:=cs) (blk:=blk) hR hb hid hg;have hlt:∀ x r s,(H x).isSome=true→ρ x=some (r,s)→r<w.heap.size:=fun x r s hx hr=>hR.row_lt ⟨x,s,hx,hr⟩
 have hup:∀ {x:AV} {v:Value},RepA w' C ρ H x v→RepA w' C (rhoSet ρ b (g,cs.size)) (updH H b blk) x v:=fun {x v} h=>by
  induction h with
  | d x v h=>exact .d x v h
  | nils=>exact .nils
  | agg cs vs hl h1 _ ih=>exact .agg cs vs hl h1 ih
  | tup cs vs hl _ ih=>exact .tup cs vs hl ih
  | ptr b1 n i j v blk1 hb1 hn h1 h=>
   have hne:b1≠b:=fun e=>by subst e;rw[hid] at hb1;cases hb1
   refine .ptr b1 n i j v blk1 (by rw[qj _ _ hne];exact hb1) hn h1 fun hh=>?_
   rw[qo _ _ hne];exact h hh
  | own b1 n off len v blk1 hb1 hn h1 h=>
   have hne:b1≠b:=fun e=>by subst e;rw[hid] at hb1;cases hb1
   refine .own b1 n off len v blk1 (by rw[qj _ _ hne];exact hb1) hn h1 fun hh=>?_
   rw[qo _ _ hne];exact h hh
  | eptr cs r o vs hC hcell hrec=>exact .eptr cs r o vs hC hcell hrec
  | clo f first caps fv cv hf hc _ _ ih1 ih2=>exact .clo f first caps fv cv hf hc ih1 ih2
  | junk v=>exact .junk v
 constructor
 · intro x blk0 hx
   by_cases hxb:x=b
   · subst hxb;rw[qr] at hx;obtain rfl:blk=blk0:=by simpa using hx
     unfold BlkOK;rw[qn];obtain ⟨f1,f2,f3⟩:=hf;refine ⟨⟨cs,0,0,hcs,rfl,fun _ _=>⟨rfl,rfl⟩,fun _ o _=>by omega,f1,f2,fun i j hi hj=>?_⟩,fun _ o hc=>?_,fun h=>by simp[hfz] at h⟩
     · obtain ⟨v,g1,g2,g3⟩:=f3 i j hi hj;exact ⟨v,g1,g2,hup g3⟩
     · have:=hR.com_lt hc;omega
   · rw[qj _ _ hxb] at hx;exact (hR.blk x blk0 hx).ext e (qo _ _ hxb) (fun r s hr=>hb.block r (hlt x r s (by simp[hx]) hr)) (fun _ _ _ _ _ hc=>hc)
 · intro x y r s s' hne hx hy hrx hry
   by_cases hxb:x=b
   · subst hxb;have hyb:y≠x:=fun e=>hne e.symm
     rw[qn] at hrx;rw[qj _ _ hyb] at hy;rw[qo _ _ hyb] at hry;have:=hlt y r s' hy hry;simp at hrx;omega
   · by_cases hyb:y=b
     · subst hyb;rw[qn] at hry;rw[qj _ _ hxb] at hx;rw[qo _ _ hxb] at hrx;have:=hlt x r s hx hrx;simp at hry;omega
     · rw[qj _ _ hxb] at hx;rw[qj _ _ hyb] at hy;rw[qo _ _ hxb] at hrx;rw[qo _ _ hyb] at hry;exact hR.dis x y r s s' hne hx hy hrx hry
 · exact hR'.com
theorem qtq (hR:RelH w C ρ H) (hb:Below w.heap.size w w') {b:Nat} {blk:Blk} (hid:H b=none) (h0:blk.rows=[]) (hap:blk.ap=true) :
 RelH w' C (fun x=>if x=b then none else ρ x) (updH H b blk)∧Ext w C ρ H w' C (fun x=>if x=b then none else ρ x) (updH H b blk):=by
 have hR':=qpm hR hb
 have e:Ext w C ρ H w' C (fun x=>if x=b then none else ρ x) (updH H b blk):=by
  refine ⟨fun _ _ h=>h,fun r o hc=>qdb (hb.block r (hR.com_lt hc)),fun x blk0 hx=>?_,hb.os,hb.tape,hb.output,hb.size,fun r hr _=>hb.block r hr,fun r ho=>?_,fun _ _ h=>.inl h⟩
  · have hxb:x≠b:=fun e=>by subst e;rw[hid] at hx;cases hx
    exact ⟨blk0,by rw[qj _ _ hxb];exact hx,rfl,Nat.le_refl _,fun _=>if_neg hxb⟩
  · obtain ⟨x,s,hx,hr⟩:=ho
    by_cases hxb:x=b
    · simp[hxb] at hr
    · rw[qj _ _ hxb] at hx;simp only[hxb,if_false] at hr;exact .inl ⟨x,s,hx,hr⟩
 refine ⟨⟨fun x blk0 hx=>?_,fun x y r s s' hne hx hy hrx hry=>?_,hR'.com⟩,e⟩
 · by_cases hxb:x=b
   · subst hxb;rw[qr] at hx;obtain rfl:blk=blk0:=by simpa using hx
     unfold BlkOK;simp only[if_true];exact ⟨h0,hap⟩
   · rw[qj _ _ hxb] at hx;exact (hR.blk x blk0 hx).ext e (if_neg hxb) (fun r s hr=>hb.block r (hR.row_lt ⟨x,s,by simp[hx],hr⟩)) (fun _ _ _ _ _ hc=>hc)
 · by_cases hxb:x=b
   · simp[hxb] at hrx
   · by_cases hyb:y=b
     · simp[hyb] at hry
     · rw[qj _ _ hxb] at hx;rw[qj _ _ hyb] at hy;simp only[hxb,if_false] at hrx;simp only[hyb,if_false] at hry;exact hR.dis x y r s s' hne hx hy hrx hry
end Am
