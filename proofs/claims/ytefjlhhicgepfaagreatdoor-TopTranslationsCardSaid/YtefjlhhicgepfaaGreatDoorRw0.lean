/- Lemmas. -/
import Derived.Test.YtefjlhhicgepfaaGreatDoorSb3
import Derived.ReadAgain
import Derived.ChangeReads
import Derived.OpenShut
import Derived.Test.YtefjlhhicgepfaaGreatDoorRows
import Derived.Lib.LaidTab
import Derived.ChangeArms
import Derived.Test.YtefjlhhicgepfaaGreatDoorCards
import Derived.Test.YtefjlhhicgepfaaGreatDoorTie
import Derived.ProofKit
import Derived.Deep.DeepHandedRow
set_option linter.unusedSimpArgs false
set_option linter.unusedVariables false
set_option linter.unusedSectionVars false
open List (getElem?_eq_getElem getElem_map mapM_cons range)
open Option (bind_eq_bind bind_eq_some_iff pure_def)
namespace Am
open Go Go.ChangeShapes Go.WideShapes
def rz(W:World):Com:=fun r o=>∃ v,W.cell? ⟨r,o,none⟩ = some v
theorem a0n(W:World)(ρ:Rho):bh W (rz W) ρ (hOf []):=⟨fun b k h=>by simp[hOf] at h,fun b b' r s s' _ h=>by simp[hOf] at h,fun r o h=>h⟩
section
variable {H:Type}{enc:TypeId × Value→H}{P:Program}{W W':World}{C C':Com}{ρ ρ':Rho}
theorem Ext.old(hE:Ext W C ρ (hOf []) W' C' ρ' (hOf [])){r:Nat}(h:r<W.heap.size):W'.heap[r]? = W.heap[r]?:=
 hE.same r h (fun ⟨b,s,hb,_⟩=>by simp[hOf] at hb)
theorem aqc{w w':World}{a:Addr}(h:w'.heap[a.block]? = w.heap[a.block]?):w'.cell? a=w.cell? a:=by
 unfold World.cell?;rw[h]
theorem axy(hE:Ext W C ρ (hOf []) W' C' ρ' (hOf [])):∀ p:MemPlace,p.block<W.heap.size→W.sameAt W' p
 | .cell b off,h=>aqc (hE.old h)
 | .map b,h=>hE.old h
theorem qej{base:Nat}{sp:Nat→Bool}{hd:Bool}:∀ {ts:List TypeId} {vs:List Value} {ds:List (DataW H)} {ps:List MemPlace},DataW.TrodAll enc P W base sp hd ts vs ds ps→(∀ p∈ps,W.sameAt W' p)→DataW.TrodAll enc P W' base sp hd ts vs ds ps
 | [],[],[],_,h,_=>h
 | _::_,_::_,_::_,_,⟨p,q,⟨n,h1⟩,h2,e⟩,hs=>
  ⟨p,q,⟨n,DataW.trod_carry n _ _ _ h1 (fun x hx=>hs x (by rw[e];exact List.mem_append_left _ hx))⟩,qej h2 (fun x hx=>hs x (by rw[e];exact List.mem_append_right _ hx)),e⟩
theorem abf{f:Func}{s:ChangeSpec}{apart fresh aeg again:Bool}{args:Array Value}{ds gs:List (DataW H)}{before:List MemPlace}{tb:TypeId}
 (hl:laidOutB P=true) (hm:mapsRowed P=true) (hz:((range P.types.size).all fun t=>match P.underlying t with|some (.slice e)=>decide (0<P.cellsOf e)|_=>true)=true)
 (hT:∀ t∈f.params.toList,t<P.types.size) (yv:s.vars=[])
 (hW:DataW.Whole enc P f.params.toList s.vars apart W args.toList ds gs before)
 (hfn:s.fn H (ds++gs) = { results:=[.lit (.bool true)],args:=ds }) (abi:f.resultTypes = #[tb]) (hb:P.underlying tb=some .bool)
 (hE:Ext W C ρ (hOf []) W' C' ρ' (hOf [])):s.post enc P f apart fresh aeg again W args (.bool true) W':=by
 have cf:=hW.lt;have hW0:=hW;obtain ⟨p,q,hA,hV,hpq,kz,xw⟩:=hW0;rw[yv] at hV;obtain ⟨rfl,rfl⟩:=trodVars_none hV;simp only[List.append_nil] at hpq;subst hpq
 have f9:∀ b off,MemPlace.cell b off∈before→W'.frozen? ⟨b,off,none⟩ = false:=by
  intro b off hp
  rw[show W'.frozen? ⟨b,off,none⟩ = W.frozen? ⟨b,off,none⟩ by
   unfold World.frozen?;rw[show W'.heap[b]? = W.heap[b]? from hE.old (cf _ hp)]]
  exact kz b off hp
 have hA':DataW.TrodAll enc P W' 0 (fun _=>true) true f.params.toList args.toList ds before:=qej hA (fun x hx=>axy hE x (cf x hx))
 have hR:∀ (b:Nat) (sp:Nat→Bool) (hd:Bool),DataW.TrodAll enc P W' b sp hd [tb] [.bool true] [.lit (.bool true)] []:=fun b sp hd=>trodAll_mk1 ⟨1,by simp[DataW.trod,Value.cells,hb]⟩
 have zj:(Value.bool true).resultList f.resultTypes.size=[.bool true]:=by rw[abi];rfl
 refine ⟨ds,[],before,[],before,[],hW,?_,?_,?_,?_,fun _=>⟨?_,[.lit (.bool true)]++ds,[],before,⟨[]++before,[],?_,?_,by simp,f9,xw⟩,fun p hp _=>hp⟩⟩
 · rw[zj,abi,hfn];exact hR _ _ _
 · rw[hfn];exact hA'.respare (kids_rows hl hm) (slices_full_of P hz) hT (fun p hp=>decide_eq_true (cf p hp))
 · rw[yv,hfn];rfl
 · refine ⟨hE.os,hE.output,fun i hi=>?_⟩
   rw[hE.old hi];cases hc:W.heap[i]? with
   | none=>rfl
   | some o=>cases o with
    | cells c t fr=>exact ⟨rfl,rfl,rfl,fun _ _=>rfl⟩
    | map es clock=>exact .inr ⟨rfl,rfl⟩
    | _=>rfl
 · intro j t r h1 h2;rw[zj] at h2;rw[abi] at h1;cases j with
   | succ j=>simp at h2
   | zero=>
    simp at h1 h2;subst h1;subst h2;simp[Value.okWide,hb,Cell.okWide,Cell.ok]
 · rw[zj,abi];exact trodAll_append hA' (hR _ _ _)
 · rw[yv];rfl
end
end Am

namespace Go.Proofs.YtefjlhhicgepfaaGreatDoor
open Go.Proofs.Tryz (prog)
open Go Am Go.ChangeShapes Go.WideShapes
set_option maxRecDepth 100000
theorem qoub:prog.globalNamed "deliberation/formula.words" = some 0:=by kernel_rfl
theorem qpwb:(prog.globals[0]?).map (·.type)=some 130:=by kernel_rfl
theorem u89:prog.underlying 130=some (.array 9 9):=by kernel_rfl
theorem u9:prog.underlying 9=some .string:=by kernel_rfl
theorem c9:prog.cellsOf 9=1:=by kernel_rfl
theorem c89:prog.cellsOf 130=9:=by kernel_rfl
theorem u4:prog.underlying 4=some .bool:=by kernel_rfl
theorem u3:prog.underlying 3=some (.int .i64):=by kernel_rfl
theorem avr:laidOutB prog=true:=by kernel_rfl
theorem as5:mapsRowed prog=true:=by kernel_rfl
theorem a4n:((range prog.types.size).all fun t=>match prog.underlying t with|some (.slice e)=>decide (0<prog.cellsOf e)|_=>true)=true:=by kernel_rfl
theorem a4x:ownKnob prog.godebug=none:=by kernel_rfl
def wordsB:List (List UInt8):=[[],[],[],[],[],[32,38,32],[32,124,32],[32,45,62,32],[32,60,45,62,32]]
def GW:bl:=fun g=>match g with|0=>some wordsD|_+1=>none
theorem ap1:mq GW:=rfl
theorem qby {W:World} (h:laidMetH prog [("deliberation/formula.words",Rows.laid_deliberation_formula_words)] W):∀ j,j<9→W.cell? ⟨0,j,none⟩ = some (.string ⟨⟨wordsB.getD j []⟩⟩):=by
 obtain ⟨ps,⟨g',t',cs,fuel,p,q,xz,ht',a0a,hd,_,_⟩,_⟩:=h;obtain rfl:=Option.some.inj (qoub.symm.trans xz);obtain rfl:=Option.some.inj (qpwb.symm.trans ht');cases fuel with
 | zero=>simp[DataW.trod] at hd
 | succ fuel=>
  simp only[DataW.trod,u89,c9,c89,Nat.mul_one] at hd
  split at hd
  · rename_i hl;obtain ⟨xs,hm,hx⟩:=Option.map_eq_some_iff.1 hd;have l4:=congrArg Prod.fst hx;simp only[Rows.laid_deliberation_formula_words,DataW.agg.injEq] at l4;intro j hj;obtain ⟨b,hb,hf⟩:=Lib.mapM_at hm j j (by simp[hj])
    obtain ⟨s,hc,rfl,_⟩:=DataW.trod_string u9 hf
    have h1:cs.toList[j]? = some (.string s):=by
     have:=congrArg (·[0]?) hc
     simpa [List.getElem?_take,List.getElem?_drop] using this
    have h2:(xs.map (·.1))[j]? = some (DataW.lit (.string s.data.toList)):=by simp[hb]
    rw[l4] at h2;rw[World.var?_cell qoub a0a j,← Array.getElem?_toList,h1]
    have h3:s.data.toList=wordsB.getD j []:=by
     rcases (show j=0∨j=1∨j=2∨j=3∨j=4∨j=5∨j=6∨j=7∨j=8 by omega) with rfl|rfl|rfl|rfl|rfl|rfl|rfl|rfl|rfl<;>exact (Lit.string.inj (DataW.lit.inj (Option.some.inj h2))).symm
    rw[← h3]
  · cases hd
theorem aqp {W:World} (h:laidMetH prog [("deliberation/formula.words",Rows.laid_deliberation_formula_words)] W):j9 GW W (rz W):=by
 intro g cells hg;cases g with
 | succ g=>simp[GW] at hg
 | zero=>
  simp only[GW,Option.some.injEq] at hg;subst hg;have hc:=qby h;refine .eptr _ 0 0 (fun j=>.string ⟨⟨wordsB.getD j []⟩⟩) (fun j hj=>?_) (fun j hj=>?_) (fun j hj=>?_)
  · exact ⟨_,by simpa using hc j hj⟩
  · exact ⟨by simpa using hc j hj,rfl⟩
  · have gb:j<9:=hj;rcases (show j=0∨j=1∨j=2∨j=3∨j=4∨j=5∨j=6∨j=7∨j=8 by omega) with rfl|rfl|rfl|rfl|rfl|rfl|rfl|rfl|rfl<;>exact .str _
end Go.Proofs.YtefjlhhicgepfaaGreatDoor

namespace Am
open Go Go.ChangeShapes
def ab3(W:TypeId→List D→Prop):List TypeId→List D→Prop
 | [],ds=>ds=[]
 | t::ts,ds=>∃ a b,ds=a++b∧W t a∧ab3 W ts b
def WT(P:Program):Nat→TypeId→List D→Prop
 | 0,_,_=>False
 | n+1,t,ds=>match P.underlying t with
  | some .bool=>∃ b,ds=[.bool b]
  | some (.int k)=>∃ x,ds=[.int k x]∧(Lit.int k x).wf=true
  | some .string=>∃ l:List UInt8,ds=[.str l]∧l.length≤maxLen
  | some (.slice e)=>∃ xs:List (List D),ds=[.sl xs]∧xs.length≤maxLen∧∀ row∈xs,WT P n e row
  | some (.struct fs)=>ab3 (WT P n) (fs.toList.map (·.type)) ds
  | _=>False
def zd(P:Program):Nat→List Field→Option Nat
 | o,[]=>some o
 | o,f::fs=>if f.offset == o then zd P (o+P.cellsOf f.type) fs else none
def wx(P:Program)(L:List Nat):Bool:=L.all fun t=>match P.underlying t with
 | some .bool=>P.cellsOf t == 1
 | some (.int _)=>P.cellsOf t == 1
 | some .string=>P.cellsOf t == 1
 | some (.slice e)=>P.cellsOf t == 1&&L.contains e&&Nat.blt 0 (P.cellsOf e)
 | some (.struct fs)=>fs.toList.all (fun f=>L.contains f.type)&&zd P 0 fs.toList == some (P.cellsOf t)
 | _=>false
def RL(w:World)(ds:List D)(cs:List Value):Prop:=ds.length=cs.length∧∀ (i:Nat) (d:D) (v:Value),ds[i]? = some d→cs[i]? = some v→eb w (rz w) d v∧v.oneCell' = true
theorem RL.nil{w:World}:RL w [] []:=⟨rfl,fun i d v h=>by simp at h⟩
theorem RL.one{w:World}{d:D}{v:Value}(h:eb w (rz w) d v)(h1:v.oneCell' = true):RL w [d] [v]:=
 ⟨rfl,fun i d' v' hd hv=>by cases i with
  | zero=>simp at hd hv;subst hd;subst hv;exact ⟨h,h1⟩
  | succ i=>simp at hd⟩
theorem RL.append{w:World}{a b:List D}{x y:List Value}(h:RL w a x)(h':RL w b y):RL w (a++b) (x++y):=by
 refine ⟨by simp[h.1,h'.1],fun i d v hd hv=>?_⟩
 by_cases hi:i<a.length
 · rw[List.getElem?_append_left hi] at hd;rw[List.getElem?_append_left (by rw[← h.1];exact hi)] at hv
   exact h.2 i d v hd hv
 · rw[List.getElem?_append_right (by omega)] at hd
   rw[List.getElem?_append_right (by rw[← h.1];omega)] at hv
   rw[← h.1] at hv;exact h'.2 _ d v hd hv
section
variable {H:Type}{enc:TypeId × Value→H}{P:Program}{w:World}{base:Nat}{L:List Nat}
theorem qyk{α β:Type}{f:α→Option β}:∀ {l:List α} {r:List β},l.mapM f=some r→∀ (i:Nat) (a:α),l[i]? = some a→∃ b,r[i]? = some b∧f a=some b
 | [],_,_,i,a,ha=>by simp at ha
 | x::l,r,h,i,a,ha=>by
  simp only[mapM_cons,bind_eq_bind,bind_eq_some_iff,pure_def,Option.some.injEq] at h;obtain ⟨b,hb,r',ei,rfl⟩:=h;cases i with
  | zero=>
   simp only[List.getElem?_cons_zero,Option.some.injEq] at ha;subst ha;exact ⟨b,rfl,hb⟩
  | succ i=>exact qyk ei i a (by simpa using ha)
theorem qnj{α β:Type}{f:α→Option β}:∀ {l:List α} {r:List β},l.mapM f=some r→r.length=l.length
 | [],r,h=>by simp at h;subst h;rfl
 | x::l,r,h=>by
  simp only[mapM_cons,bind_eq_bind,bind_eq_some_iff,pure_def,Option.some.injEq] at h;obtain ⟨b,hb,r',ei,rfl⟩:=h;simp[qnj ei]
theorem cells?_at{a:Addr}{n:Nat}{cs:List Value}(h:w.cells? base a n=some cs):cs.length=n∧∀ i,i<n→∃ v,cs[i]? = some v∧w.cell? (a.add i)=some v:=by
 unfold World.cells? at h
 split at h
 · refine ⟨by simpa using qnj h,fun i hi=>?_⟩
   obtain ⟨b,h1,h2⟩:=qyk h i i (by simp[hi])
   exact ⟨b,h1,h2⟩
 · cases h
theorem qcu{a:Addr}{v:Value}(h:w.cell? a=some v):a.spot=none:=by
 unfold World.cell? at h
 split at h
 · split at h
   · cases h
   · rename_i hs;simpa using hs
 · cases h
theorem anj{a:Addr}(h:a.spot=none)(n:Nat):a.add n=⟨a.block,a.off+n,none⟩:=by
 unfold Addr.add
 split
 · rename_i h0;subst h0;cases a;simp at h;subst h;rfl
 · rfl
theorem qvr{n:Nat}(hrec:∀ (t:TypeId) (cs:List Value) (x:DataW H × List MemPlace),t∈L→DataW.trod enc P w base (fun _=>true) true n t cs=some x→cs.length=P.cellsOf t∧∃ ds,WT P n t ds∧RL w ds cs)
 (cs:List Value):∀ (fs:List Field) (o m:Nat) (xs:List (DataW H × List MemPlace)),fs.all (fun f=>L.contains f.type)=true→zd P o fs=some m→
 (fs.mapM fun f=>DataW.trod enc P w base (fun _=>true) true n f.type ((cs.drop f.offset).take (P.cellsOf f.type)))=some xs→m≤cs.length→∃ ds,ab3 (WT P n) (fs.map (·.type)) ds∧RL w ds ((cs.drop o).take (m-o))∧o≤m
 | [],o,m,xs,_,h,_,_=>by
  simp only[zd,Option.some.injEq] at h;subst h;exact ⟨[],rfl,by simpa using RL.nil,Nat.le_refl _⟩
 | f::fs,o,m,xs,hL,h,hm,an=>by
  simp only[zd] at h
  split at h
  · rename_i ho;have u5:f.offset=o:=by simpa using ho
    simp only[List.all_cons,Bool.and_eq_true] at hL;simp only[mapM_cons,bind_eq_bind,bind_eq_some_iff,pure_def,Option.some.injEq] at hm;obtain ⟨b,hb,r',ei,rfl⟩:=hm;obtain ⟨h1,d1,w1,r1⟩:=hrec _ _ _ (by simpa using hL.1) hb
    obtain ⟨ds,w2,r2,j7⟩:=qvr hrec cs fs _ _ _ hL.2 h ei an;refine ⟨d1++ds,⟨d1,ds,rfl,w1,w2⟩,?_,by omega⟩
    rw[u5] at r1
    have:(cs.drop o).take (m-o)=(cs.drop o).take (P.cellsOf f.type)++(cs.drop (o+P.cellsOf f.type)).take (m-(o+P.cellsOf f.type)):=by
     rw[show m-o=P.cellsOf f.type+(m-(o+P.cellsOf f.type)) by omega,List.take_add,List.drop_drop]
    rw[this];exact r1.append r2
  · cases h
theorem qtu(hL:wx P L=true):∀ (n:Nat) (t:TypeId) (cs:List Value) (x:DataW H × List MemPlace),t∈L→DataW.trod enc P w base (fun _=>true) true n t cs=some x→
 cs.length=P.cellsOf t∧∃ ds,WT P n t ds∧RL w ds cs:=by
 intro n
 induction n with
 | zero=>intro t cs x _ h;simp[DataW.trod] at h
 | succ n ih=>
  intro t cs x ht h;have hs:=List.all_eq_true.1 hL t ht;cases hu:P.underlying t with
  | none=>simp[hu] at hs
  | some u=>
   simp only[hu] at hs;cases u with
   | bool=>
    obtain ⟨b,rfl,rfl⟩:=DataW.trod_bool hu h;exact ⟨by simpa using (beq_iff_eq.1 hs).symm,[.bool b],by simp only[WT,hu];exact ⟨b,rfl⟩,.one (.bool b) rfl⟩
   | int k=>
    obtain ⟨z,rfl,rfl,hw⟩:=DataW.trod_int hu h;exact ⟨by simpa using (beq_iff_eq.1 hs).symm,[.int k z],by simp only[WT,hu];exact ⟨z,rfl,hw⟩,.one (.int k z) rfl⟩
   | string=>
    obtain ⟨s,rfl,rfl,hw⟩:=DataW.trod_string hu h;refine ⟨by simpa using (beq_iff_eq.1 hs).symm,[.str s.data.toList],by simp only[WT,hu];exact ⟨_,rfl,by simpa using hw⟩,.one (.str _) rfl⟩
   | slice e=>
    simp only[Bool.and_eq_true,beq_iff_eq] at hs;obtain ⟨⟨hc,he⟩,h0⟩:=hs;have h0':0<P.cellsOf e:=by simpa [Nat.blt_eq] using h0
    have he':e∈L:=by simpa using he
    rcases DataW.trod_slice hu h with ⟨rfl,rfl⟩|⟨a,len,cap,elems,rest,m,hm,rfl,rfl,hb,hl,fl,an,hel,ze,_⟩
    · exact ⟨by simpa using hc.symm,[.sl []],by simp only[WT,hu];exact ⟨[],rfl,by simp,by simp⟩,.one .nil rfl⟩
    · obtain rfl:n=m:=by omega
      refine ⟨by simpa using hc.symm,?_⟩
      have ak:∀ i,∃ row:List D,i<len→WT P n e row∧∃ cs,w.cells? base (a.add (i*P.cellsOf e)) (P.cellsOf e)=some cs∧RL w row cs:=by
       intro i
       by_cases hi:i<len
       · have h1:=hel i hi;rw[getElem?_eq_getElem (by omega)] at h1
         obtain ⟨cs,h2,h3⟩:=Option.bind_eq_some_iff.1 h1;obtain ⟨_,ds,h4,h5⟩:=ih _ _ _ he' h3;exact ⟨ds,fun _=>⟨h4,cs,h2,h5⟩⟩
       · exact ⟨[],fun h=>absurd h hi⟩
      obtain ⟨R,hR⟩:=Classical.axiomOfChoice ak;refine ⟨[.sl ((range len).map R)],?_,.one ?_ rfl⟩
      · simp only[WT,hu];refine ⟨_,rfl,by simp;omega,fun row ak=>?_⟩
        simp only[List.mem_map,List.mem_range] at ak;obtain ⟨i,hi,rfl⟩:=ak;exact (hR i hi).1
      · by_cases hcz:cap=0
        · subst hcz;have:len=0:=by omega
          subst this;exact .nilA a
        ·
         have acn:a.spot=none:=by
          have h1:∃ cs,w.cells? base (a.add 0) (P.cellsOf e)=some cs:=by
           by_cases ud:0<len
           · obtain ⟨_,cs,h2,_⟩:=hR 0 ud;exact ⟨cs,by simpa using h2⟩
           · obtain ⟨h1,h2⟩:=ze rfl;have:=h2 0 (by omega)
             rw[getElem?_eq_getElem (by omega)] at this
             obtain ⟨cs,h3,_⟩:=Option.bind_eq_some_iff.1 this;have hz:len=0:=by omega
             subst hz;exact ⟨cs,by simpa using h3⟩
          obtain ⟨cs,h1⟩:=h1;obtain ⟨v,_,h2⟩:=(cells?_at h1).2 0 h0';have:=qcu h2
          simpa [Addr.add] using this
         have bp:∀ i,i<len→∀ j,j<P.cellsOf e→∃ (d:D) (v:Value),(R i)[j]? = some d∧w.cell? ⟨a.block,a.off+i*P.cellsOf e+j,none⟩ = some v∧eb w (rz w) d v∧v.oneCell' = true:=by
          intro i hi j hj;obtain ⟨_,cs,h2,h3⟩:=hR i hi;obtain ⟨h4,h5⟩:=cells?_at h2;obtain ⟨v,h6,h7⟩:=h5 j hj;have gb:j<(R i).length:=by rw[h3.1,h4];exact hj
          obtain ⟨h8,h9⟩:=h3.2 j _ v (getElem?_eq_getElem gb) h6;refine ⟨_,v,getElem?_eq_getElem gb,?_,h8,h9⟩;rw[anj acn,anj rfl] at h7;exact h7
         have hRl:∀ i,i<len→(R i).length=P.cellsOf e:=by
          intro i hi;obtain ⟨_,cs,h2,h3⟩:=hR i hi;rw[h3.1];exact (cells?_at h2).1
         have hvs:∀ i j,∃ v:Value,i<len→j<P.cellsOf e→w.cell? ⟨a.block,a.off+i*P.cellsOf e+j,none⟩ = some v:=by
          intro i j
          by_cases hi:i<len∧j<P.cellsOf e
          · obtain ⟨d,v,_,h1,_⟩:=bp i hi.1 j hi.2;exact ⟨v,fun _ _=>h1⟩
          · exact ⟨.nilFunc,fun h1 h2=>absurd ⟨h1,h2⟩ hi⟩
         have a3g:∀ i,∃ f:Nat→Value,∀ j,i<len→j<P.cellsOf e→w.cell? ⟨a.block,a.off+i*P.cellsOf e+j,none⟩ = some (f j):=fun i=>Classical.axiomOfChoice (hvs i)
         obtain ⟨V,hV⟩:=Classical.axiomOfChoice a3g
         have key:=eb.sl (w:=w) (C:=rz w) ((range len).map R) a.block a.off cap (P.cellsOf e) V (by simpa using hl) (fun i h=>by simp at h ⊢;exact hRl i h)
          (fun i j hi hj=>⟨_,hV i j (by simpa using hi) hj⟩)
          (fun i j hi hj=>by
           have bn:i<len:=by simpa using hi
           refine ⟨hV i j bn hj,?_⟩;obtain ⟨d,v,_,h1,_,h2⟩:=bp i bn j hj;rw[hV i j bn hj] at h1;cases h1;exact h2)
          (fun i j hi hj=>by
           have bn:i<len:=by simpa using hi
           simp only[getElem_map,List.getElem_range] at hj ⊢;have gb:j<P.cellsOf e:=by rw[← hRl i bn];exact hj
           obtain ⟨d,v,h0,h1,h2,_⟩:=bp i bn j gb;rw[hV i j bn gb] at h1;cases h1;rw[getElem?_eq_getElem hj] at h0;cases h0;exact h2)
         have ha:a=⟨a.block,a.off,none⟩:=by cases a;simp at acn;subst acn;rfl
         simp only[List.length_map,List.length_range] at key;rw[ha];exact key
   | struct fs=>
    simp only[Bool.and_eq_true,beq_iff_eq] at hs;simp only[DataW.trod,hu] at h
    split at h
    · rename_i hl;obtain ⟨xs,hm,_⟩:=Option.map_eq_some_iff.1 h;obtain ⟨ds,w2,r2,_⟩:=qvr (L:=L) ih cs fs.toList 0 _ _ hs.1 hs.2 hm (by omega)
      refine ⟨hl,ds,by simp only[WT,hu];exact w2,?_⟩
      simpa [← hl] using r2
    · cases h
   | _=>simp at hs
end
end Am

namespace Am
open Go Go.ChangeShapes
theorem alm{P:Program}{n:Nat}(ih:∀ t ds,WT P n t ds→EWF ds):∀ (ts:List TypeId) (ds:List D),ab3 (WT P n) ts ds→EWF ds
 | [],ds,h=>by simp only[ab3] at h;subst h;intro d hd;simp at hd
 | t::ts,ds,⟨a,b,e,h1,h2⟩=>by
  subst e;intro d hd;rcases List.mem_append.1 hd with hd|hd
  · exact ih _ _ h1 d hd
  · exact alm ih ts b h2 d hd
theorem afu{P:Program}:∀ (n:Nat) (t:TypeId) (ds:List D),WT P n t ds→EWF ds
 | 0,_,_,h=>h.elim
 | n+1,t,ds,h=>by
  simp only[WT] at h
  split at h
  · obtain ⟨b,rfl⟩:=h;intro d hd;simp at hd;subst hd;exact .bool b
  · obtain ⟨x,rfl,_⟩:=h;intro d hd;simp at hd;subst hd;exact .int _ x
  · obtain ⟨l,rfl,_⟩:=h;intro d hd;simp at hd;subst hd;exact .str l
  · obtain ⟨xs,rfl,_,h2⟩:=h;intro d hd;simp at hd;subst hd;exact .sl xs fun r hr=>afu n _ r (h2 r hr)
  · exact alm (fun t ds=>afu n t ds) _ ds h
  · exact h.elim
def ad4(P:Program):Nat→List TypeId→List SV
 | _,[]=>[]
 | m,t::ts=>(match P.underlying t with|some (.struct _)=>.agg ((range (P.cellsOf t)).map fun i=>.atm (.v (m+i)))|_=>.atm (.v m))::ad4 P (m+P.cellsOf t) ts
inductive Ins(P:Program):List TypeId→List (List D)→Prop
 | nil:Ins P [] []
 | cons {t:TypeId} {ts:List TypeId} {d:List D} {I:List (List D)} (n:Nat) (h:WT P n t d) (hl:d.length=P.cellsOf t) (hr:Ins P ts I):Ins P (t::ts) (d::I)
theorem Ins.wf{P:Program}{ts:List TypeId}{I:List (List D)}(h:Ins P ts I):EWF I.flatten:=by
 induction h with
 | nil=>intro d hd;simp at hd
 | cons n h hl hr ih=>
  intro d hd;simp only[List.flatten_cons,List.mem_append] at hd;rcases hd with hd|hd
  · exact afu n _ _ h d hd
  · exact ih d hd
theorem qvv{w:World}{C:Com}{ρ:Rho}{H:ba}{a:AV}{l:List AV}{v:Value}{vs:List Value}(h:ao w C ρ H a v)(h':dy w C ρ H l vs):dy w C ρ H (a::l) (v::vs):=by
 refine ⟨by simp[h'.1],fun i hi bn=>?_⟩
 cases i with
 | zero=>exact h
 | succ i=>exact h'.2 i (by simpa using hi) (by simpa using bn)
section
variable {H:Type}{enc:TypeId × Value→H}{P:Program}{w:World}{L:List Nat}
theorem qhz(hL:wx P L=true){ρ:Rho}{Hp:ba}{base:Nat}:∀ (ts:List TypeId) (vs:List Value) (ds:List (DataW H)) (ps:List MemPlace),(ts.all fun t=>L.contains t)=true→
 DataW.TrodAll enc P w 0 (fun _=>true) true ts vs ds ps→(∀ (j:Nat) t v,ts[j]? = some t→vs[j]? = some v→Value.okWide P w .any base t v)→
 ∃ I:List (List D),Ins P ts I∧∀ (pre:Env) (ln:Nat→Nat),dy w (rz w) ρ Hp (SV.instL (pre++I.flatten) ln (ad4 P pre.length ts)) vs
 | [],vs,ds,ps,_,h,_=>by
  obtain ⟨rfl,rfl,rfl⟩:=trodAll_nil h;exact ⟨[],.nil,fun pre ln=>⟨rfl,fun i hi=>by simp[ad4,SV.instL] at hi⟩⟩
 | t::ts,vs,ds,ps,hts,h,hok=>by
  obtain ⟨v,vs',d,ds',p0,q0,rfl,rfl,rfl,h0,hr⟩:=trodAll_cons h;simp only[List.all_cons,Bool.and_eq_true] at hts;have ht:t∈L:=by simpa using hts.1
  obtain ⟨I,hI,rj⟩:=qhz hL (ρ:=ρ) (Hp:=Hp) (base:=base) ts vs' ds' q0 hts.2 hr fun j t' v' h1 h2=>hok (j+1) t' v' (by simpa using h1) (by simpa using h2)
  have hv:=hok 0 t v rfl rfl;obtain ⟨n,h0⟩:=h0;obtain ⟨an,row,hW,hR⟩:=qtu hL n t v.cells.toList _ ht h0;have vp:row.length=P.cellsOf t:=by rw[hR.1,an]
  refine ⟨row::I,.cons n hW vp hI,fun pre ln=>?_⟩
  have aeo:=rj (pre++row) ln;rw[List.length_append,vp,List.append_assoc] at aeo;simp only[List.flatten_cons,ad4,SV.instL];refine qvv ?_ aeo;have sk:=List.all_eq_true.1 hL t ht
  have single:v.cells.toList=[v]→P.cellsOf t=1→∃ x,row=[x]∧eb w (rz w) x v:=by
   intro hc h1;rw[hc] at hR;rw[h1] at vp
   match row,vp with
   | [x],_=>exact ⟨x,rfl,(hR.2 0 x v rfl rfl).1⟩
  have atom:(∃ x,row=[x]∧eb w (rz w) x v)→ao w (rz w) ρ Hp ((SV.atm (.v pre.length)).inst (pre++(row++I.flatten)) ln) v:=by
   rintro ⟨x,rfl,hx⟩
   have:(SA.v pre.length).val (pre++([x]++I.flatten))=x:=by
    simp[SA.val,List.getD_eq_getElem?_getD]
   simp only[SV.inst,this];exact .d x v hx
  cases hu:P.underlying t with
  | none=>simp[hu] at sk
  | some u=>
   simp only[hu] at sk;cases u with
   | struct fs=>
    simp only[Value.okWide,hu] at hv;obtain ⟨cs,rfl,de,_⟩:=hv;have kr:(Value.agg cs).cells.toList=cs.toList:=rfl;rw[kr] at hR an;obtain ⟨cs⟩:=cs;simp only at hR an;simp only[SV.inst]
    have hl2:SV.instL (pre++(row++I.flatten)) ln ((range (P.cellsOf t)).map fun i=>SV.atm (.v (pre.length+i)))=row.map .d:=by
     have key:∀ l:List Nat,SV.instL (pre++(row++I.flatten)) ln (l.map fun i=>SV.atm (.v (pre.length+i)))=l.map fun i=>AV.d ((pre++(row++I.flatten)).getD (pre.length+i) dfl):=by
      intro l
      induction l with
      | nil=>rfl
      | cons a l ih=>simp only[List.map_cons,SV.instL,SV.inst,ih,SA.val]
     rw[key]
     apply List.ext_getElem (by simp[vp])
     intro i h1 h2;simp only[getElem_map,List.getElem_range];have hi:i<row.length:=by simpa using h2
     congr 1
     rw[List.getD_eq_getElem?_getD,List.getElem?_append_right (by omega),show pre.length+i-pre.length=i by omega,List.getElem?_append_left hi,getElem?_eq_getElem hi]
     rfl
    rw[hl2];refine .agg _ _ (by simp[hR.1]) (fun x hx=>?_) (fun i h1 h2=>?_)
    · obtain ⟨i,hi,rfl⟩:=List.getElem_of_mem hx;have bn:i<row.length:=by rw[hR.1];exact hi
      exact (hR.2 i _ _ (getElem?_eq_getElem bn) (getElem?_eq_getElem hi)).2
    · have bn:i<row.length:=by simpa using h1
      simp only[getElem_map];exact .d _ _ (hR.2 i _ _ (getElem?_eq_getElem bn) (getElem?_eq_getElem h2)).1
   | bool=>
    refine atom (single ?_ (by simpa using sk))
    simp only[Value.okWide,hu,Cell.okWide,Cell.ok] at hv;cases v<;>first|rfl|simp at hv
   | int k=>
    refine atom (single ?_ (by simpa using sk))
    simp only[Value.okWide,hu,Cell.okWide,Cell.ok] at hv;cases v<;>first|rfl|simp at hv
   | string=>
    refine atom (single ?_ (by simpa using sk))
    simp only[Value.okWide,hu,Cell.okWide,Cell.ok] at hv;cases v<;>first|rfl|simp at hv
   | slice e=>
    refine atom (single ?_ (by simp only[Bool.and_eq_true,beq_iff_eq] at sk;exact sk.1.1))
    simp only[Value.okWide,hu,Cell.okWide,Cell.ok] at hv;cases v<;>first|rfl|simp at hv
   | _=>simp at sk
end
end Am
namespace Am
open Go
theorem Ins.len{P:Program}{ts:List TypeId}{I:List (List D)}(h:Ins P ts I):I.flatten.length=(ts.map P.cellsOf).foldr (· + ·) 0:=by
 induction h with
 | nil=>rfl
 | cons n h hl hr ih=>simp only[List.flatten_cons,List.length_append,hl,ih,List.map_cons,List.foldr_cons]
end Am

namespace Go.Proofs.YtefjlhhicgepfaaGreatDoor
open Go.Proofs.Tryz (prog)
open Go Am Go.ChangeShapes Go.WideShapes Go.ChangeAt Go.RowKit
set_option maxRecDepth 100000
noncomputable def r6(os:Os):World:=
 { World.holding prog os ⟨#[],#[],[]⟩ with heap := (World.holding prog os ⟨#[],#[],[]⟩).heap.modify 0 fun
    | .cells _ t frozen=>.cells (wordsB.map fun l=>Value.string ⟨⟨l⟩⟩).toArray t frozen
    | o=>o }
abbrev aeq:TypeId:=4
theorem a43:prog.underlying aeq=some .bool:=u4
def LT:List Nat:=[3,4,5,9,22,26,54]
theorem arb:wx prog LT=true:=by kernel_rfl
theorem ap0:prog.underlying 22=some (.slice 3):=by kernel_rfl
theorem azk{n:Nat}{d:List D}(h:WT prog n 3 d):∃ x:Int,d=[.int .i64 x]:=by
 cases n with
 | zero=>exact h.elim
 | succ n=>simp only[WT,u3] at h;obtain ⟨x,rfl,_⟩:=h;exact ⟨x,rfl⟩
theorem axx{n:Nat}{d:List D}(h:WT prog n 22 d):∃ l:List Int,d=[ab l]∧l.length≤maxLen:=by
 cases n with
 | zero=>exact h.elim
 | succ n=>
  simp only[WT,ap0] at h;obtain ⟨xs,rfl,hl,hx⟩:=h
  have key:∀ xs:List (List D),(∀ row∈xs,WT prog n 3 row)→∃ l:List Int,xs=l.map ie:=by
   intro xs
   induction xs with
   | nil=>intro _;exact ⟨[],rfl⟩
   | cons r xs ih=>
    intro h;obtain ⟨l,rfl⟩:=ih fun row hr=>h row (by simp[hr])
    obtain ⟨x,rfl⟩:=azk (h r (by simp))
    exact ⟨x::l,rfl⟩
  obtain ⟨l,rfl⟩:=key xs hx;exact ⟨l,rfl,by simpa using hl⟩
end Go.Proofs.YtefjlhhicgepfaaGreatDoor
