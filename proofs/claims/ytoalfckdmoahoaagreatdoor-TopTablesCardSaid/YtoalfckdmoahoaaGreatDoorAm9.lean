/- The abstract machine and its reader: lemmas. -/
import Derived.Test.YtoalfckdmoahoaaGreatDoorAmFun
import Derived.KernelRfl
set_option linter.unusedSimpArgs false
set_option linter.unusedVariables false
set_option linter.unusedSectionVars false
namespace Am
open Go
def getP:List AV→Nat→AV
 | [],_=>.junk
 | a::_,0=>a
 | _::l,t+1=>getP l t
def tl (l:List AV):Nat→AV:=getP l
theorem qrt (l:List AV):∀ t,l.getD t .junk=getP l t:=by
 induction l with
 | nil=>intro t;rfl
 | cons a l ih=>intro t;cases t with
  | zero=>rfl
  | succ t=>simpa [getP] using ih t
theorem qcxb (args:List AV) (n:Nat):iniA args n=tl (args++List.replicate (n-args.length) undefA):=by
 funext t
 exact qrt _ _
def getO:List (Option Blk)→Nat→Option Blk
 | [],_=>none
 | a::_,0=>a
 | _::l,t+1=>getO l t
def hl (l:List (Option Blk)):Heap:=getO l
theorem qqac (l:List Blk):hOf l=hl (l.map some):=by
 funext b
 unfold hOf hl
 induction l generalizing b with
 | nil=>rfl
 | cons a l ih=>cases b with
  | zero=>rfl
  | succ b=>simpa [getO] using ih b
end Am

namespace Am
open Go
variable {P:Program} {G:Glob} {k:Nat}
def stepS (P:Program) (G:Glob) (o:SO) (s:Sta) (K:Sta→Prop):Prop:=
 dstOK s.n o.dst∧
 match wantedS s.tm o.g with
 | some true=>opK P G s.nx (evA G s.tm) s.H o.op fun r=>K (s.app o.dst r)
 | some false=>K (s.skip o.dst)
 | none=>False
def regS (P:Program) (G:Glob) (K:Sta→Prop):List SO→Sta→Prop
 | [],s=>K s
 | o::rest,s=>stepS P G o s (regS P G K rest)
theorem qmr (ops:Array Oper) (K:Sta→Prop):∀ (l:List Oper) (s:Sta),regS P G K (l.map (slim1 ops)) s→regA P G ops K l s:=by
 intro l
 induction l with
 | nil=>intro s h;exact h
 | cons o rest ih=>
  intro s h;obtain ⟨h1,h2⟩:=h;refine ⟨h1,?_⟩;rw[qff]
  split at h2
  · rename_i hw;rw[hw]
    have mono:∀ (K1 K2:Res→Prop),(∀ r,K1 r→K2 r)→opK P G s.nx (evA G s.tm) s.H o.op K1→opK P G s.nx (evA G s.tm) s.H o.op K2:=by
     intro K1 K2 hk h;unfold opK at h ⊢
     split at h
     · split at h
       · obtain ⟨r,a1,a2,a3,a4,a5,a6,a7,a8,hs,hh⟩:=h;exact ⟨r,a1,a2,a3,a4,a5,a6,a7,a8,hs,hk _ hh⟩
       · exact h.elim
     · split at h
       · exact hk _ h
       · exact h.elim
    exact mono _ _ (fun r=>ih _) h2
  · rename_i hw;rw[hw];exact ih _ h2
  · exact h2.elim
def isCall:Op→Bool
 | .call { callee:=.value _,.. }=>true
 | .call { callee:=.invoke ..,.. }=>true
 | _=>false
def dstB (n:Nat):Option Nat→Bool
 | some d=>decide (d<n)
 | none=>true
def seqK (k:Nat) (K:Sta→Prop) (Q:Exit→Sta→Prop):Exit→Sta→Prop:=fun e s=>match e with | .normal=>∃ s',Ent k s s'∧K s'|e=>Q e s
def blockK (id:Nat) (Q:Exit→Sta→Prop):Exit→Sta→Prop:=fun e s=>match e with | .exit i=>if i=id then Q .normal s else Q (.exit i) s|e=>Q e s
def loopK (k:Nat) (I:Sta→Prop) (μ:Sta→Nat) (m:Nat) (Q:Exit→Sta→Prop):Exit→Sta→Prop:=
 fun e s1=>match e with | .normal=>∃ s',Ent k s1 s'∧I s'∧μ s' < m|e=>Q e s1
variable {Q:Exit→Sta→Prop} {s:Sta} {K:Sta→Prop}
theorem qhlb:∀ (l:List SO) (s:Sta),regS P G K l s→regE P G k K l s:=by
 intro l
 induction l with
 | nil=>intro s h;exact ⟨s,.refl _ _,h⟩
 | cons o rest ih=>
  intro s h;obtain ⟨h1,h2⟩:=h;refine ⟨s,.refl _ _,h1,?_⟩
  split at h2
  · rename_i hw;rw[hw]
    have mono:∀ (K1 K2:Res→Prop),(∀ r,K1 r→K2 r)→opK P G s.nx (evA G s.tm) s.H o.op K1→opK P G s.nx (evA G s.tm) s.H o.op K2:=by
     intro K1 K2 hk h;unfold opK at h ⊢
     split at h
     · split at h
       · obtain ⟨r,a1,a2,a3,a4,a5,a6,a7,a8,hs,hh⟩:=h;exact ⟨r,a1,a2,a3,a4,a5,a6,a7,a8,hs,hk _ hh⟩
       · exact h.elim
     · split at h
       · exact hk _ h
       · exact h.elim
    exact mono _ _ (fun r=>ih _) h2
  · rename_i hw;rw[hw];exact ih _ h2
  · exact h2.elim
theorem qqc (h:Q .normal s):awp P G k .skip Q s:=h
theorem qa {id:Nat} {ops:Array Oper} {l:List SO} (hl:slimL ops=l) (h:regS P G (Q .normal) l s):awp P G k (.region id ops false) Q s:=by
 subst hl;exact qhlb _ _ h
theorem qh {a b:Code} (h:awp P G k a (seqK k (awp P G k b Q) Q) s):awp P G k (.seq a b) Q s:=h
theorem qfb {id:Nat} {b:Code} (h:awp P G k b (blockK id Q) s):awp P G k (.block id b) Q s:=h
theorem qci {id:Nat} (h:Q (.exit id) s):awp P G k (.exit id) Q s:=h
theorem qfj (h:Q .ret s):awp P G k .ret Q s:=h
theorem qye {c:Operand} {a b:Code} (hc:evA G s.tm c = .d (.bool true)) (h:awp P G k a Q s):awp P G k (.cond c a b) Q s:=by
 simp only[awp,hc];exact h
theorem qbd {c:Operand} {a b:Code} (hc:evA G s.tm c = .d (.bool false)) (h:awp P G k b Q s):awp P G k (.cond c a b) Q s:=by
 simp only[awp,hc];exact h
theorem qtc {c:Operand} {a b:Code} {t:Bool} (hc:evA G s.tm c = .d (.bool t)) (ht:t=true→awp P G k a Q s) (hf:t=false→awp P G k b Q s):awp P G k (.cond c a b) Q s:=by
 cases t with
 | true=>exact qye hc (ht rfl)
 | false=>exact qbd hc (hf rfl)
theorem qkx {b:Code} (I:Sta→Prop) (μ:Sta→Nat) (s':Sta) (he:Ent k s s') (hi:I s')
 (h:∀ s,I s→awp P G k b (loopK k I μ (μ s) Q) s):awp P G k (.loop b) Q s:=⟨I,μ,⟨s',he,hi⟩,h⟩
theorem qd (h:K s):seqK k K Q .normal s:=⟨s,.refl _ _,h⟩
theorem qwc {s':Sta} (he:Ent k s s') (h:K s'):seqK k K Q .normal s:=⟨s',he,h⟩
theorem qqz (h:Q .ret s):seqK k K Q .ret s:=h
theorem qmg {id:Nat} (h:Q (.exit id) s):seqK k K Q (.exit id) s:=h
theorem qq {id:Nat} (h:Q .normal s):blockK id Q .normal s:=h
theorem qjo {id:Nat} (h:Q .ret s):blockK id Q .ret s:=h
theorem qme {id:Nat} (h:Q .normal s):blockK id Q (.exit id) s:=by simp only[blockK,if_true];exact h
theorem qf (h:K s):regS P G K [] s:=h
end Am

namespace Am
open Go
variable {P:Program} {G:Glob} {k:Nat} {Q:Exit→Sta→Prop} {s:Sta}
theorem qsbc (l:List AV) (t:Nat):tl l t=getP l t:=rfl
theorem qeec (l:List (Option Blk)) (t:Nat):hl l t=getO l t:=rfl
def doA (P:Program) (G:Glob) (id:Nat) (o:SO) (s:Sta):Option Res:=if isCall o.op then none else execA P id (evA G s.tm) s.H o.op
def stepW (P:Program) (G:Glob) (o:SO) (s:Sta):Option Bool→Option Sta
 | some true=>(doA P G s.nx o s).map (s.app o.dst)
 | some false=>some (s.skip o.dst)
 | none=>none
def stepF (P:Program) (G:Glob) (o:SO) (s:Sta):Bool→Option Sta
 | true=>stepW P G o s (wantedS s.tm o.g)
 | false=>none
mutual
def runF (P:Program) (G:Glob):Nat→List SO→Sta→Option (List SO × Sta)
 | 0,l,s=>some (l,s)
 | _+1,[],s=>some ([],s)
 | n+1,o::rest,s=>contF P G n rest (stepF P G o s (dstB s.n o.dst))
def contF (P:Program) (G:Glob):Nat→List SO→Option Sta→Option (List SO × Sta)
 | _,_,none=>none
 | n,l,some s=>runF P G n l s
end
theorem qvp {n:Nat} {d:Option Nat} (h:dstB n d=true):dstOK n d:=by
 cases d with
 | none=>trivial
 | some d=>simpa [dstB,dstOK] using h
theorem qxk {id:Nat} {ev:Operand→AV} {H:Heap} {op:Op} {K:Res→Prop} {r:Res} (hc:isCall op=false) (h:execA P id ev H op=some r) (hk:K r):opK P G id ev H op K:=by
 unfold opK
 split
 · simp[isCall] at hc
 · rw[h];exact hk
theorem qe {K:Sta→Prop}:∀ (n:Nat) {l:List SO} {s:Sta} {l':List SO} {s':Sta},runF P G n l s=some (l',s')→regS P G K l' s'→regS P G K l s:=by
 intro n
 induction n with
 | zero=>intro l s l' s' h hk;simp only[runF] at h;cases h;exact hk
 | succ n ih=>
  intro l s l' s' h hk;cases l with
  | nil=>simp only[runF] at h;cases h;exact hk
  | cons o rest=>
   simp only[runF] at h;cases hd:dstB s.n o.dst with
   | false=>rw[hd] at h;simp[stepF,contF] at h
   | true=>
    rw[hd] at h;refine ⟨qvp hd,?_⟩;simp only[stepF] at h;cases hw:wantedS s.tm o.g with
    | none=>rw[hw] at h;simp[stepW,contF] at h
    | some b=>
     rw[hw] at h;cases b with
     | false=>simp only[stepW,contF] at h;exact ih h hk
     | true=>
      simp only[stepW,doA] at h
      split at h
      · simp[contF] at h
      · rename_i hc;cases he:execA P s.nx (evA G s.tm) s.H o.op with
        | none=>rw[he] at h;simp[contF] at h
        | some r=>
         rw[he] at h;simp only[Option.map_some,contF] at h;exact qxk (by simpa using hc) he (ih h hk)
def stepX (P:Program) (G:Glob) (id:Nat) (o:SO) (s:Sta):Option Bool→Option (Sta × (List Nat × List Nat))
 | some true=>(doA P G id o s).map fun r=>(s.appD o.dst r,r.log)
 | some false=>some (s.skip o.dst,([],[]))
 | none=>none
def stepG (P:Program) (G:Glob) (id:Nat) (o:SO) (s:Sta):Bool→Option (Sta × (List Nat × List Nat))
 | true=>stepX P G id o s (wantedS s.tm o.g)
 | false=>none
mutual
def runG (P:Program) (G:Glob):Nat→List SO→Nat→Sta→Log→Option (List SO × Nat × Sta × Log)
 | 0,l,id,s,g=>some (l,id,s,g)
 | _+1,[],id,s,g=>some ([],id,s,g)
 | n+1,o::rest,id,s,g=>contG P G n rest (id+1) g (stepG P G id o s (dstB s.n o.dst))
def contG (P:Program) (G:Glob):Nat→List SO→Nat→Log→Option (Sta × (List Nat × List Nat))→Option (List SO × Nat × Sta × Log)
 | _,_,_,_,none=>none
 | n,l,id,g,some p=>runG P G n l id p.1 (g++[p.2])
end
theorem qse {K:Sta→Log→Prop}:∀ (n:Nat) {l:List SO} {id:Nat} {s:Sta} {g:Log} {l':List SO} {id':Nat} {s':Sta} {g':Log},
 runG P G n l id s g=some (l',id',s',g')→regD P G K l' id' s' g'→regD P G K l id s g:=by
 intro n
 induction n with
 | zero=>intro l id s g l' id' s' g' h hk;simp only[runG] at h;cases h;exact hk
 | succ n ih=>
  intro l id s g l' id' s' g' h hk;cases l with
  | nil=>simp only[runG] at h;cases h;exact hk
  | cons o rest=>
   simp only[runG] at h;cases hd:dstB s.n o.dst with
   | false=>rw[hd] at h;simp[stepG,contG] at h
   | true=>
    rw[hd] at h;refine ⟨qvp hd,?_⟩;simp only[stepG] at h;cases hw:wantedS s.tm o.g with
    | none=>rw[hw] at h;simp[stepX,contG] at h
    | some b=>
     rw[hw] at h;cases b with
     | false=>simp only[stepX,contG] at h;exact ih h hk
     | true=>
      simp only[stepX,doA] at h
      split at h
      · simp[contG] at h
      · rename_i hc;cases he:execA P id (evA G s.tm) s.H o.op with
        | none=>rw[he] at h;simp[contG] at h
        | some r=>
         rw[he] at h;simp only[Option.map_some,contG] at h;exact qxk (by simpa using hc) he (ih h hk)
theorem qzxb {K:Sta→Prop} {l:List SO} (t:Bool) (h1:t=true→regS P G K l s) (h0:t=false→regS P G K l s):regS P G K l s:=by
 cases t with
 | true=>exact h1 rfl
 | false=>exact h0 rfl
theorem qu {K:Sta→Prop} {o:SO} {rest:List SO} {c:Operand} {args:Array Operand} {ats:Array TypeId} {f:FuncId} {first caps avs:List AV}
 (hd:dstB s.n o.dst=true) (hw:wantedS s.tm o.g=some true) (ho:o.op = .call { callee:=.value c,args,argTypes:=ats })
 (hc:calleeOf (evA G s.tm c)=some (f,first,caps)) (ha:first++args.toList.map (evA G s.tm)++caps=avs)
 (hk:CallK P G s.nx s.H f avs fun r=>regS P G K rest (s.app o.dst r)):regS P G K (o::rest) s:=by
 refine ⟨qvp hd,?_⟩;rw[hw,ho]
 show opK P G s.nx (evA G s.tm) s.H _ _
 unfold opK;simp only[hc,ha];exact hk
theorem qbg {K:Sta→Log→Prop} {o:SO} {rest:List SO} {id:Nat} {g:Log} {c:Operand} {args:Array Operand} {ats:Array TypeId} {f:FuncId} {first caps avs:List AV}
 (hd:dstB s.n o.dst=true) (hw:wantedS s.tm o.g=some true) (ho:o.op = .call { callee:=.value c,args,argTypes:=ats })
 (hc:calleeOf (evA G s.tm c)=some (f,first,caps)) (ha:first++args.toList.map (evA G s.tm)++caps=avs)
 (hk:CallK P G id s.H f avs fun r=>regD P G K rest (id+1) (s.appD o.dst r) (g++[r.log])):regD P G K (o::rest) id s g:=by
 refine ⟨qvp hd,?_⟩;rw[hw,ho]
 show opK P G id (evA G s.tm) s.H _ _
 unfold opK;simp only[hc,ha];exact hk
theorem qqi {ops:Array Oper} {n0 id:Nat} {K:Sta→Prop} {g:Log} (m:Nat) (h:okD ops n0 g m=true) (hk:K { s with nx:=m }) :
 regD P G (fun s1 log=>∃ m,okD ops n0 log m=true∧K { s1 with nx:=m }) [] id s g:=⟨m,h,hk⟩
theorem qke {id:Nat} {ops:Array Oper} {l:List SO} (hm:P.follows .mixedOrders=true) (hl:slimL ops=l)
 (h:regD P G (fun s1 log=>∃ m,okD ops s.nx log m=true∧Q .normal { s1 with nx:=m }) l s.nx s []):awp P G k (.region id ops true) Q s:=by
 subst hl;exact ⟨hm,h⟩
section calls
variable {id:Nat} {H:Heap} {f:FuncId} {avs:List AV} {K:Res→Prop}
def mOf (ms:List Nat) (id:Nat) (i:Nat):Nat:=ms.getD i id
theorem qfc {r':AV} (cc:CC P G f [] avs [] r') (ha:avs.map (AV.ren fun _=>0)=avs) (hi:avs.all (AV.inK 0)=true) (hr:r'.ren (fun _=>0)=r') (hk:K ⟨r',[],[]⟩):CallK P G id H f avs K:=by
 refine ⟨⟨r',[],[]⟩,true,false,true,fun _=>0,[],avs,[],r',⟨cc,rfl,by simpa [avs1] using ha,hi,⟨by simp,by simp,by simp,by simp,by simp⟩,by simp,.inr (.inl rfl),fun _=>rfl,hr.symm,by simp,by simp[avIds]⟩,hk⟩
theorem qpvb {args':List AV} {r':AV} (cc:CC P G f [] args' [] r') (hf:avs.map (frzA H)=args') (ho:avs.all (frzAOk H)=true) (ha:args'.map (AV.ren fun _=>0)=args') (hi:args'.all (AV.inK 0)=true)
 (hr:r'.ren (fun _=>0)=r') {rb:List Nat} (hb:avs.flatMap (frzAIds H)=rb) {hs:List (Nat × Blk)} (hh:pinHs rb H=hs) (hk:K ⟨r',hs,rb⟩):CallK P G id H f avs K:=by
 subst hf;refine ⟨⟨r',hs,rb⟩,false,true,true,fun _=>0,[],avs.map (frzA H),[],r',⟨cc,by simpa [avOk] using ho,by simpa [avs1] using ha,hi,⟨by simp,by simp,by simp,by simp,by simp⟩,by simp,.inl rfl,fun _=>rfl,hr.symm,by simp[avIds,hb,hh],by simp[avIds,hb]⟩,hk⟩
theorem qfg (ms:List Nat) {Hin args' Hout} {r':AV} (cc:CC P G f Hin args' Hout r') (ha:args'.map (AV.ren (mOf ms id))=avs) (hi:args'.all (AV.inK Hin.length)=true)
 (hl:ms.length=Hin.length) (hl1:Hin.length≤Hout.length) (hl2:Hout.length≤Hin.length+1) (hnd:(ms++[id]).Nodup)
 (hold:ms.map H=Hin.map fun b=>some (b.ren (mOf ms id))) (hnew:H id=none) (hK:Hin.all (fun b=>b.rows.all (·.all (AV.inK Hin.length)))=true)
 {r1:AV} (hr:r'.ren (mOf ms id)=r1) {hs:List (Nat × Blk)} (hh:outHs (mOf ms id) Hout=hs) (hk:K ⟨r1,hs,ms⟩):CallK P G id H f avs K:=by
 have hmi:∀ i,mOf ms id i=(ms++[id]).getD i id:=fun i=>by
  unfold mOf;rw[List.getD_eq_getElem?_getD,List.getD_eq_getElem?_getD,List.getElem?_append]
  split
  · rfl
  · rename_i h;rw[List.getElem?_eq_none (by omega)]
    by_cases hi:i-ms.length=0
    · simp[hi]
    · rw[List.getElem?_eq_none (by simp;omega)]
 refine ⟨⟨r1,hs,ms⟩,true,false,false,mOf ms id,Hin,args',Hout,r',⟨cc,rfl,by simpa [avs1] using ha,hi,⟨fun i j h1 h2 h=>?_,hl1,fun i h=>?_,fun i h1 h2=>?_,fun i h row hrow=>?_⟩,fun i h1 h2=>?_,.inr (.inl rfl),by simp,hr.symm,by simp[hh],?_⟩,hk⟩
 · rw[hmi,hmi,List.getD_eq_getElem?_getD,List.getD_eq_getElem?_getD,List.getElem?_eq_getElem (by simp;omega),List.getElem?_eq_getElem (by simp;omega)] at h
   exact (List.getElem_inj hnd).1 (by simpa using h)
 · have hlt:i<ms.length:=by omega
   have h1:=congrArg (fun l=>l[i]?) hold
   simp only[List.getElem?_map,List.getElem?_eq_getElem hlt,List.getElem?_eq_getElem h,Option.map_some,Option.some.injEq] at h1;have:mOf ms id i=ms[i]:=by unfold mOf;rw[List.getD_eq_getElem?_getD,List.getElem?_eq_getElem hlt];rfl
   simp only[avIds,if_true];unfold pinH;rw[this]
   simpa using h1
 · have:mOf ms id i=id:=by unfold mOf;rw[List.getD_eq_getElem?_getD,List.getElem?_eq_none (by omega)];rfl
   simp only[avIds,if_true];unfold pinH;rw[this]
   simpa using hnew
 · simp only[List.all_eq_true] at hK ⊢;exact hK _ (List.getElem_mem h) row hrow
 · unfold mOf;rw[List.getD_eq_getElem?_getD,List.getElem?_eq_none (by omega)];rfl
 · simp only[avIds,if_true,List.nil_append];refine List.ext_getElem (by simp[hl]) fun i h1 h2=>?_
   simp only[List.getElem_map,List.getElem_range];unfold mOf;rw[List.getD_eq_getElem?_getD,List.getElem?_eq_getElem h1];rfl
end calls
inductive HeapIs:Nat→List Blk→Heap→Prop
 | nil (i:Nat) (H:Heap):HeapIs i [] H
 | cons {i:Nat} {b:Blk} {l:List Blk} {H:Heap}:H i=some b→HeapIs (i+1) l H→HeapIs i (b::l) H
theorem HeapIs.get {i:Nat} {l:List Blk} {H:Heap} (h:HeapIs i l H):∀ k (hk:k<l.length),H (i+k)=some l[k]:=by
 induction h with
 | nil=>intro k hk;simp at hk
 | cons h0 _ ih=>
  intro k hk;cases k with
  | zero=>exact h0
  | succ k=>
   have:=ih k (by simpa using hk)
   rw[show ∀ i,i+(k+1)=i+1+k from fun i=>by omega]
   simpa using this
theorem qwcc {fn:Func} {Hout:List Blk} {r:AV} {e:Exit} {H:Heap} {tm:Nat→AV} {nx n:Nat} (he:e = .normal∨e = .ret) (hf:finA P fn ⟨tm,H,nx,n⟩ = some r) (hk:k≤Hout.length) (hH:HeapIs 0 Hout H)
 (hin:Hout.all (fun b=>b.rows.all (·.all (AV.inK Hout.length)))=true) (hr:r.inK Hout.length=true) :
 (e = .normal∨e = .ret)∧∃ keep r0,EndA P fn k Hout r keep ⟨tm,H,nx,n⟩ r0:=by
 refine ⟨he,true,r,hf,rfl,?_,hk,fun i h=>?_,fun b hb row hrow=>?_,hr⟩
 · cases r<;>simp[ofList,avs1,resList]
 · simp only[avIds,if_true];unfold pinH;have:=hH.get i h;rw[Nat.zero_add] at this
   simpa using this
 · simp only[List.all_eq_true] at hin ⊢;exact hin b hb row hrow
theorem qftb {P:Program} {fn:Func} {s:Sta} {rs:List ResultVar} {xs:List AV} (h:fn.results.toList=rs) (hx:resAll P s rs=some xs):finA P fn s=some (tupA xs):=by
 unfold finA;rw[h,hx]
def Fin (P:Program) (fn:Func) (k:Nat) (Hout:List Blk) (r:AV):Exit→Sta→Prop:=fun e s=>(e = .normal∨e = .ret)∧∃ keep r0,EndA P fn k Hout r keep s r0
theorem qqbb {fn:Func} {r r1:AV} {e:Exit} {H:Heap} {tm:Nat→AV} {nx n:Nat} {rs:List ResultVar} (he:e = .normal∨e = .ret) (hrs:fn.results.toList=rs) (hf:(resAll P ⟨tm,H,nx,n⟩ rs).map tupA=some r1)
 (hr:r1=r∧r.inK 0=true):Fin P fn 0 [] r e ⟨tm,H,nx,n⟩:=by
 obtain ⟨rfl,hi⟩:=hr;rw[Option.map_eq_some_iff] at hf;obtain ⟨xs,h1,h2⟩:=hf;exact qwcc he (by rw[qftb hrs h1,h2]) (Nat.le_refl _) (.nil _ _) rfl hi
theorem qiob {K:Sta→Prop} {l:List SO} (d:Nat) {t:Bool} (_h:s.tm d = .d (.bool t)) (h1:t=true→regS P G K l s) (h0:t=false→regS P G K l s):regS P G K l s:=qzxb t h1 h0
def loopI {ι:Type} (k:Nat) (st:ι→Sta) (I:ι→Prop) (μ:ι→Nat) (m:Nat) (Q:Exit→Sta→Prop):Exit→Sta→Prop:=
 fun e s1=>match e with | .normal=>∃ i,Ent k s1 (st i)∧I i∧μ i<m|e=>Q e s1
theorem qwe {ι:Type} {st:ι→Sta} {I:ι→Prop} {μ:ι→Nat} {m:Nat} {id:Nat} (h:Q (.exit id) s):loopI k st I μ m Q (.exit id) s:=h
theorem qzb {ι:Type} {st:ι→Sta} {I:ι→Prop} {μ:ι→Nat} {m:Nat} (i:ι) (he:Ent k s (st i)) (hi:I i) (hm:μ i<m):loopI k st I μ m Q .normal s:=⟨i,he,hi,hm⟩
theorem qtg {c:Code}:∀ {Q Q':Exit→Sta→Prop} {s:Sta},(∀ e s,Q e s→Q' e s)→awp P G k c Q s→awp P G k c Q' s:=by
 induction c with
 | skip=>intro Q Q' s h hh;exact h _ _ hh
 | label l=>intro Q Q' s h hh;exact h _ _ hh
 | exit id=>intro Q Q' s h hh;exact h _ _ hh
 | ret=>intro Q Q' s h hh;exact h _ _ hh
 | region id ops draw=>
  intro Q Q' s h hh
  have opm:∀ {id:Nat} {ev:Operand→AV} {H:Heap} {op:Op} {K1 K2:Res→Prop},(∀ r,K1 r→K2 r)→opK P G id ev H op K1→opK P G id ev H op K2:=by
   intro id ev H op K1 K2 hk h;unfold opK at h ⊢
   split at h
   · split at h
     · obtain ⟨r,a1,a2,a3,a4,a5,a6,a7,a8,hs,hh⟩:=h;exact ⟨r,a1,a2,a3,a4,a5,a6,a7,a8,hs,hk _ hh⟩
     · exact h.elim
   · split at h
     · exact hk _ h
     · exact h.elim
  cases draw with
  | false=>
   have key:∀ (l:List SO) (s:Sta),regE P G k (Q .normal) l s→regE P G k (Q' .normal) l s:=by
    intro l
    induction l with
    | nil=>intro s hh;obtain ⟨s',h1,h2⟩:=hh;exact ⟨s',h1,h _ _ h2⟩
    | cons o rest ih=>
     intro s hh;obtain ⟨s',h0,h1,h2⟩:=hh;refine ⟨s',h0,h1,?_⟩
     split at h2
     · exact opm (fun r=>ih _) h2
     · exact ih _ h2
     · exact h2.elim
   exact key _ _ hh
  | true=>
   refine ⟨hh.1,?_⟩;have hh:=hh.2
   have key:∀ (l:List SO) (id:Nat) (s1:Sta) (g:Log),regD P G (fun s1 log=>∃ m,okD ops s.nx log m=true∧Q .normal { s1 with nx:=m }) l id s1 g→
    regD P G (fun s1 log=>∃ m,okD ops s.nx log m=true∧Q' .normal { s1 with nx:=m }) l id s1 g:=by
    intro l
    induction l with
    | nil=>intro id s1 g hh;obtain ⟨m,h1,h2⟩:=hh;exact ⟨m,h1,h _ _ h2⟩
    | cons o rest ih=>
     intro id s1 g hh;obtain ⟨h1,h2⟩:=hh;refine ⟨h1,?_⟩
     split at h2
     · exact opm (fun r=>ih _ _ _) h2
     · exact ih _ _ _ h2
     · exact h2.elim
   exact key _ _ _ _ hh
 | seq a b iha ihb=>
  intro Q Q' s h hh;refine iha (fun e s hh=>?_) hh
  cases e with
  | normal=>
   obtain ⟨s',he,hh⟩:=hh;exact ⟨s',he,ihb h hh⟩
  | _=>exact h _ _ hh
 | cond c a b iha ihb=>
  intro Q Q' s h hh;simp only[awp] at hh ⊢
  split at hh
  · exact iha h hh
  · exact ihb h hh
  · exact hh.elim
 | block id b ih=>
  intro Q Q' s h hh;refine ih (fun e s hh=>?_) hh
  cases e with
  | exit i=>
   simp only at hh ⊢
   split at hh
   · rename_i e;rw[if_pos e];exact h _ _ hh
   · rename_i e;rw[if_neg e];exact h _ _ hh
  | _=>exact h _ _ hh
 | loop b ih=>
  intro Q Q' s h hh;obtain ⟨I,μ,h1,h2⟩:=hh;refine ⟨I,μ,h1,fun s hs=>ih (fun e s1 hh=>?_) (h2 s hs)⟩
  cases e with
  | normal=>exact hh
  | _=>exact h _ _ hh
 | scope b ih=>
  intro Q Q' s h hh;refine ih (fun e s1 hh=>?_) hh
  cases e with
  | goto l=>exact hh
  | _=>exact h _ _ hh
 | rangeFunc g ps x y=>intro Q Q' s h hh B a w hk hm hi;exact wpIn_mono (hh B a w hk hm hi) fun e a w ⟨s,hq,hi⟩=>⟨s,h _ _ hq,hi⟩
 | _=>intro Q Q' s h hh;exact hh.elim
theorem CC.go {f:FuncId} {fn:Func} {c:Code} {Hin:List Blk} {args:List AV} {Hout:List Blk} {r:AV} {n0 k0:Nat} {l:List AV} {h0:List (Option Blk)} (hf:P.funcs[f]? = some fn) (hb:fn.body=some c)
 (hname:(fn.name == "runtime.NumGoroutine")=false) (hn:fn.ntmps=n0) (hk:Hin.length=k0) (hargs:args.length≤n0) (hl0:args++List.replicate (n0-args.length) undefA=l) (hh:Hin.map some=h0)
 (h:awp P G k0 c (Fin P fn k0 Hout r) ⟨tl l,hl h0,k0,n0⟩):CC P G f Hin args Hout r:=by
 subst hn;subst hk;subst hl0;subst hh;refine CC.intro hf hb hname hargs ?_;rw[qcxb,qqac];exact qtg (fun e s hh=>⟨s,.refl _ _,hh⟩) h
theorem qsf {ι:Type} {b:Code} (st:ι→Sta) (I:ι→Prop) (μ:ι→Nat) (i0:ι) (he:Ent k s (st i0)) (hi:I i0)
 (h:∀ i,I i→awp P G k b (loopI k st I μ (μ i) Q) (st i)):awp P G k (.loop b) Q s:=by
 classical
 let ms:Sta→Nat→Prop:=fun s n=>∃ i,s=st i∧I i∧μ i=n
 have least:∀ s,(∃ n,ms s n)→∃ n,ms s n∧∀ m,ms s m→n≤m:=by
  rintro s ⟨n,hn⟩
  induction n using Nat.strongRecOn with
  | _ n ih=>
   by_cases hex:∃ m,m<n∧ms s m
   · obtain ⟨m,hm,hms⟩:=hex;exact ih m hm hms
   · exact ⟨n,hn,fun m hm=>Nat.le_of_not_lt fun hlt=>hex ⟨m,hlt,hm⟩⟩
 refine qkx (fun s=>∃ i,s=st i∧I i) (fun s=>if hs:∃ n,ms s n∧∀ m,ms s m→n≤m then hs.choose else 0) (st i0) he ⟨i0,rfl,hi⟩ fun s hs=>?_
 have hex:=least s (by obtain ⟨i,h1,h2⟩:=hs;exact ⟨μ i,i,h1,h2,rfl⟩)
 simp only[dif_pos hex];obtain ⟨⟨i,hsi,hi,hmu⟩,_⟩:=hex.choose_spec;rw[← hmu];subst hsi;refine qtg (fun e s1 hh=>?_) (h i hi)
 cases e with
 | normal=>
  obtain ⟨i',h1,h2,h3⟩:=hh;have hex':=least (st i') ⟨μ i',i',rfl,h2,rfl⟩;refine ⟨st i',h1,⟨i',rfl,h2⟩,?_⟩;simp only[dif_pos hex'];exact Nat.lt_of_le_of_lt (hex'.choose_spec.2 _ ⟨i',rfl,h2,rfl⟩) h3
 | _=>exact hh
def joinK {ι:Type} (k:Nat) (st:ι→Sta) (I:ι→Prop) (Q:Exit→Sta→Prop):Exit→Sta→Prop:=
 fun e s1=>match e with | .normal=>∃ i,Ent k s1 (st i)∧I i|e=>Q e s1
theorem qxb {ι:Type} {st:ι→Sta} {I:ι→Prop} (i:ι) (he:Ent k s (st i)) (hi:I i):joinK k st I Q .normal s:=⟨i,he,hi⟩
theorem qey {ι:Type} {a b:Code} (st:ι→Sta) (I:ι→Prop) (hb:∀ i,I i→awp P G k b Q (st i)) (ha:awp P G k a (joinK k st I Q) s):awp P G k (.seq a b) Q s:=by
 show awp P G k a _ s
 refine qtg (fun e s1 hh=>?_) ha
 cases e with
 | normal=>
  obtain ⟨i,h1,h2⟩:=hh;exact ⟨st i,h1,hb i h2⟩
 | _=>exact hh
inductive LeF (m:Nat) (tm:Nat→AV):Nat→List AV→Prop
 | nil (i:Nat):LeF m tm i []
 | junk {i:Nat} {l:List AV}:LeF m tm (i+1) l→LeF m tm i (.junk::l)
 | keep {i:Nat} {a:AV} {l:List AV}:tm i=a→a.inK m=true→LeF m tm (i+1) l→LeF m tm i (a::l)
theorem LeF.keepE {m:Nat} {tm:Nat→AV} {i:Nat} {a a0:AV} {l:List AV} (h0:tm i=a0) (h:a=a0) (hk:a.inK m=true) (hl:LeF m tm (i+1) l):LeF m tm i (a::l):=.keep (h0.trans h.symm) hk hl
theorem LeF.get {m:Nat} {tm:Nat→AV} {i:Nat} {l:List AV} (h:LeF m tm i l):∀ t,getP l t = .junk∨(getP l t=tm (i+t)∧(tm (i+t)).inK m=true):=by
 induction h with
 | nil i=>intro t;exact .inl (by simp[getP])
 | junk _ ih=>intro t;cases t with
  | zero=>exact .inl rfl
  | succ t=>
   have:=ih t;rw[show ∀ i,i+(t+1)=i+1+t from fun i=>by omega];exact this
 | keep he ha _ ih=>intro t;subst he;cases t with
  | zero=>exact .inr ⟨rfl,ha⟩
  | succ t=>
   have:=ih t;rw[show ∀ i,i+(t+1)=i+1+t from fun i=>by omega];exact this
inductive HeapO:Nat→List (Option Blk)→Heap→Prop
 | nil (i:Nat) (H:Heap):HeapO i [] H
 | cons {i:Nat} {b:Option Blk} {l:List (Option Blk)} {H:Heap}:H i=b→HeapO (i+1) l H→HeapO i (b::l) H
theorem HeapO.get {i:Nat} {l:List (Option Blk)} {H:Heap} (h:HeapO i l H):∀ k (hk:k<l.length),H (i+k)=l[k]:=by
 induction h with
 | nil=>intro k hk;simp at hk
 | cons h0 _ ih=>
  intro k hk;cases k with
  | zero=>exact h0
  | succ k=>
   have:=ih k (by simpa using hk)
   rw[show ∀ i,i+(k+1)=i+1+k from fun i=>by omega]
   simpa using this
theorem qcp:∀ (l:List (Option Blk)) (i:Nat),getO l i=(l[i]?).getD none:=by
 intro l
 induction l with
 | nil=>intro i;simp[getO]
 | cons a l ih=>intro i;cases i with
  | zero=>simp[getO]
  | succ i=>simp[getO,ih]
theorem Ent.cut {tm:Nat→AV} {H:Heap} {l':List AV} {h':List (Option Blk)} {nx nx' n:Nat} (hn:nx'≤nx) (hk:k≤nx') (ht:LeF nx' tm 0 l') (hl':h'.length=nx') (hh:HeapO 0 h' H)
 (hin:h'.all (fun b=>match b with|some b=>b.rows.all (·.all (AV.inK nx'))|none=>true)=true):Ent k ⟨tm,H,nx,n⟩ ⟨tl l',hl h',nx',n⟩:=by
 have hg:∀ b (hb:b<nx'),H b=h'[b]'(by omega):=fun b hb=>by
  have:=hh.get b (by omega)
  rwa [Nat.zero_add] at this
 refine Ent.le ⟨rfl,hn,hk,fun t=>?_,?_,fun b blk hb hbb row hrow=>?_⟩
 · have:=ht.get t;rw[Nat.zero_add] at this;exact this
 · funext b
   show getO h' b=cutH nx' H b
   unfold cutH;rw[qcp]
   split
   · rename_i hb;rw[hg b hb,List.getElem?_eq_getElem (by omega)];rfl
   · rw[List.getElem?_eq_none (by omega)];rfl
 · have hbb':H b=some blk:=hbb;rw[hg b hb] at hbb';simp only[List.all_eq_true] at hin;have hb0:b<nx':=hb;have:=hin _ (List.getElem_mem (show b<h'.length by omega))
   rw[hbb'] at this;simp only[List.all_eq_true] at this ⊢;exact this row hrow
theorem qatb (tm:Nat→AV) (d:Nat) (v:AV) (t:Nat):putT tm d v t=if t=d then v else tm t:=rfl
theorem qztb (H:Heap) (b:Nat) (blk:Blk) (x:Nat):updH H b blk x=if x=b then some blk else H x:=rfl
theorem qfbc {l:List SO}:runF P G 0 l s=some (l,s):=by simp only[runF]
theorem qfob {n:Nat}:runF P G (n+1) [] s=some ([],s):=by simp only[runF]
theorem qjib {n:Nat} {o:SO} {rest:List SO}:runF P G (n+1) (o::rest) s=contF P G n rest (stepF P G o s (dstB s.n o.dst)):=by simp only[runF]
theorem qnbb {n:Nat} {l:List SO}:contF P G n l (some s)=runF P G n l s:=by simp only[contF]
theorem qwxb {o:SO}:stepF P G o s true=stepW P G o s (wantedS s.tm o.g):=rfl
theorem qpwb {o:SO}:stepW P G o s (some true)=(doA P G s.nx o s).map (s.app o.dst):=rfl
theorem qktb {o:SO}:stepW P G o s (some false)=some (s.skip o.dst):=rfl
theorem qyzb {l:List SO} {id:Nat} {g:Log}:runG P G 0 l id s g=some (l,id,s,g):=by simp only[runG]
theorem qxpb {n id:Nat} {g:Log}:runG P G (n+1) [] id s g=some ([],id,s,g):=by simp only[runG]
theorem qpib {n id:Nat} {g:Log} {o:SO} {rest:List SO}:runG P G (n+1) (o::rest) id s g=contG P G n rest (id+1) g (stepG P G id o s (dstB s.n o.dst)):=by simp only[runG]
theorem qjbb {n id:Nat} {g:Log} {l:List SO} {x:List Nat × List Nat}:contG P G n l id g (some (s,x))=runG P G n l id s (g++[x]):=by simp only[contG]
theorem qbxb {o:SO} {id:Nat}:stepG P G id o s true=stepX P G id o s (wantedS s.tm o.g):=rfl
theorem qexb {o:SO} {id:Nat}:stepX P G id o s (some true)=(doA P G id o s).map fun r=>(s.appD o.dst r,r.log):=rfl
theorem qvwb {o:SO} {id:Nat}:stepX P G id o s (some false)=some (s.skip o.dst,([],[])):=rfl
attribute [go_sem] qfbc qfob qjib qnbb qwxb qpwb qktb qyzb qxpb qpib qjbb qbxb qexb qvwb doA dstB execA evA wantedS isCall chg pure1 Sta.app Sta.appD Sta.skip Res.log putO qatb nxAfter updsH qztb ofVal ofCell aBin aUn rdA wrA setAt rowsOf fillA AV.cells AV.one intOf? getP qsbc qeec getO undefA
attribute [go_sem] List.length_cons List.length_nil List.replicate List.cons_append List.nil_append List.map_cons List.map_nil List.getElem?_cons_zero List.getElem?_cons_succ List.all_cons List.all_nil List.drop_zero List.drop_succ_cons List.take_succ_cons List.take_zero List.take_nil List.drop_nil List.set_cons_zero List.set_cons_succ
attribute [go_sem] Option.map_some Option.map_none Option.getD_some Option.getD_none Option.isSome_some Option.bind_some Option.bind_none
attribute [go_sem] Bool.and_true Bool.true_and Bool.and_false Bool.false_and Bool.or_true Bool.true_or Bool.or_false Bool.false_or Bool.not_true Bool.not_false beq_true beq_false Bool.true_beq Bool.false_beq decide_true decide_false
attribute [go_sem] reduceIte reduceCtorEq and_true true_and and_self if_true if_false beq_self_eq_true
attribute [go_sem] Nat.reduceLT Nat.reduceAdd Nat.reduceMul Nat.reduceLeDiff Nat.reduceSub Nat.reduceEqDiff Nat.reduceBEq Int.reduceNeg Int.reduceLT Int.reduceLE Int.reduceAdd Int.reduceSub Int.reduceToNat Int.reduceMul Nat.lt_add_one Nat.reduceSucc Nat.max_def Nat.zero_add Nat.add_zero Nat.succ_eq_add_one Int.reduceEq ne_eq not_false_eq_true Int.natCast_nonneg Int.toNat_natCast Int.reduceBEq Bool.not_not
attribute [go_sem] Value.oneCell' List.toList_toArray List.size_toArray List.range_zero List.nil_append rowsX List.cons.injEq List.length_append List.length_map
theorem qfcc (a:Nat) (l:List Nat) (id:Nat):mOf (a::l) id 0=a:=rfl
theorem qsdc (a:Nat) (l:List Nat) (id i:Nat):mOf (a::l) id (i+1)=mOf l id i:=rfl
theorem quub (id i:Nat):mOf [] id i=id:=rfl
theorem qfub {α:Type} (p:α→Bool) (l:List α) (n:Nat) (h:n=l.length):Array.all l.toArray p 0 n=l.all p:=by
 subst h;have:l.length=l.toArray.size:=by simp
 rw[this];exact List.all_toArray
attribute [go_sem] qfub
attribute [go_sem] qfcc qsdc quub
attribute [go_sem] finA resAll resA tupA resList ofList frzA frz1 frzD frzOk frzIds frzAOk frz1Ok frzAIds frz1Ids AV.ren AV.renL AV.inK AV.inKL AV.scal calleeOf Blk.ren pinHs pinB
end Am

namespace Am
open Go
variable {P:Program} {G:Glob} {k:Nat} {w:World} {C:Com} {ρ:Rho} {H:Heap}
theorem Ent.ghostH {s:Sta} (b i j:Nat) (ty:TypeId) (sz:Nat) {blk:Blk} (hb:s.H b=some blk) (hi:i<blk.rows.length) (hj:j<(blk.rows[i]).length) (hc:(blk.rows[i])[j] = .nils) :
 Ent k s { s with H:=updH (updH s.H s.nx { fz:=false,ap:=true,ty,sz,rows:=[] }) b { blk with rows:=blk.rows.set i ((blk.rows[i]).set j (.own s.nx 0 0 0)) },nx:=s.nx+1 }:=by
 rintro G B a w hk ⟨C,ρ,hinv⟩;have hnone:=hinv.nx s.nx (Nat.le_refl _);have hbn:b≠s.nx:=fun e=>by rw[e,hnone] at hb;simp at hb
 let ρ1:Rho:=fun x=>if x=s.nx then none else ρ x
 let g:Blk:={ fz:=false,ap:=true,ty,sz,rows:=[] }
 let blk':Blk:={ blk with rows:=blk.rows.set i ((blk.rows[i]).set j (.own s.nx 0 0 0)) }
 let H1:Heap:=updH (updH s.H s.nx g) b blk'
 have hH1:∀ x,H1 x=if x=b then some blk' else if x=s.nx then some g else s.H x:=fun x=>rfl
 have hρ:∀ x,x≠s.nx→ρ1 x=ρ x:=fun x hx=>by simp[ρ1,hx]
 have hsome:∀ x,x≠s.nx→(H1 x).isSome=(s.H x).isSome:=fun x hx=>by
  rw[hH1]
  by_cases hxb:x=b
  · subst hxb;simp[hb]
  · rw[if_neg hxb,if_neg hx]
 have e:Ext w C ρ s.H w C ρ1 H1:=by
  refine ⟨fun _ _ h=>h,fun _ _ _=>rfl,fun x blk0 hx=>?_,rfl,rfl,rfl,Nat.le_refl _,fun _ _ _=>rfl,?_,fun _ _ h=>.inl h⟩
  · have hne:x≠s.nx:=fun e=>by subst e;rw[hnone] at hx;simp at hx
    by_cases hxb:x=b
    · subst hxb;rw[hb] at hx;cases hx;exact ⟨blk',by rw[hH1];simp,rfl,by simp[blk'],fun _=>hρ _ hne⟩
    · exact ⟨blk0,by rw[hH1];simp[hxb,hne,hx],rfl,Nat.le_refl _,fun _=>hρ _ hne⟩
  · rintro r ⟨x,z,hx,hr⟩
    by_cases hne:x=s.nx
    · subst hne;simp[ρ1] at hr
    · rw[hsome x hne] at hx;rw[hρ x hne] at hr;exact .inl ⟨x,z,hx,hr⟩
 have hg:H1 s.nx=some g:=by rw[hH1,if_neg (fun h=>hbn h.symm),if_pos rfl]
 have hR:RelH w C ρ1 H1:=by
  refine ⟨fun x blk0 hx=>?_,fun x y r z z' hne hx hy hr hr'=>?_,hinv.rel.h.com⟩
  · by_cases hne:x=s.nx
    · subst hne;rw[hg] at hx;cases hx;unfold BlkOK;simp[ρ1,g]
    · by_cases hxb:x=b
      · subst hxb;have hx':some blk' = some blk0:=by rw[← hx,hH1];simp
        cases hx';have h0:=(hinv.rel.h.blk x blk hb).ext e (hρ x hne) (fun _ _ _=>rfl) (fun _ _ _ _ _ h=>h)
        unfold BlkOK at h0 ⊢;cases hr:ρ1 x with
        | none=>
         rw[hr] at h0;simp only at h0;rw[h0.1] at hi;simp at hi
        | some p=>
         obtain ⟨r,z⟩:=p;rw[hr] at h0;obtain ⟨⟨cs,lo,hh,a1,a2,a3,a4,a5,a6,a7⟩,a8,a9⟩:=h0;refine ⟨⟨cs,lo,hh,a1,a2,a3,a4,by simpa [blk'] using a5,?_,?_⟩,a8,by simpa [blk'] using a9⟩
         · intro x' hx';simp only[blk',List.length_set] at hx' ⊢
           by_cases hxi:i=x'
           · subst hxi;simp[a6]
           · simp only[List.getElem_set_ne hxi];exact a6 x' hx'
         · intro x' y' hx' hy';simp only[blk',List.length_set] at hx' hy' ⊢
           by_cases hxi:i=x'
           · subst hxi;simp only[List.getElem_set_self,List.length_set] at hy' ⊢;obtain ⟨v,v1,v2,v3⟩:=a7 i y' hi hy';refine ⟨v,v1,v2,?_⟩
             by_cases hyj:j=y'
             · subst hyj;simp only[List.getElem_set_self];rw[hc] at v3;cases v3;exact .own s.nx 0 0 0 _ g hg (by simp) rfl fun _=>.inr ⟨by simp[ρ1],rfl,rfl,rfl⟩
             · simp only[List.getElem_set_ne hyj];exact v3
           · simp only[List.getElem_set_ne hxi] at hy' ⊢;exact a7 x' y' hx' hy'
      · have hx':s.H x=some blk0:=by rw[hH1] at hx;simpa [hxb,hne] using hx
        exact (hinv.rel.h.blk x blk0 hx').ext e (hρ x hne) (fun _ _ _=>rfl) (fun _ _ _ _ _ h=>h)
  · have h1:x≠s.nx:=fun e=>by subst e;simp[ρ1] at hr
    have h2:y≠s.nx:=fun e=>by subst e;simp[ρ1] at hr'
    rw[hsome x h1] at hx;rw[hsome y h2] at hy;rw[hρ x h1] at hr;rw[hρ y h2] at hr';exact hinv.rel.h.dis x y r z z' hne hx hy hr hr'
 refine ⟨C,ρ1,⟨fun t'=>(hinv.rel.tm t').mono e,hinv.rel.size,hR,trivial,hinv.rel.defers⟩,fun x hx=>?_,hinv.ext.trans e,hinv.glob,hinv.marks,hinv.nom⟩
 have hx':s.nx+1≤x:=hx
 show H1 x=none
 rw[hH1]
 have hxb:x≠b:=fun e=>by
  subst e;rw[hinv.nx x (by omega)] at hb;simp at hb
 simp[hxb,show x≠s.nx from by omega]
 exact hinv.nx x (by omega)
end Am
