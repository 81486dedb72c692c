/- Lemmas. -/
import Derived.Test.YtefjlhhicgepfaaGreatDoorAmFun
import Derived.KernelRfl
set_option linter.unusedSimpArgs false
set_option linter.unusedVariables false
set_option linter.unusedSectionVars false
open List (all_eq_true getD_eq_getElem?_getD getElem?_eq_getElem getElem?_eq_none getElem_set_ne getElem_set_self length_set nil_append replicate)
open Nat (add_mul le_refl one_mul zero_add)
namespace Am
open Go
def xp:List AV→Nat→AV
 | [],_=>.junk
 | a::_,0=>a
 | _::l,t+1=>xp l t
def tl(l:List AV):Nat→AV:=xp l
theorem aq1(l:List AV):∀ t,l.getD t .junk=xp l t:=by
 induction l with
 | nil=>intro t;rfl
 | cons a l ih=>intro t;cases t with
  | zero=>rfl
  | succ t=>simpa [xp] using ih t
theorem a33(args:List AV)(n:Nat):yf args n=tl (args++replicate (n-args.length) nb):=by
 funext t
 exact aq1 _ _
def vf:List (Option Blk)→Nat→Option Blk
 | [],_=>none
 | a::_,0=>a
 | _::l,t+1=>vf l t
def hl(l:List (Option Blk)):ba:=vf l
theorem avl(l:List Blk):hOf l=hl (l.map some):=by
 funext b
 unfold hOf hl
 induction l generalizing b with
 | nil=>rfl
 | cons a l ih=>cases b with
  | zero=>rfl
  | succ b=>simpa [vf] using ih b
variable {P:Program}{G:bl}{k:Nat}
def apa(P:Program)(G:bl)(o:SO)(s:Sta)(K:Sta→Prop):Prop:=
 lc s.n o.dst∧
 match ed s.tm o.g with
 | some true=>opK P G s.nx (evA G s.tm) s.H o.op fun r=>K (s.app o.dst r)
 | some false=>K (s.skip o.dst)
 | none=>False
def ri(P:Program)(G:bl)(K:Sta→Prop):List SO→Sta→Prop
 | [],s=>K s
 | o::rest,s=>apa P G o s (ri P G K rest)
def tz:Op→Bool
 | .call { callee:=.value _,.. }=>true
 | .call { callee:=.invoke ..,.. }=>true
 | _=>false
def uf(n:Nat):Option Nat→Bool
 | some d=>decide (d<n)
 | none=>true
def wt(k:Nat)(K:Sta→Prop)(Q:Exit→Sta→Prop):Exit→Sta→Prop:=fun e s=>match e with | .normal=>∃ s',Ent k s s'∧K s'|e=>Q e s
def mb(id:Nat)(Q:Exit→Sta→Prop):Exit→Sta→Prop:=fun e s=>match e with | .exit i=>if i=id then Q .normal s else Q (.exit i) s|e=>Q e s
def ah3(k:Nat)(I:Sta→Prop)(μ:Sta→Nat)(m:Nat)(Q:Exit→Sta→Prop):Exit→Sta→Prop:=
 fun e s1=>match e with | .normal=>∃ s',Ent k s1 s'∧I s'∧μ s' < m|e=>Q e s1
variable {Q:Exit→Sta→Prop}{s:Sta}{K:Sta→Prop}
theorem asg:∀ (l:List SO) (s:Sta),ri P G K l s→r7 P G k K l s:=by
 intro l
 induction l with
 | nil=>intro s h;exact ⟨s,.refl _ _,h⟩
 | cons o rest ih=>
  intro s h;obtain ⟨h1,h2⟩:=h;refine ⟨s,.refl _ _,h1,?_⟩
  split at h2
  · rename_i hw;rw[hw]
    have mono:∀ (K1 K2:Res→Prop),(∀ r,K1 r→K2 r)→opK P G s.nx (evA G s.tm) s.H o.op K1→opK P G s.nx (evA G s.tm) s.H o.op K2:=by
     intro K1 K2 hk h;unfold opK at h ⊢
     split at h
     · split at h
       · obtain ⟨r,a1,a2,a3,a4,a5,a6,a7,a8,hs,hh⟩:=h;exact ⟨r,a1,a2,a3,a4,a5,a6,a7,a8,hs,hk _ hh⟩
       · exact h.elim
     · split at h
       · exact hk _ h
       · exact h.elim
    exact mono _ _ (fun r=>ih _) h2
  · rename_i hw;rw[hw];exact ih _ h2
  · exact h2.elim
theorem qt(h:Q .normal s):awp P G k .skip Q s:=h
theorem qb{id:Nat}{ops:Array Oper}{l:List SO}(hl:ow ops=l)(h:ri P G (Q .normal) l s):awp P G k (.region id ops false) Q s:=by
 subst hl;exact asg _ _ h
theorem qg{a b:Code}(h:awp P G k a (wt k (awp P G k b Q) Q) s):awp P G k (.seq a b) Q s:=h
theorem qdb{id:Nat}{b:Code}(h:awp P G k b (mb id Q) s):awp P G k (.block id b) Q s:=h
theorem qah{id:Nat}(h:Q (.exit id) s):awp P G k (.exit id) Q s:=h
theorem qn(h:Q .ret s):awp P G k .ret Q s:=h
theorem qlb{c:Operand}{a b:Code}(hc:evA G s.tm c = .d (.bool true))(h:awp P G k a Q s):awp P G k (.cond c a b) Q s:=by
 simp only[awp,hc];exact h
theorem qmc{c:Operand}{a b:Code}(hc:evA G s.tm c = .d (.bool false))(h:awp P G k b Q s):awp P G k (.cond c a b) Q s:=by
 simp only[awp,hc];exact h
theorem qm{c:Operand}{a b:Code}{t:Bool}(hc:evA G s.tm c = .d (.bool t))(ht:t=true→awp P G k a Q s)(hf:t=false→awp P G k b Q s):awp P G k (.cond c a b) Q s:=by
 cases t with
 | true=>exact qlb hc (ht rfl)
 | false=>exact qmc hc (hf rfl)
theorem qmz{b:Code}(I:Sta→Prop)(μ:Sta→Nat)(s':Sta)(he:Ent k s s')(hi:I s')
 (h:∀ s,I s→awp P G k b (ah3 k I μ (μ s) Q) s):awp P G k (.loop b) Q s:=⟨I,μ,⟨s',he,hi⟩,h⟩
theorem qa(h:K s):wt k K Q .normal s:=⟨s,.refl _ _,h⟩
theorem qeq{s':Sta}(he:Ent k s s')(h:K s'):wt k K Q .normal s:=⟨s',he,h⟩
theorem ql(h:Q .ret s):wt k K Q .ret s:=h
theorem qpf{id:Nat}(h:Q (.exit id) s):wt k K Q (.exit id) s:=h
theorem qj{id:Nat}(h:Q .normal s):mb id Q .normal s:=h
theorem qi{id:Nat}(h:Q .ret s):mb id Q .ret s:=h
theorem qrd{id:Nat}(h:Q .normal s):mb id Q (.exit id) s:=by simp only[mb,if_true];exact h
theorem qc(h:K s):ri P G K [] s:=h
end Am

namespace Am
open Go
variable {P:Program}{G:bl}{k:Nat}{Q:Exit→Sta→Prop}{s:Sta}
theorem a3s(l:List AV)(t:Nat):tl l t=xp l t:=rfl
theorem awm(l:List (Option Blk))(t:Nat):hl l t=vf l t:=rfl
def doA(P:Program)(G:bl)(id:Nat)(o:SO)(s:Sta):Option Res:=if tz o.op then none else ag P id (evA G s.tm) s.H o.op
def t8(P:Program)(G:bl)(o:SO)(s:Sta):Option Bool→Option Sta
 | some true=>(doA P G s.nx o s).map (s.app o.dst)
 | some false=>some (s.skip o.dst)
 | none=>none
def yj(P:Program)(G:bl)(o:SO)(s:Sta):Bool→Option Sta
 | true=>t8 P G o s (ed s.tm o.g)
 | false=>none
mutual
def td(P:Program)(G:bl):Nat→List SO→Sta→Option (List SO × Sta)
 | 0,l,s=>some (l,s)
 | _+1,[],s=>some ([],s)
 | n+1,o::rest,s=>o7 P G n rest (yj P G o s (uf s.n o.dst))
def o7(P:Program)(G:bl):Nat→List SO→Option Sta→Option (List SO × Sta)
 | _,_,none=>none
 | n,l,some s=>td P G n l s
end
theorem qkq{n:Nat}{d:Option Nat}(h:uf n d=true):lc n d:=by
 cases d with
 | none=>trivial
 | some d=>simpa [uf,lc] using h
theorem qml{id:Nat}{ev:Operand→AV}{H:ba}{op:Op}{K:Res→Prop}{r:Res}(hc:tz op=false)(h:ag P id ev H op=some r)(hk:K r):opK P G id ev H op K:=by
 unfold opK
 split
 · simp[tz] at hc
 · rw[h];exact hk
theorem qd{K:Sta→Prop}:∀ (n:Nat) {l:List SO} {s:Sta} {l':List SO} {s':Sta},td P G n l s=some (l',s')→ri P G K l' s'→ri P G K l s:=by
 intro n
 induction n with
 | zero=>intro l s l' s' h hk;simp only[td] at h;cases h;exact hk
 | succ n ih=>
  intro l s l' s' h hk;cases l with
  | nil=>simp only[td] at h;cases h;exact hk
  | cons o rest=>
   simp only[td] at h;cases hd:uf s.n o.dst with
   | false=>rw[hd] at h;simp[yj,o7] at h
   | true=>
    rw[hd] at h;refine ⟨qkq hd,?_⟩;simp only[yj] at h;cases hw:ed s.tm o.g with
    | none=>rw[hw] at h;simp[t8,o7] at h
    | some b=>
     rw[hw] at h;cases b with
     | false=>simp only[t8,o7] at h;exact ih h hk
     | true=>
      simp only[t8,doA] at h
      split at h
      · simp[o7] at h
      · rename_i hc;cases he:ag P s.nx (evA G s.tm) s.H o.op with
        | none=>rw[he] at h;simp[o7] at h
        | some r=>
         rw[he] at h;simp only[Option.map_some,o7] at h;exact qml (by simpa using hc) he (ih h hk)
def ul(P:Program)(G:bl)(id:Nat)(o:SO)(s:Sta):Option Bool→Option (Sta × (List Nat × List Nat))
 | some true=>(doA P G id o s).map fun r=>(s.appD o.dst r,r.log)
 | some false=>some (s.skip o.dst,([],[]))
 | none=>none
def stepG(P:Program)(G:bl)(id:Nat)(o:SO)(s:Sta):Bool→Option (Sta × (List Nat × List Nat))
 | true=>ul P G id o s (ed s.tm o.g)
 | false=>none
mutual
def ta(P:Program)(G:bl):Nat→List SO→Nat→Sta→Log→Option (List SO × Nat × Sta × Log)
 | 0,l,id,s,g=>some (l,id,s,g)
 | _+1,[],id,s,g=>some ([],id,s,g)
 | n+1,o::rest,id,s,g=>ou P G n rest (id+1) g (stepG P G id o s (uf s.n o.dst))
def ou(P:Program)(G:bl):Nat→List SO→Nat→Log→Option (Sta × (List Nat × List Nat))→Option (List SO × Nat × Sta × Log)
 | _,_,_,_,none=>none
 | n,l,id,g,some p=>ta P G n l id p.1 (g++[p.2])
end
theorem qsq{K:Sta→Log→Prop}:∀ (n:Nat) {l:List SO} {id:Nat} {s:Sta} {g:Log} {l':List SO} {id':Nat} {s':Sta} {g':Log},
 ta P G n l id s g=some (l',id',s',g')→oh P G K l' id' s' g'→oh P G K l id s g:=by
 intro n
 induction n with
 | zero=>intro l id s g l' id' s' g' h hk;simp only[ta] at h;cases h;exact hk
 | succ n ih=>
  intro l id s g l' id' s' g' h hk;cases l with
  | nil=>simp only[ta] at h;cases h;exact hk
  | cons o rest=>
   simp only[ta] at h;cases hd:uf s.n o.dst with
   | false=>rw[hd] at h;simp[stepG,ou] at h
   | true=>
    rw[hd] at h;refine ⟨qkq hd,?_⟩;simp only[stepG] at h;cases hw:ed s.tm o.g with
    | none=>rw[hw] at h;simp[ul,ou] at h
    | some b=>
     rw[hw] at h;cases b with
     | false=>simp only[ul,ou] at h;exact ih h hk
     | true=>
      simp only[ul,doA] at h
      split at h
      · simp[ou] at h
      · rename_i hc;cases he:ag P id (evA G s.tm) s.H o.op with
        | none=>rw[he] at h;simp[ou] at h
        | some r=>
         rw[he] at h;simp only[Option.map_some,ou] at h;exact qml (by simpa using hc) he (ih h hk)
theorem a06{K:Sta→Prop}{l:List SO}(t:Bool)(h1:t=true→ri P G K l s)(h0:t=false→ri P G K l s):ri P G K l s:=by
 cases t with
 | true=>exact h1 rfl
 | false=>exact h0 rfl
theorem qo{K:Sta→Prop}{o:SO}{rest:List SO}{c:Operand}{args:Array Operand}{il:Array TypeId}{f:FuncId}{first caps fk:List AV}
 (hd:uf s.n o.dst=true) (hw:ed s.tm o.g=some true) (ho:o.op = .call { callee:=.value c,args,argTypes:=il })
 (hc:gg (evA G s.tm c)=some (f,first,caps)) (ha:first++args.toList.map (evA G s.tm)++caps=fk)
 (hk:vt P G s.nx s.H f fk fun r=>ri P G K rest (s.app o.dst r)):ri P G K (o::rest) s:=by
 refine ⟨qkq hd,?_⟩;rw[hw,ho]
 show opK P G s.nx (evA G s.tm) s.H _ _
 unfold opK;simp only[hc,ha];exact hk
theorem qbv{K:Sta→Log→Prop}{o:SO}{rest:List SO}{id:Nat}{g:Log}{c:Operand}{args:Array Operand}{il:Array TypeId}{f:FuncId}{first caps fk:List AV}
 (hd:uf s.n o.dst=true) (hw:ed s.tm o.g=some true) (ho:o.op = .call { callee:=.value c,args,argTypes:=il })
 (hc:gg (evA G s.tm c)=some (f,first,caps)) (ha:first++args.toList.map (evA G s.tm)++caps=fk)
 (hk:vt P G id s.H f fk fun r=>oh P G K rest (id+1) (s.appD o.dst r) (g++[r.log])):oh P G K (o::rest) id s g:=by
 refine ⟨qkq hd,?_⟩;rw[hw,ho]
 show opK P G id (evA G s.tm) s.H _ _
 unfold opK;simp only[hc,ha];exact hk
theorem qlz{ops:Array Oper}{n0 id:Nat}{K:Sta→Prop}{g:Log}(m:Nat)(h:okD ops n0 g m=true)(hk:K { s with nx:=m }) :
 oh P G (fun s1 log=>∃ m,okD ops n0 log m=true∧K { s1 with nx:=m }) [] id s g:=⟨m,h,hk⟩
theorem qum{id:Nat}{ops:Array Oper}{l:List SO}(hm:P.follows .mixedOrders=true)(hl:ow ops=l)
 (h:oh P G (fun s1 log=>∃ m,okD ops s.nx log m=true∧Q .normal { s1 with nx:=m }) l s.nx s []):awp P G k (.region id ops true) Q s:=by
 subst hl;exact ⟨hm,h⟩
section calls
variable {id:Nat}{H:ba}{f:FuncId}{fk:List AV}{K:Res→Prop}
def mOf(ms:List Nat)(id:Nat)(i:Nat):Nat:=ms.getD i id
theorem qjc{r':AV}(cc:CC P G f [] fk [] r')(ha:fk.map (AV.ren fun _=>0)=fk)(hi:fk.all (AV.inK 0)=true)(hr:r'.ren (fun _=>0)=r')(hk:K ⟨r',[],[]⟩):vt P G id H f fk K:=by
 refine ⟨⟨r',[],[]⟩,true,false,true,fun _=>0,[],fk,[],r',⟨cc,rfl,by simpa [n9] using ha,hi,⟨by simp,by simp,by simp,by simp,by simp⟩,by simp,.inr (.inl rfl),fun _=>rfl,hr.symm,by simp,by simp[cn]⟩,hk⟩
theorem qfc(ms:List Nat){Hin d6 Hout}{r':AV}(cc:CC P G f Hin d6 Hout r')(ha:d6.map (AV.ren (mOf ms id))=fk)(hi:d6.all (AV.inK Hin.length)=true)
 (hl:ms.length=Hin.length) (xt:Hin.length≤Hout.length) (hl2:Hout.length≤Hin.length+1) (xw:(ms++[id]).Nodup)
 (hold:ms.map H=Hin.map fun b=>some (b.ren (mOf ms id))) (abj:H id=none) (hK:Hin.all (fun b=>b.rows.all (·.all (AV.inK Hin.length)))=true)
 {r1:AV} (hr:r'.ren (mOf ms id)=r1) {hs:List (Nat × Blk)} (hh:ek (mOf ms id) Hout=hs) (hk:K ⟨r1,hs,ms⟩):vt P G id H f fk K:=by
 have hmi:∀ i,mOf ms id i=(ms++[id]).getD i id:=fun i=>by
  unfold mOf;rw[getD_eq_getElem?_getD,getD_eq_getElem?_getD,List.getElem?_append]
  split
  · rfl
  · rename_i h;rw[getElem?_eq_none (by omega)]
    by_cases hi:i-ms.length=0
    · simp[hi]
    · rw[getElem?_eq_none (by simp;omega)]
 refine ⟨⟨r1,hs,ms⟩,true,false,false,mOf ms id,Hin,d6,Hout,r',⟨cc,rfl,by simpa [n9] using ha,hi,⟨fun i j h1 h2 h=>?_,xt,fun i h=>?_,fun i h1 h2=>?_,fun i h row ak=>?_⟩,fun i h1 h2=>?_,.inr (.inl rfl),by simp,hr.symm,by simp[hh],?_⟩,hk⟩
 · rw[hmi,hmi,getD_eq_getElem?_getD,getD_eq_getElem?_getD,getElem?_eq_getElem (by simp;omega),getElem?_eq_getElem (by simp;omega)] at h
   exact (List.getElem_inj xw).1 (by simpa using h)
 · have cf:i<ms.length:=by omega
   have h1:=congrArg (fun l=>l[i]?) hold
   simp only[List.getElem?_map,getElem?_eq_getElem cf,getElem?_eq_getElem h,Option.map_some,Option.some.injEq] at h1;have:mOf ms id i=ms[i]:=by unfold mOf;rw[getD_eq_getElem?_getD,getElem?_eq_getElem cf];rfl
   simp only[cn,if_true];unfold dl;rw[this]
   simpa using h1
 · have:mOf ms id i=id:=by unfold mOf;rw[getD_eq_getElem?_getD,getElem?_eq_none (by omega)];rfl
   simp only[cn,if_true];unfold dl;rw[this]
   simpa using abj
 · simp only[all_eq_true] at hK ⊢;exact hK _ (List.getElem_mem h) row ak
 · unfold mOf;rw[getD_eq_getElem?_getD,getElem?_eq_none (by omega)];rfl
 · simp only[cn,if_true,nil_append];refine List.ext_getElem (by simp[hl]) fun i h1 h2=>?_
   simp only[List.getElem_map,List.getElem_range];unfold mOf;rw[getD_eq_getElem?_getD,getElem?_eq_getElem h1];rfl
end calls
inductive pt:Nat→List Blk→ba→Prop
 | nil (i:Nat) (H:ba):pt i [] H
 | cons {i:Nat} {b:Blk} {l:List Blk} {H:ba}:H i=some b→pt (i+1) l H→pt i (b::l) H
theorem pt.get{i:Nat}{l:List Blk}{H:ba}(h:pt i l H):∀ k (hk:k<l.length),H (i+k)=some l[k]:=by
 induction h with
 | nil=>intro k hk;simp at hk
 | cons h0 _ ih=>
  intro k hk;cases k with
  | zero=>exact h0
  | succ k=>
   have:=ih k (by simpa using hk)
   rw[show ∀ i,i+(k+1)=i+1+k from fun i=>by omega]
   simpa using this
theorem akq{fn:Func}{Hout:List Blk}{r:AV}{e:Exit}{H:ba}{tm:Nat→AV}{nx n:Nat}(he:e = .normal∨e = .ret)(hf:zi P fn ⟨tm,H,nx,n⟩ = some r)(hk:k≤Hout.length)(hH:pt 0 Hout H)
 (jy:Hout.all (fun b=>b.rows.all (·.all (AV.inK Hout.length)))=true) (hr:r.inK Hout.length=true) :
 (e = .normal∨e = .ret)∧∃ keep r0,ae9 P fn k Hout r keep ⟨tm,H,nx,n⟩ r0:=by
 refine ⟨he,true,r,hf,rfl,?_,hk,fun i h=>?_,fun b hb row ak=>?_,hr⟩
 · cases r<;>simp[pv,n9,df]
 · simp only[cn,if_true];unfold dl;have:=hH.get i h;rw[zero_add] at this
   simpa using this
 · simp only[all_eq_true] at jy ⊢;exact jy b hb row ak
theorem amc{P:Program}{fn:Func}{s:Sta}{rs:List ResultVar}{xs:List AV}(h:fn.results.toList=rs)(hx:kg P s rs=some xs):zi P fn s=some (wo xs):=by
 unfold zi;rw[h,hx]
def Fin(P:Program)(fn:Func)(k:Nat)(Hout:List Blk)(r:AV):Exit→Sta→Prop:=fun e s=>(e = .normal∨e = .ret)∧∃ keep r0,ae9 P fn k Hout r keep s r0
theorem qjb{fn:Func}{r r1:AV}{e:Exit}{H:ba}{tm:Nat→AV}{nx n:Nat}{rs:List ResultVar}(he:e = .normal∨e = .ret)(zl:fn.results.toList=rs)(hf:(kg P ⟨tm,H,nx,n⟩ rs).map wo=some r1)
 (hr:r1=r∧r.inK 0=true):Fin P fn 0 [] r e ⟨tm,H,nx,n⟩:=by
 obtain ⟨rfl,hi⟩:=hr;rw[Option.map_eq_some_iff] at hf;obtain ⟨xs,h1,h2⟩:=hf;exact akq he (by rw[amc zl h1,h2]) (le_refl _) (.nil _ _) rfl hi
theorem abb{fn:Func}{r r1:AV}{Hout:List Blk}{e:Exit}{H:ba}{tm:Nat→AV}{nx n:Nat}{rs:List ResultVar}(he:e = .normal∨e = .ret)(zl:fn.results.toList=rs)(hf:(kg P ⟨tm,H,nx,n⟩ rs).map wo=some r1)
 (hr:r1=r) (hH:pt 0 Hout H) (hk:k≤Hout.length) (jy:Hout.all (fun b=>b.rows.all (·.all (AV.inK Hout.length)))=true) (hi:r.inK Hout.length=true) :
 Fin P fn k Hout r e ⟨tm,H,nx,n⟩:=by
 subst hr;rw[Option.map_eq_some_iff] at hf;obtain ⟨xs,h1,h2⟩:=hf;exact akq he (by rw[amc zl h1,h2]) hk hH jy hi
theorem qhd{K:Sta→Prop}{l:List SO}(d:Nat){t:Bool}(_h:s.tm d = .d (.bool t))(h1:t=true→ri P G K l s)(h0:t=false→ri P G K l s):ri P G K l s:=a06 t h1 h0
def aap{ι:Type}(k:Nat)(st:ι→Sta)(I:ι→Prop)(μ:ι→Nat)(m:Nat)(Q:Exit→Sta→Prop):Exit→Sta→Prop:=
 fun e s1=>match e with | .normal=>∃ i,Ent k s1 (st i)∧I i∧μ i<m|e=>Q e s1
theorem qpe{ι:Type}{st:ι→Sta}{I:ι→Prop}{μ:ι→Nat}{m:Nat}(h:Q .ret s):aap k st I μ m Q .ret s:=h
theorem qne{ι:Type}{st:ι→Sta}{I:ι→Prop}{μ:ι→Nat}{m:Nat}{id:Nat}(h:Q (.exit id) s):aap k st I μ m Q (.exit id) s:=h
theorem qcb{ι:Type}{st:ι→Sta}{I:ι→Prop}{μ:ι→Nat}{m:Nat}(i:ι)(he:Ent k s (st i))(hi:I i)(hm:μ i<m):aap k st I μ m Q .normal s:=⟨i,he,hi,hm⟩
theorem qyg{c:Code}:∀ {Q Q':Exit→Sta→Prop} {s:Sta},(∀ e s,Q e s→Q' e s)→awp P G k c Q s→awp P G k c Q' s:=by
 induction c with
 | skip=>intro Q Q' s h hh;exact h _ _ hh
 | label l=>intro Q Q' s h hh;exact h _ _ hh
 | exit id=>intro Q Q' s h hh;exact h _ _ hh
 | ret=>intro Q Q' s h hh;exact h _ _ hh
 | region id ops draw=>
  intro Q Q' s h hh
  have opm:∀ {id:Nat} {ev:Operand→AV} {H:ba} {op:Op} {K1 K2:Res→Prop},(∀ r,K1 r→K2 r)→opK P G id ev H op K1→opK P G id ev H op K2:=by
   intro id ev H op K1 K2 hk h;unfold opK at h ⊢
   split at h
   · split at h
     · obtain ⟨r,a1,a2,a3,a4,a5,a6,a7,a8,hs,hh⟩:=h;exact ⟨r,a1,a2,a3,a4,a5,a6,a7,a8,hs,hk _ hh⟩
     · exact h.elim
   · split at h
     · exact hk _ h
     · exact h.elim
  cases draw with
  | false=>
   have key:∀ (l:List SO) (s:Sta),r7 P G k (Q .normal) l s→r7 P G k (Q' .normal) l s:=by
    intro l
    induction l with
    | nil=>intro s hh;obtain ⟨s',h1,h2⟩:=hh;exact ⟨s',h1,h _ _ h2⟩
    | cons o rest ih=>
     intro s hh;obtain ⟨s',h0,h1,h2⟩:=hh;refine ⟨s',h0,h1,?_⟩
     split at h2
     · exact opm (fun r=>ih _) h2
     · exact ih _ h2
     · exact h2.elim
   exact key _ _ hh
  | true=>
   refine ⟨hh.1,?_⟩;have hh:=hh.2
   have key:∀ (l:List SO) (id:Nat) (s1:Sta) (g:Log),oh P G (fun s1 log=>∃ m,okD ops s.nx log m=true∧Q .normal { s1 with nx:=m }) l id s1 g→
    oh P G (fun s1 log=>∃ m,okD ops s.nx log m=true∧Q' .normal { s1 with nx:=m }) l id s1 g:=by
    intro l
    induction l with
    | nil=>intro id s1 g hh;obtain ⟨m,h1,h2⟩:=hh;exact ⟨m,h1,h _ _ h2⟩
    | cons o rest ih=>
     intro id s1 g hh;obtain ⟨h1,h2⟩:=hh;refine ⟨h1,?_⟩
     split at h2
     · exact opm (fun r=>ih _ _ _) h2
     · exact ih _ _ _ h2
     · exact h2.elim
   exact key _ _ _ _ hh
 | seq a b iha ihb=>
  intro Q Q' s h hh;refine iha (fun e s hh=>?_) hh
  cases e with
  | normal=>
   obtain ⟨s',he,hh⟩:=hh;exact ⟨s',he,ihb h hh⟩
  | _=>exact h _ _ hh
 | cond c a b iha ihb=>
  intro Q Q' s h hh;simp only[awp] at hh ⊢
  split at hh
  · exact iha h hh
  · exact ihb h hh
  · exact hh.elim
 | block id b ih=>
  intro Q Q' s h hh;refine ih (fun e s hh=>?_) hh
  cases e with
  | exit i=>
   simp only at hh ⊢
   split at hh
   · rename_i e;rw[if_pos e];exact h _ _ hh
   · rename_i e;rw[if_neg e];exact h _ _ hh
  | _=>exact h _ _ hh
 | loop b ih=>
  intro Q Q' s h hh;obtain ⟨I,μ,h1,h2⟩:=hh;refine ⟨I,μ,h1,fun s hs=>ih (fun e s1 hh=>?_) (h2 s hs)⟩
  cases e with
  | normal=>exact hh
  | _=>exact h _ _ hh
 | scope b ih=>
  intro Q Q' s h hh;refine ih (fun e s1 hh=>?_) hh
  cases e with
  | goto l=>exact hh
  | _=>exact h _ _ hh
 | rangeFunc g ps x y=>intro Q Q' s h hh B a w hk hi;exact wpIn_mono (hh B a w hk hi) fun e a w ⟨s,hq,hi⟩=>⟨s,h _ _ hq,hi⟩
 | _=>intro Q Q' s h hh;exact hh.elim
theorem CC.go{f:FuncId}{fn:Func}{c:Code}{Hin:List Blk}{args:List AV}{Hout:List Blk}{r:AV}{n0 k0:Nat}{l:List AV}{h0:List (Option Blk)}(hf:P.funcs[f]? = some fn)(hb:fn.body=some c)
 (acf:(fn.name == "runtime.NumGoroutine")=false) (hn:fn.ntmps=n0) (hk:Hin.length=k0) (ck:args.length≤n0) (ud:args++replicate (n0-args.length) nb=l) (hh:Hin.map some=h0)
 (h:awp P G k0 c (Fin P fn k0 Hout r) ⟨tl l,hl h0,k0,n0⟩):CC P G f Hin args Hout r:=by
 subst hn;subst hk;subst ud;subst hh;refine CC.intro hf hb acf ck ?_;rw[a33,avl];exact qyg (fun e s hh=>⟨s,.refl _ _,hh⟩) h
theorem qrf{ι:Type}{b:Code}(st:ι→Sta)(I:ι→Prop)(μ:ι→Nat)(i0:ι)(he:Ent k s (st i0))(hi:I i0)
 (h:∀ i,I i→awp P G k b (aap k st I μ (μ i) Q) (st i)):awp P G k (.loop b) Q s:=by
 classical
 let ms:Sta→Nat→Prop:=fun s n=>∃ i,s=st i∧I i∧μ i=n
 have least:∀ s,(∃ n,ms s n)→∃ n,ms s n∧∀ m,ms s m→n≤m:=by
  rintro s ⟨n,hn⟩
  induction n using Nat.strongRecOn with
  | _ n ih=>
   by_cases ip:∃ m,m<n∧ms s m
   · obtain ⟨m,hm,hms⟩:=ip;exact ih m hm hms
   · exact ⟨n,hn,fun m hm=>Nat.le_of_not_lt fun cf=>ip ⟨m,cf,hm⟩⟩
 refine qmz (fun s=>∃ i,s=st i∧I i) (fun s=>if hs:∃ n,ms s n∧∀ m,ms s m→n≤m then hs.choose else 0) (st i0) he ⟨i0,rfl,hi⟩ fun s hs=>?_
 have ip:=least s (by obtain ⟨i,h1,h2⟩:=hs;exact ⟨μ i,i,h1,h2,rfl⟩)
 simp only[dif_pos ip];obtain ⟨⟨i,hsi,hi,hmu⟩,_⟩:=ip.choose_spec;rw[← hmu];subst hsi;refine qyg (fun e s1 hh=>?_) (h i hi)
 cases e with
 | normal=>
  obtain ⟨i',h1,h2,h3⟩:=hh;have ach:=least (st i') ⟨μ i',i',rfl,h2,rfl⟩;refine ⟨st i',h1,⟨i',rfl,h2⟩,?_⟩;simp only[dif_pos ach];exact Nat.lt_of_le_of_lt (ach.choose_spec.2 _ ⟨i',rfl,h2,rfl⟩) h3
 | _=>exact hh
def aeu{ι:Type}(k:Nat)(st:ι→Sta)(I:ι→Prop)(Q:Exit→Sta→Prop):Exit→Sta→Prop:=
 fun e s1=>match e with | .normal=>∃ i,Ent k s1 (st i)∧I i|e=>Q e s1
theorem qhc{ι:Type}{st:ι→Sta}{I:ι→Prop}(i:ι)(he:Ent k s (st i))(hi:I i):aeu k st I Q .normal s:=⟨i,he,hi⟩
theorem qda{ι:Type}{a b:Code}(st:ι→Sta)(I:ι→Prop)(hb:∀ i,I i→awp P G k b Q (st i))(ha:awp P G k a (aeu k st I Q) s):awp P G k (.seq a b) Q s:=by
 show awp P G k a _ s
 refine qyg (fun e s1 hh=>?_) ha
 cases e with
 | normal=>
  obtain ⟨i,h1,h2⟩:=hh;exact ⟨st i,h1,hb i h2⟩
 | _=>exact hh
inductive LeF(m:Nat)(tm:Nat→AV):Nat→List AV→Prop
 | nil (i:Nat):LeF m tm i []
 | junk {i:Nat} {l:List AV}:LeF m tm (i+1) l→LeF m tm i (.junk::l)
 | keep {i:Nat} {a:AV} {l:List AV}:tm i=a→a.inK m=true→LeF m tm (i+1) l→LeF m tm i (a::l)
theorem LeF.keepE{m:Nat}{tm:Nat→AV}{i:Nat}{a a0:AV}{l:List AV}(h0:tm i=a0)(h:a=a0)(hk:a.inK m=true)(hl:LeF m tm (i+1) l):LeF m tm i (a::l):=.keep (h0.trans h.symm) hk hl
theorem LeF.get{m:Nat}{tm:Nat→AV}{i:Nat}{l:List AV}(h:LeF m tm i l):∀ t,xp l t = .junk∨(xp l t=tm (i+t)∧(tm (i+t)).inK m=true):=by
 induction h with
 | nil i=>intro t;exact .inl (by simp[xp])
 | junk _ ih=>intro t;cases t with
  | zero=>exact .inl rfl
  | succ t=>
   have:=ih t;rw[show ∀ i,i+(t+1)=i+1+t from fun i=>by omega];exact this
 | keep he ha _ ih=>intro t;subst he;cases t with
  | zero=>exact .inr ⟨rfl,ha⟩
  | succ t=>
   have:=ih t;rw[show ∀ i,i+(t+1)=i+1+t from fun i=>by omega];exact this
inductive vw:Nat→List (Option Blk)→ba→Prop
 | nil (i:Nat) (H:ba):vw i [] H
 | cons {i:Nat} {b:Option Blk} {l:List (Option Blk)} {H:ba}:H i=b→vw (i+1) l H→vw i (b::l) H
theorem vw.get{i:Nat}{l:List (Option Blk)}{H:ba}(h:vw i l H):∀ k (hk:k<l.length),H (i+k)=l[k]:=by
 induction h with
 | nil=>intro k hk;simp at hk
 | cons h0 _ ih=>
  intro k hk;cases k with
  | zero=>exact h0
  | succ k=>
   have:=ih k (by simpa using hk)
   rw[show ∀ i,i+(k+1)=i+1+k from fun i=>by omega]
   simpa using this
theorem a6c:∀ (l:List (Option Blk)) (i:Nat),vf l i=(l[i]?).getD none:=by
 intro l
 induction l with
 | nil=>intro i;simp[vf]
 | cons a l ih=>intro i;cases i with
  | zero=>simp[vf]
  | succ i=>simp[vf,ih]
theorem Ent.cut{tm:Nat→AV}{H:ba}{l':List AV}{h':List (Option Blk)}{nx nx' n:Nat}(hn:nx'≤nx)(hk:k≤nx')(ht:LeF nx' tm 0 l')(sa:h'.length=nx')(hh:vw 0 h' H)
 (jy:h'.all (fun b=>match b with|some b=>b.rows.all (·.all (AV.inK nx'))|none=>true)=true):Ent k ⟨tm,H,nx,n⟩ ⟨tl l',hl h',nx',n⟩:=by
 have hg:∀ b (hb:b<nx'),H b=h'[b]'(by omega):=fun b hb=>by
  have:=hh.get b (by omega)
  rwa [zero_add] at this
 refine Ent.le ⟨rfl,hn,hk,fun t=>?_,?_,fun b blk hb yc row ak=>?_⟩
 · have:=ht.get t;rw[zero_add] at this;exact this
 · funext b
   show vf h' b=m8 nx' H b
   unfold m8;rw[a6c]
   split
   · rename_i hb;rw[hg b hb,getElem?_eq_getElem (by omega)];rfl
   · rw[getElem?_eq_none (by omega)];rfl
 · have ao2:H b=some blk:=yc;rw[hg b hb] at ao2;simp only[all_eq_true] at jy;have pm:b<nx':=hb;have:=jy _ (List.getElem_mem (show b<h'.length by omega))
   rw[ao2] at this;simp only[all_eq_true] at this ⊢;exact this row ak
theorem at2(tm:Nat→AV)(d:Nat)(v:AV)(t:Nat):nr tm d v t=if t=d then v else tm t:=rfl
theorem awg(H:ba)(b:Nat)(blk:Blk)(x:Nat):co H b blk x=if x=b then some blk else H x:=rfl
theorem a4h{l:List SO}:td P G 0 l s=some (l,s):=by simp only[td]
theorem axe{n:Nat}:td P G (n+1) [] s=some ([],s):=by simp only[td]
theorem a1y{n:Nat}{o:SO}{rest:List SO}:td P G (n+1) (o::rest) s=o7 P G n rest (yj P G o s (uf s.n o.dst)):=by simp only[td]
theorem asn{n:Nat}{l:List SO}:o7 P G n l (some s)=td P G n l s:=by simp only[o7]
theorem as9{o:SO}:yj P G o s true=t8 P G o s (ed s.tm o.g):=rfl
theorem axg{o:SO}:t8 P G o s (some true)=(doA P G s.nx o s).map (s.app o.dst):=rfl
theorem a6i{o:SO}:t8 P G o s (some false)=some (s.skip o.dst):=rfl
theorem a5i{l:List SO}{id:Nat}{g:Log}:ta P G 0 l id s g=some (l,id,s,g):=by simp only[ta]
theorem a5k{n id:Nat}{g:Log}:ta P G (n+1) [] id s g=some ([],id,s,g):=by simp only[ta]
theorem aq8{n id:Nat}{g:Log}{o:SO}{rest:List SO}:ta P G (n+1) (o::rest) id s g=ou P G n rest (id+1) g (stepG P G id o s (uf s.n o.dst)):=by simp only[ta]
theorem au1{n id:Nat}{g:Log}{l:List SO}{x:List Nat × List Nat}:ou P G n l id g (some (s,x))=ta P G n l id s (g++[x]):=by simp only[ou]
theorem a2t{o:SO}{id:Nat}:stepG P G id o s true=ul P G id o s (ed s.tm o.g):=rfl
theorem atk{o:SO}{id:Nat}:ul P G id o s (some true)=(doA P G id o s).map fun r=>(s.appD o.dst r,r.log):=rfl
theorem a3d{o:SO}{id:Nat}:ul P G id o s (some false)=some (s.skip o.dst,([],[])):=rfl
attribute [go_sem] ow t7 List.getElem?_toArray
attribute [go_sem] a4h axe a1y asn as9 axg a6i a5i a5k aq8 au1 a2t atk a3d doA uf ag evA ed tz chg pure1 Sta.app Sta.appD Sta.skip Res.log mw at2 fy cd awg fe lg ac aUn rdA wrA setAt gu sy AV.cells AV.one intOf? xp a3s awm vf nb
attribute [go_sem] List.length_cons List.length_nil replicate List.cons_append nil_append List.map_cons List.map_nil List.getElem?_cons_zero List.getElem?_cons_succ List.all_cons List.all_nil List.drop_zero List.drop_succ_cons List.take_succ_cons List.take_zero List.take_nil List.drop_nil List.set_cons_zero List.set_cons_succ
attribute [go_sem] Option.map_some Option.map_none Option.getD_some Option.getD_none Option.isSome_some Option.bind_some Option.bind_none
attribute [go_sem] Bool.and_true Bool.true_and Bool.and_false Bool.false_and Bool.or_true Bool.true_or Bool.or_false Bool.false_or Bool.not_true Bool.not_false beq_true beq_false Bool.true_beq Bool.false_beq decide_true decide_false
attribute [go_sem] reduceIte reduceCtorEq and_true true_and and_self if_true if_false beq_self_eq_true
attribute [go_sem] Nat.reduceLT Nat.reduceAdd Nat.reduceMul Nat.reduceLeDiff Nat.reduceSub Nat.reduceEqDiff Nat.reduceBEq Int.reduceNeg Int.reduceLT Int.reduceLE Int.reduceAdd Int.reduceSub Int.reduceToNat Int.reduceMul Nat.lt_add_one Nat.reduceSucc Nat.max_def zero_add Nat.add_zero Nat.succ_eq_add_one Int.reduceEq ne_eq not_false_eq_true Int.natCast_nonneg Int.toNat_natCast Int.reduceBEq Bool.not_not
attribute [go_sem] Value.oneCell' List.toList_toArray List.size_toArray List.range_zero nil_append i7 List.cons.injEq List.length_append List.length_map
theorem avg(a:Nat)(l:List Nat)(id:Nat):mOf (a::l) id 0=a:=rfl
theorem ap2(a:Nat)(l:List Nat)(id i:Nat):mOf (a::l) id (i+1)=mOf l id i:=rfl
theorem ari(id i:Nat):mOf [] id i=id:=rfl
theorem au4{α:Type}(p:α→Bool)(l:List α)(n:Nat)(h:n=l.length):Array.all l.toArray p 0 n=l.all p:=by
 subst h;have:l.length=l.toArray.size:=by simp
 rw[this];exact List.all_toArray
attribute [go_sem] au4
attribute [go_sem] avg ap2 ari
attribute [go_sem] zi kg aam wo df pv xl rg lw j8 fh nc jr gl e9 AV.ren AV.renL AV.inK AV.inKL AV.scal gg Blk.ren gx ux
end Am

namespace Am
open Go
variable {P:Program}{G:bl}{k:Nat}{w:World}{C:Com}{ρ:Rho}{H:ba}
theorem azy(hR:bh w C ρ H){b r s i j:Nat}{blk:Blk}(hb:H b=some blk)(kz:blk.fz=false)(hr:ρ b=some (r,s))(hi:i<blk.rows.length)(hj:j<(blk.rows[i]).length)
 {c:AV} {v:Value} (hc:ao w C ρ H c v) (h1:v.oneCell' = true) :
 bh (w.setCell ⟨r,i*blk.sz+j,none⟩ v) C ρ (co H b { blk with rows:=blk.rows.set i ((blk.rows[i]).set j c) })∧
 Ext w C ρ H (w.setCell ⟨r,i*blk.sz+j,none⟩ v) C ρ (co H b { blk with rows:=blk.rows.set i ((blk.rows[i]).set j c) }):=by
 obtain ⟨cs,lo,hh,m1,m2,m3,m4,f1,f2,f3⟩:=qlf hR hb hr;have de:=f2 i hi
 have cf:i*blk.sz+j<cs.size:=by
  have:(i+1)*blk.sz≤blk.rows.length*blk.sz:=Nat.mul_le_mul_right _ hi;rw[add_mul,one_mul] at this;omega
 have hw:yi w (w.setCell ⟨r,i*blk.sz+j,none⟩ v) r (cs.setIfInBounds (i*blk.sz+j) v) blk.ty lo hh:=by
  refine ⟨rfl,rfl,rfl,by simp[World.setCell],fun x hx=>?_,?_⟩
  · simp only[World.setCell,Array.getElem?_modify];rw[if_neg (fun e=>hx e.symm)]
  · simp[World.setCell,Array.getElem?_modify,m1]
 refine ⟨qnq (blk:={ blk with rows:=blk.rows.set i ((blk.rows[i]).set j c) }) hR hb kz hr hw rfl (by simp) kz (by simpa using m2) (m3 kz) (m4 kz) ⟨by simpa using f1,?_,?_⟩,
  tx (blk:={ blk with rows:=blk.rows.set i ((blk.rows[i]).set j c) }) hR hb kz hr hw rfl (by simp)⟩
 · intro x hx;simp at hx
   by_cases zk:i=x
   · subst zk;simp[de]
   · simp only[getElem_set_ne zk];exact f2 x hx
 · intro x y hx hy;simp at hx
   by_cases zk:i=x
   · subst zk;simp only[getElem_set_self,length_set] at hy ⊢
     by_cases hyj:j=y
     · subst hyj;refine ⟨v,?_,h1,?_⟩
       · show (cs.setIfInBounds (i*blk.sz+j) v)[i*blk.sz+j]? = some v
         simp[cf]
       · simp only[getElem_set_self];exact hc
     · obtain ⟨u,u1,u2,u3⟩:=f3 i y hi hy;refine ⟨u,?_,u2,?_⟩
       · show (cs.setIfInBounds (i*blk.sz+j) v)[i*blk.sz+y]? = some u
         rw[Array.getElem?_setIfInBounds_ne (by omega)];exact u1
       · simp only[getElem_set_ne hyj];exact u3
   · simp only[getElem_set_ne zk] at hy ⊢;obtain ⟨u,u1,u2,u3⟩:=f3 x y hx hy;refine ⟨u,?_,u2,u3⟩
     show (cs.setIfInBounds (i*blk.sz+j) v)[x*blk.sz+y]? = some u
     rw[Array.getElem?_setIfInBounds_ne ?_];· exact u1
     have hy':y<blk.sz:=by rw[f2 x hx] at hy;exact hy
     have gb:j<blk.sz:=by rw[← de];exact hj
     intro e;rcases Nat.lt_trichotomy i x with h|h|h
     · have:(i+1)*blk.sz≤x*blk.sz:=Nat.mul_le_mul_right _ h;rw[add_mul,one_mul] at this;omega
     · exact zk h
     · have:(x+1)*blk.sz≤i*blk.sz:=Nat.mul_le_mul_right _ h;rw[add_mul,one_mul] at this;omega
theorem Ent.ghostH{s:Sta}(b i j:Nat)(ty:TypeId)(sz:Nat){blk:Blk}(hb:s.H b=some blk)(hi:i<blk.rows.length)(hj:j<(blk.rows[i]).length)(hc:(blk.rows[i])[j] = .nils) :
 Ent k s { s with H:=co (co s.H s.nx { fz:=false,ap:=true,ty,sz,rows:=[] }) b { blk with rows:=blk.rows.set i ((blk.rows[i]).set j (.own s.nx 0 0 0)) },nx:=s.nx+1 }:=by
 rintro G B a w hk ⟨C,ρ,fg⟩;have wi:=fg.nx s.nx (le_refl _);have hbn:b≠s.nx:=fun e=>by rw[e,wi] at hb;simp at hb
 let ρ1:Rho:=fun x=>if x=s.nx then none else ρ x
 let g:Blk:={ fz:=false,ap:=true,ty,sz,rows:=[] }
 let blk':Blk:={ blk with rows:=blk.rows.set i ((blk.rows[i]).set j (.own s.nx 0 0 0)) }
 let H1:ba:=co (co s.H s.nx g) b blk'
 have hH1:∀ x,H1 x=if x=b then some blk' else if x=s.nx then some g else s.H x:=fun x=>rfl
 have hρ:∀ x,x≠s.nx→ρ1 x=ρ x:=fun x hx=>by simp[ρ1,hx]
 have vc:∀ x,x≠s.nx→(H1 x).isSome=(s.H x).isSome:=fun x hx=>by
  rw[hH1]
  by_cases dk:x=b
  · subst dk;simp[hb]
  · rw[if_neg dk,if_neg hx]
 have e:Ext w C ρ s.H w C ρ1 H1:=by
  refine ⟨fun _ _ h=>h,fun _ _ _=>rfl,fun x bj hx=>?_,rfl,rfl,rfl,le_refl _,fun _ _ _=>rfl,?_,fun _ _ h=>.inl h⟩
  · have dc:x≠s.nx:=fun e=>by subst e;rw[wi] at hx;simp at hx
    by_cases dk:x=b
    · subst dk;rw[hb] at hx;cases hx;exact ⟨blk',by rw[hH1];simp,rfl,by simp[blk'],fun _=>hρ _ dc⟩
    · exact ⟨bj,by rw[hH1];simp[dk,dc,hx],rfl,le_refl _,fun _=>hρ _ dc⟩
  · rintro r ⟨x,z,hx,hr⟩
    by_cases dc:x=s.nx
    · subst dc;simp[ρ1] at hr
    · rw[vc x dc] at hx;rw[hρ x dc] at hr;exact .inl ⟨x,z,hx,hr⟩
 have hg:H1 s.nx=some g:=by rw[hH1,if_neg (fun h=>hbn h.symm),if_pos rfl]
 have hR:bh w C ρ1 H1:=by
  refine ⟨fun x bj hx=>?_,fun x y r z z' dc hx hy hr ei=>?_,fg.rel.h.com⟩
  · by_cases dc:x=s.nx
    · subst dc;rw[hg] at hx;cases hx;unfold cw;simp[ρ1,g]
    · by_cases dk:x=b
      · subst dk;have na:some blk' = some bj:=by rw[← hx,hH1];simp
        cases na;have h0:=(fg.rel.h.blk x blk hb).ext e (hρ x dc) (fun _ _ _=>rfl) (fun _ _ _ _ _ h=>h)
        unfold cw at h0 ⊢;cases hr:ρ1 x with
        | none=>
         rw[hr] at h0;simp only at h0;rw[h0.1] at hi;simp at hi
        | some p=>
         obtain ⟨r,z⟩:=p;rw[hr] at h0;obtain ⟨⟨cs,lo,hh,a1,a2,a3,a4,a5,a6,a7⟩,a8,a9⟩:=h0;refine ⟨⟨cs,lo,hh,a1,a2,a3,a4,by simpa [blk'] using a5,?_,?_⟩,a8,by simpa [blk'] using a9⟩
         · intro x' na;simp only[blk',length_set] at na ⊢
           by_cases zk:i=x'
           · subst zk;simp[a6]
           · simp only[getElem_set_ne zk];exact a6 x' na
         · intro x' y' na hy';simp only[blk',length_set] at na hy' ⊢
           by_cases zk:i=x'
           · subst zk;simp only[getElem_set_self,length_set] at hy' ⊢;obtain ⟨v,v1,v2,v3⟩:=a7 i y' hi hy';refine ⟨v,v1,v2,?_⟩
             by_cases hyj:j=y'
             · subst hyj;simp only[getElem_set_self];rw[hc] at v3;cases v3;exact .own s.nx 0 0 0 _ g hg (by simp) rfl fun _=>.inr ⟨by simp[ρ1],rfl,rfl,rfl⟩
             · simp only[getElem_set_ne hyj];exact v3
           · simp only[getElem_set_ne zk] at hy' ⊢;exact a7 x' y' na hy'
      · have na:s.H x=some bj:=by rw[hH1] at hx;simpa [dk,dc] using hx
        exact (fg.rel.h.blk x bj na).ext e (hρ x dc) (fun _ _ _=>rfl) (fun _ _ _ _ _ h=>h)
  · have h1:x≠s.nx:=fun e=>by subst e;simp[ρ1] at hr
    have h2:y≠s.nx:=fun e=>by subst e;simp[ρ1] at ei
    rw[vc x h1] at hx;rw[vc y h2] at hy;rw[hρ x h1] at hr;rw[hρ y h2] at ei;exact fg.rel.h.dis x y r z z' dc hx hy hr ei
 refine ⟨C,ρ1,⟨fun t'=>(fg.rel.tm t').mono e,fg.rel.size,hR,trivial,fg.rel.defers⟩,fun x hx=>?_,fg.ext.trans e,fg.glob,fg.marks⟩
 have na:s.nx+1≤x:=hx
 show H1 x=none
 rw[hH1]
 have dk:x≠b:=fun e=>by
  subst e;rw[fg.nx x (by omega)] at hb;simp at hb
 simp[dk,show x≠s.nx from by omega]
 exact fg.nx x (by omega)
end Am
