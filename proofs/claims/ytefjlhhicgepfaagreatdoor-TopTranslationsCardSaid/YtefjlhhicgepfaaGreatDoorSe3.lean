/- Lemmas. -/
import Derived.Test.YtefjlhhicgepfaaGreatDoorSe2
set_option linter.unusedSimpArgs false
set_option linter.unusedVariables false
set_option linter.unusedSectionVars false
open List (all_eq_true getElem?_map length_map map_cons map_drop map_map map_nil map_set map_take mem_map)
open Bool (and_eq_true not_eq_true')
open Option (bind_some getD_none getD_some map_none map_some)
namespace Am
open Go
variable {P:Program}{G:bl}
section
variable {T:Tab}{SG:ef}{σ:SS}{e e':Env}{s:Sta}{id:Nat}
theorem au.pureR(hS:Sat e σ s){op:Op}{r:SR}{o:Env}(hu:r.up=[]){av:AV}(ip:ag P id (evA G s.tm) s.H op=some { v:=av,hs:=[],rb:=r.rb })(hv:Wk av (r.v.inst (e++o) (ae e σ.H))) :
 ∃ res,au P G id op e (e++o) σ s r res:=
 ⟨_,ip,by rw[hu,qvq hS];exact hv,by rw[hu];trivial,rfl,fun b _=>by rw[hu,qvq hS],fun p hp=>by rw[hu] at hp;exact absurd hp List.not_mem_nil⟩
theorem au.oneR(hS:Sat e σ s){op:Op}{r:SR}{o:Env}{av:AV}{b:Nat}{k:SB}{blk:Blk}(hu:r.up=[(b,k)]){ln:Nat→Nat}
 (ip:ag P id (evA G s.tm) s.H op=some { v:=av,hs:=[(b,blk)],rb:=r.rb }) (lx:ln=fun x=>if x=b then k.len (e++o) else ae e σ.H x)
 (hv:Wk av (r.v.inst (e++o) ln)) (hb:WkB blk (k.inst (e++o) ln)) (hg:inL r.gr b=false→k.len (e++o)=ae e σ.H b) (m9:∃ xs,k.d.val (e++o) = .sl xs) :
 ∃ res,au P G id op e (e++o) σ s r res:=by
 subst lx;refine ⟨_,ip,?_,?_,rfl,fun x hx=>?_,fun p hp=>by rw[hu] at hp;cases List.mem_singleton.1 hp;exact m9⟩
 · rw[hu,qok hS];exact hv
 · rw[hu,qok hS];exact ⟨rfl,hb,trivial⟩
 · rw[hu,qok hS];simp only
   split
   · rename_i h;subst h;exact hg hx
   · rfl
theorem afr{H:ba}{b i j:Nat}{x:Blk}{R0:List (List AV)}{row0:List AV}(hb:H b=some x)(hR:WkR x.rows R0)(hi:R0[i]? = some row0)(sz:Nat) :
 (j+sz≤row0.length→∃ l,rdA true sz H (.ptr b R0.length i j)=some (.agg l,[b])∧WkL l ((row0.drop j).take sz))∧
 (∀ c0,row0[j]? = some c0→∃ c,rdA false sz H (.ptr b R0.length i j)=some (c,[b])∧Wk c c0):=by
 obtain ⟨row,ak,hw⟩:=hR.get hi
 constructor
 · intro hl;refine ⟨(row.drop j).take sz,?_,(hw.drop j).take sz⟩;have:j+sz≤row.length:=by rw[hw.1];exact hl
   simp only[rdA,hb,hR.1,if_true,ak,this]
 · intro c0 hc;obtain ⟨c,h1,h2⟩:=hw.get hc;refine ⟨c,?_,h2⟩;simp only[rdA,hb,hR.1,if_true,ak,h1,Bool.false_eq_true,if_false]
theorem alq{H:ba}{b i j sz:Nat}{x:Blk}{R0:List (List AV)}{row0:List AV}{a:AV}{cs0:List AV}(hb:H b=some x)(hf:x.fz=false)(hR:WkR x.rows R0)(hi:R0[i]? = some row0)
 (hc:WkL a.cells cs0) (h1:a.cells.all AV.one=true) (hs:cs0.length=sz) (hl:j+sz≤row0.length) :
 ∃ x',wrA sz H a (.ptr b R0.length i j)=some (b,x')∧x'.fz=x.fz∧x'.ap=x.ap∧x'.ty=x.ty∧x'.sz=x.sz∧WkR x'.rows (R0.set i (setAt row0 j cs0)):=by
 obtain ⟨row,ak,hw⟩:=hR.get hi;refine ⟨{ x with rows:=x.rows.set i (setAt row j a.cells) },?_,rfl,rfl,rfl,rfl,hR.set (hw.setAt hc j) i⟩;have:j+sz≤row.length:=by rw[hw.1];exact hl
 have h2:a.cells.length=sz:=by rw[hc.1];exact hs
 simp only[wrA,hb,hR.1,hf,h2,h1,ak,this,and_self,if_true]
theorem qsh{q:SA}(h:im q=true):q = .c (.sl []):=by
 unfold im at h
 split at h
 · rfl
 · simp at h
theorem qfe{ln:Nat→Nat}{k:SB}(h:im k.d=true):k.rows e ln=k.tl.map (SV.instL e ln):=by
 simp[SB.rows,qsh h,SA.val,D.rows]
theorem qve{k:SB}(h:im k.d=true):k.len e=k.tl.length:=by
 simp[SB.len,qsh h,SA.val,D.rows]
theorem qyb{ln:Nat→Nat}{k:SB}(h:k.tl.isEmpty=true){xs:List (List D)}(hd:k.d.val e = .sl xs):k.rows e ln=xs.map (·.map .d):=by
 simp[SB.rows,List.isEmpty_iff.1 h,hd,D.rows]
theorem qpc{k:SB}(h:k.tl.isEmpty=true){xs:List (List D)}(hd:k.d.val e = .sl xs):k.len e=xs.length:=by
 simp[SB.len,List.isEmpty_iff.1 h,hd,D.rows]
theorem qcm{ln:Nat→Nat}(l:List SV)(j:Nat):(SV.instL e ln l)[j]? = (l[j]?).map (SV.inst e ln):=by
 rw[SV.instL_map,getElem?_map]
theorem qgb{ln:Nat→Nat}(l:List SV):(SV.instL e ln l).length=l.length:=by rw[SV.instL_map,length_map]
theorem aia{ln:Nat→Nat}(l:List SV)(j n:Nat):((SV.instL e ln l).drop j).take n=SV.instL e ln ((l.drop j).take n):=by
 rw[SV.instL_map,SV.instL_map,map_take,map_drop]
theorem qmm{ln:Nat→Nat}:∀ (cs row:List SV) (j:Nat),SV.instL e ln (nk row j cs)=setAt (SV.instL e ln row) j (SV.instL e ln cs):=by
 intro cs
 induction cs with
 | nil=>intro row j;rfl
 | cons c cs ih=>
  intro row j;simp only[nk,SV.instL,setAt];rw[ih]
  congr 1
  simp only[SV.instL_map,map_set]
theorem ax1:∀ (cs row:List D) (j:Nat),(uc row j cs).map AV.d=setAt (row.map .d) j (cs.map .d):=by
 intro cs
 induction cs with
 | nil=>intro row j;rfl
 | cons c cs ih=>
  intro row j;simp only[uc,map_cons,setAt];rw[ih,map_set]
theorem qxi:∀ {l:List SV} {as:List SA},mm l=some as→l=as.map .atm:=by
 intro l
 induction l with
 | nil=>intro as h;simp[mm] at h;subst h;rfl
 | cons v l ih=>
  intro as h;cases v with
  | atm x=>
   simp only[mm] at h
   split at h
   · rename_i r hr;cases h;rw[ih hr];rfl
   · simp at h
  | _=>simp[mm] at h
theorem qod{ln:Nat→Nat}(as:List SA):SV.instL e ln (as.map .atm)=(as.map (·.val e)).map .d:=by
 rw[SV.instL_map,map_map,map_map];rfl
theorem ape{r:List D}{j:Nat}(h:j+1≤r.length):∃ c,(r.drop j).take 1=[c]∧r[j]? = some c:=by
 have hj:j<r.length:=by omega
 refine ⟨r[j],?_,List.getElem?_eq_getElem hj⟩;rw[List.drop_eq_getElem_cons hj];rfl
theorem qba(hS:Sat e σ s){b i j n:Nat}{k:SB}{idx:SA}{o:Env}(hk:am σ.H b=some k)(fo:k.tl.isEmpty=true)(ho:PO.eval (.get j n) [k.d.val e,idx.val e]=some o)(hi:(idx.val e).num.toNat=i) :
 o.length=n∧(∃ l,rdA true n s.H (.ptr b (ae e σ.H b) i j)=some (.agg l,[b])∧WkL l (o.map .d))∧
 (n=1→∀ sz,∃ c c0,rdA false sz s.H (.ptr b (ae e σ.H b) i j)=some (c,[b])∧o=[c0]∧Wk c (.d c0)):=by
 obtain ⟨x,hx,hw⟩:=hS.blk hk;obtain ⟨xs,kd,nn,r,hd,vm,hn0,hr,hjl,rfl⟩:=ar3 ho;rw[vm] at hi;simp only[D.num] at hi
 have cx:(k.inst e (ae e σ.H)).rows=xs.map (·.map .d):=qyb fo hd
 have hR:=hw.2.2.2.2;rw[cx] at hR
 have an:ae e σ.H b=(xs.map (·.map AV.d)).length:=by rw[qr hk,qpc fo hd];simp
 have hg:(xs.map (·.map AV.d))[i]? = some (r.map .d):=by rw[getElem?_map,← hi,hr];rfl
 rw[an];obtain ⟨h1,h2⟩:=afr (j:=j) hx hR hg n;refine ⟨by simp;omega,?_,?_⟩
 · obtain ⟨l,hl,r4⟩:=h1 (by simpa using hjl)
   exact ⟨l,hl,by rw[map_take,map_drop];exact r4⟩
 · rintro rfl sz;obtain ⟨c0,hc0,a1u⟩:=ape hjl;obtain ⟨c,hc,hwc⟩:=(afr (j:=j) hx hR hg sz).2 (.d c0) (by rw[getElem?_map,a1u];rfl)
   exact ⟨c,c0,hc,hc0,hwc⟩
theorem qja(hS:Sat e σ s){tf:TF}{v:SV}{a:AV}{r:SR}(ha:Wk a (v.inst e (ae e σ.H)))(hv:v.ok e.length=true)(h:aao σ e.length tf v=some r)(hr:db r.em e=some e') :
 ∃ av,rdA tf.agg tf.sz s.H a=some (av,r.rb)∧Wk av (r.v.inst e' (ae e σ.H))∧r.up=[]:=by
 unfold aao at h
 split at h
 · rename_i b i j;rw[qde ha]
   split at h
   · rename_i k hk
     split at h
     · rename_i hn;obtain ⟨x,hx,hw⟩:=hS.blk hk;have hR:=hw.2.2.2.2;have cx:(k.inst e (ae e σ.H)).rows=_:=qfe hn;rw[cx] at hR;have an:ae e σ.H b=(k.tl.map (SV.instL e (ae e σ.H))).length:=by rw[qr hk,qve hn];simp
       rw[an]
       split at h
       · rename_i row ak;have hg:(k.tl.map (SV.instL e (ae e σ.H)))[i]? = some (SV.instL e (ae e σ.H) row):=by rw[getElem?_map,ak];rfl
         obtain ⟨h1,h2⟩:=afr (j:=j) hx hR hg tf.sz
         split at h
         · rename_i du
           split at h
           · rename_i j7;cases h;obtain rfl:=qdd hr;rw[du];obtain ⟨l,hl,r4⟩:=h1 (by rw[qgb];exact Nat.le_of_ble_eq_true j7)
             rw[aia] at r4;exact ⟨_,hl,.agg _ _ r4.1 r4.2,rfl⟩
           · simp at h
         · rename_i du
           split at h
           · rename_i c hc;cases h;obtain rfl:=qdd hr;rw[show tf.agg=false by simpa using du]
             obtain ⟨c',h3,h4⟩:=h2 _ (by rw[qcm,hc];rfl)
             exact ⟨c',h3,h4,rfl⟩
           · simp at h
       · simp at h
     · split at h
       · rename_i fo
         split at h
         · rename_i du;cases h;obtain ⟨o,ho,rfl⟩:=qrc hr;simp only[map_cons,map_nil] at ho;obtain ⟨hl,⟨l,h1,h2⟩,_⟩:=qba hS hk fo ho (i:=i) (by simp[SA.val,D.num])
           rw[du];refine ⟨_,h1,?_,rfl⟩;simp only[SV.inst];rw[qms e o _ _ hl];exact .agg _ _ h2.1 h2.2
         · rename_i du;cases h;obtain ⟨o,ho,rfl⟩:=qrc hr;simp only[map_cons,map_nil] at ho;obtain ⟨hl,_,h3⟩:=qba hS hk fo ho (i:=i) (by simp[SA.val,D.num])
           rw[show tf.agg=false by simpa using du]
           obtain ⟨c,c0,h4,rfl,h5⟩:=h3 rfl tf.sz;exact ⟨c,h4,by simp only[SV.inst,qbb];exact h5,rfl⟩
       · simp at h
   · simp at h
 · rename_i b x j;rw[qde ha]
   split at h
   · rename_i k hk
     split at h
     · rename_i fo
       split at h
       · rename_i du;cases h;obtain ⟨o,ho,rfl⟩:=qrc hr;simp only[map_cons,map_nil] at ho;obtain ⟨hl,⟨l,h1,h2⟩,_⟩:=qba hS hk fo ho rfl;rw[du];refine ⟨_,h1,?_,rfl⟩;simp only[SV.inst];rw[qms e o _ _ hl];exact .agg _ _ h2.1 h2.2
       · rename_i du;cases h;obtain ⟨o,ho,rfl⟩:=qrc hr;simp only[map_cons,map_nil] at ho;obtain ⟨hl,_,h3⟩:=qba hS hk fo ho rfl;rw[show tf.agg=false by simpa using du]
         obtain ⟨c,c0,h4,rfl,h5⟩:=h3 rfl tf.sz;exact ⟨c,h4,by simp only[SV.inst,qbb];exact h5,rfl⟩
     · simp at h
   · simp at h
 · rename_i cs;rw[qgi ha]
   split at h
   · rename_i du
     split at h
     · rename_i j7;cases h;obtain rfl:=qdd hr
       have:tf.sz≤(cs.map (·.val e)).length:=by simpa using Nat.le_of_ble_eq_true j7
       refine ⟨.agg (((cs.map (·.val e)).take tf.sz).map .d),by simp only[rdA,du,if_true,this],?_,rfl⟩
       simp only[SV.inst];rw[qod];simp only[map_take];exact .refl _
     · simp at h
   · rename_i du
     split at h
     · rename_i c cs';cases h;obtain rfl:=qdd hr;refine ⟨.d (c.val e),by simp only[rdA,show tf.agg=false by simpa using du,Bool.false_eq_true,if_false,map_cons,List.getElem?_cons_zero],.refl _,rfl⟩
     · simp at h
 · simp at h
theorem av7(_:Sat e σ s){b:Nat}{k k':SB}{o:Env}(hk:am σ.H b=some k)(h:k'.len (e++o)=k.len e):ae e σ.H=fun x=>if x=b then k'.len (e++o) else ae e σ.H x:=by
 funext x
 split
 · rename_i hx;subst hx;rw[h,qr hk]
 · rfl
theorem ajh(hS:Sat e σ s){b i j n:Nat}{k:SB}{idx:SA}{as:List SA}{o:Env}{a:AV}(hk:am σ.H b=some k)(fo:k.tl.isEmpty=true)(hf:k.fz=false)
 (ho:PO.eval (.set j n) (k.d.val e::idx.val e::as.map (·.val e))=some o) (hi:(idx.val e).num.toNat=i) (hc:WkL a.cells ((as.map (·.val e)).map .d)) (h1:a.cells.all AV.one=true) :
 ∃ x',wrA n s.H a (.ptr b (ae e σ.H b) i j)=some (b,x')∧WkB x' (({ k with d:=.v e.length }:SB).inst (e++o) (ae e σ.H))∧({ k with d:=.v e.length }:SB).len (e++o)=k.len e∧∃ xs,(SA.v e.length).val (e++o) = .sl xs:=by
 obtain ⟨x,hx,hw⟩:=hS.blk hk;obtain ⟨xs,kd,nn,r,hd,vm,hn0,hr,hjl,su,rfl⟩:=asy ho;rw[vm] at hi;simp only[D.num] at hi
 have cx:(k.inst e (ae e σ.H)).rows=xs.map (·.map .d):=qyb fo hd
 have hR:=hw.2.2.2.2;rw[cx] at hR
 have an:ae e σ.H b=(xs.map (·.map AV.d)).length:=by rw[qr hk,qpc fo hd];simp
 have hg:(xs.map (·.map AV.d))[i]? = some (r.map .d):=by rw[getElem?_map,← hi,hr];rfl
 rw[an];obtain ⟨x',w1,w2,w3,w4,w5,w6⟩:=alq (j:=j) (sz:=n) hx (hw.1.trans hf) hR hg hc h1 (by simpa using su) (by simpa using hjl)
 have zu:(({ k with d:=.v e.length }:SB).d).val (e++[.sl (xs.set nn.toNat (uc r j (as.map (·.val e))))]) = .sl (xs.set nn.toNat (uc r j (as.map (·.val e)))):=qbb e _ []
 refine ⟨x',w1,⟨w2.trans hw.1,w3.trans hw.2.1,w4.trans hw.2.2.1,w5.trans hw.2.2.2.1,?_⟩,?_⟩
 · show WkR x'.rows (SB.rows _ _ _)
   rw[qyb (k:={ k with d:=.v e.length }) fo zu,map_set,ax1,hi];exact w6
 · refine ⟨?_,_,zu⟩;rw[qpc (k:={ k with d:=.v e.length }) fo zu,qpc fo hd];simp
theorem a56(hS:Sat e σ s){tf:TF}{v vx:SV}{a x:AV}{r:SR}(ha:Wk a (v.inst e (ae e σ.H)))(hx:Wk x (vx.inst e (ae e σ.H)))(hxk:vx.ok e.length=true)(h:aak σ e.length tf vx v=some r)(hr:db r.em e=some e') :
 ∃ o b blk k k',e' = e++o∧wrA tf.sz s.H x a=some (b,blk)∧r.up=[(b,k')]∧r.rb=[b]∧r.v = .junk∧am σ.H b=some k∧WkB blk (k'.inst e' (ae e σ.H))∧k'.len e' = k.len e∧∃ xs,k'.d.val e' = .sl xs:=by
 unfold aak at h
 split at h
 · rename_i b i j;rw[qde ha]
   split at h
   · rename_i k hk
     split at h
     · rename_i ff;simp only[and_eq_true,not_eq_true',beq_iff_eq] at ff;obtain ⟨⟨kz,su⟩,kv⟩:=ff;have zm:=qbh hx kv;have hc2:=qgc hS.wf hxk hx kv
       split at h
       · rename_i hn;obtain ⟨blk,hb,hw⟩:=hS.blk hk;have hR:=hw.2.2.2.2;have cx:(k.inst e (ae e σ.H)).rows=_:=qfe hn;rw[cx] at hR;have an:ae e σ.H b=(k.tl.map (SV.instL e (ae e σ.H))).length:=by rw[qr hk,qve hn];simp
         rw[an]
         split at h
         · rename_i row ak
           split at h
           · rename_i j7;cases h;obtain rfl:=qdd hr;have hg:(k.tl.map (SV.instL e (ae e σ.H)))[i]? = some (SV.instL e (ae e σ.H) row):=by rw[getElem?_map,ak];rfl
             obtain ⟨x',w1,w2,w3,w4,w5,w6⟩:=alq (j:=j) (sz:=tf.sz) hb (hw.1.trans kz) hR hg zm hc2 (by rw[qgb];exact su) (by rw[qgb];exact Nat.le_of_ble_eq_true j7)
             refine ⟨[],b,x',k,_,by simp,w1,rfl,rfl,rfl,hk,⟨w2.trans hw.1,w3.trans hw.2.1,w4.trans hw.2.2.1,w5.trans hw.2.2.2.1,?_⟩,?_⟩
             · show WkR x'.rows (SB.rows _ _ _)
               rw[qfe (k:={ k with tl:=k.tl.set i (nk row j vx.cells) }) hn];simp only[map_set];rw[qmm];exact w6
             · refine ⟨?_,[],?_⟩
               · rw[qve (k:={ k with tl:=k.tl.set i (nk row j vx.cells) }) hn,qve hn];simp
               · show k.d.val e=_
                 rw[qsh hn];rfl
           · simp at h
         · simp at h
       · split at h
         · rename_i fo
           split at h
           · rename_i as has;cases h;obtain ⟨o,ho,rfl⟩:=qrc hr;simp only[map_cons] at ho;rw[qxi has,qod] at zm;obtain ⟨x',w1,w2,w3⟩:=ajh hS hk fo kz ho (i:=i) (by simp[SA.val,D.num]) zm hc2
             exact ⟨o,b,x',k,_,rfl,w1,rfl,rfl,rfl,hk,w2,w3⟩
           · simp at h
         · simp at h
     · simp at h
   · simp at h
 · rename_i b y j;rw[qde ha]
   split at h
   · rename_i k hk
     split at h
     · rename_i ff;simp only[and_eq_true,not_eq_true',beq_iff_eq] at ff;obtain ⟨⟨⟨kz,su⟩,kv⟩,fo⟩:=ff;have zm:=qbh hx kv;have hc2:=qgc hS.wf hxk hx kv
       split at h
       · rename_i as has;cases h;obtain ⟨o,ho,rfl⟩:=qrc hr;simp only[map_cons] at ho;rw[qxi has,qod] at zm;obtain ⟨x',w1,w2,w3⟩:=ajh hS hk fo kz ho rfl zm hc2;exact ⟨o,b,x',k,_,rfl,w1,rfl,rfl,rfl,hk,w2,w3⟩
       · simp at h
     · simp at h
   · simp at h
 · simp at h
variable (hS:Sat e σ s)(hG:GOK G SG)(hT:TOK P T)
include hS hG hT
theorem ap6{t:TypeId}{a:Operand}{r:SR}(h:br T SG σ e.length id (.load t a)=some r)(hr:db r.em e=some e'):∃ res,au P G id (.load t a) e e' σ s r res:=by
 simp only[br] at h
 split at h
 · rename_i tf pw
   split at h
   · rename_i hc;simp only[and_eq_true] at hc;have ht:=hT _ _ pw;obtain ⟨av,h1,h2,h3⟩:=qja hS (hev hS hG a) (hok hS hG a) h hr;obtain ⟨o,rfl,_⟩:=qje hr;refine au.pureR hS h3 (av:=av) ?_ h2;simp only[ag,ht.ti,ht.tu,hc.1,hc.2,and_self,if_true,ht.agg,ht.sz,h1]
   · simp at h
 · simp at h
theorem a2n{t:TypeId}{a x:Operand}{r:SR}(h:br T SG σ e.length id (.store t a x)=some r)(hr:db r.em e=some e'):∃ res,au P G id (.store t a x) e e' σ s r res:=by
 simp only[br] at h
 split at h
 · rename_i tf pw
   split at h
   · rename_i hc;have ht:=hT _ _ pw;obtain ⟨o,b,blk,k,k',rfl,h1,h2,h3,h4,h5,h6,h7,h8⟩:=a56 hS (hev hS hG a) (hev hS hG x) (hok hS hG x) h hr;refine au.oneR hS h2 (av:=.junk) (blk:=blk) (ln:=ae e σ.H) ?_ (av7 hS h5 h7) (by rw[h4];exact .junk _) h6 (fun _=>by rw[h7,qr h5]) h8
     simp only[ag,ht.ti,hc,if_true,ht.sz,h1,h3]
   · simp at h
 · simp at h
end
end Am

namespace Am
open Go
variable {P:Program}{G:bl}
section
variable {T:Tab}{SG:ef}{σ:SS}{e e':Env}{s:Sta}{id:Nat}
theorem au8{l l0:List AV}(h:WkL l l0):WkR [l] [l0]:=.cons h .nil
theorem qnp{ln:Nat→Nat}{v:SV}(h:v.cells.all SV.one=true):(v.inst e ln).cells=SV.instL e ln v.cells:=by
 cases v<;>first|rfl|(simp[SV.cells,SV.one] at h;done)
theorem ama(hS:Sat e σ s){op:Op}{vs:List SV}{cs:List AV}{t:TypeId}{em:List (PO × List SA)}(ip:ag P id (evA G s.tm) s.H op=some { v:=.ptr id 1 0 0,hs:=[(id,{ fz:=false,ap:=false,ty:=t,sz:=vs.length,rows:=[cs] })],rb:=[] })
 (hc:WkL cs (SV.instL e (fun x=>if x=id then 1 else ae e σ.H x) vs)) :
 ∃ res,au P G id op e e σ s { em,v:=.ptr id 0 0,up:=[(id,{ fz:=false,ap:=false,ty:=t,sz:=vs.length,d:=gm,tl:=[vs] })],gr:=[id] } res:=by
 refine au.one0 hS ip (ln:=fun x=>if x=id then 1 else ae e σ.H x) rfl ?_ ⟨rfl,rfl,rfl,rfl,?_⟩ (by simp[inL]) ⟨[],rfl⟩
 · simp only[SV.inst,if_true];exact .refl _
 · show WkR [cs] (SB.rows _ _ _)
   rw[qfe (k:={ fz:=false,ap:=false,ty:=t,sz:=vs.length,d:=gm,tl:=[vs] }) rfl];exact au8 hc
section
variable (hS:Sat e σ s)(hG:GOK G SG)(hT:TOK P T)
include hS hG hT
theorem arq{t:TypeId}{r:SR}(h:br T SG σ e.length id (.alloc t)=some r)(hr:db r.em e=some e'):∃ res,au P G id (.alloc t) e e' σ s r res:=by
 simp only[br] at h
 split at h
 · rename_i tf pw;have ht:=hT _ _ pw
   split at h
   · rename_i z hz
     split at h
     · rename_i hc;cases h;obtain rfl:=qdd hr
       have h1:(fe z).cells=SV.instL e (fun x=>if x=id then 1 else ae e σ.H x) (rq z).cells:=by
        rw[← qfh (e:=e) (ln:=fun x=>if x=id then 1 else ae e σ.H x),qnp hc]
       have kv:(fe z).cells.all AV.one=true:=by
        rw[← qfh (e:=e) (ln:=ae e σ.H)];exact qgc hS.wf (agt _ z) (.refl _) hc
       have an:(rq z).cells.length=(fe z).cells.length:=by rw[h1,qgb]
       refine ama hS (cs:=(fe z).cells) ?_ ?_
       · simp only[ag,ht.zero,hz,kv,if_true,an]
       · rw[h1];exact .refl _
     · simp at h
   · simp at h
 · simp at h
end
theorem qnm(n:Nat){vs:List SV}(hv:SV.hasL (· == id) vs=false):SV.instL e (ae e σ.H) vs=SV.instL e (fun x=>if x=id then n else ae e σ.H x) vs:=
 SV.instL_ln (p:=(· == id)) (fun b hb=>by rw[if_neg (by simpa using hb)]) hv
section
variable (hS:Sat e σ s)(hG:GOK G SG)
include hS hG
theorem apj{t:TypeId}{x:Operand}{r:SR}(h:br T SG σ e.length id (.box t x)=some r)(hr:db r.em e=some e'):∃ res,au P G id (.box t x) e e' σ s r res:=by
 simp only[br] at h
 split at h
 · rename_i hc;simp only[and_eq_true,not_eq_true'] at hc;cases h;obtain rfl:=qdd hr;have hw:=hev hS hG x;have h1:=qbh hw hc.1;have h2:=qgc hS.wf (hok hS hG x) hw hc.1;have an:(evA G s.tm x).cells.length=(sev SG σ x).cells.length:=by rw[h1.1,qgb]
   refine ama hS (cs:=(evA G s.tm x).cells) ?_ ?_
   · simp only[ag,h2,if_true,an]
   · rw[← qnm 1 hc.2];exact h1
 · simp at h
theorem qey{x:Operand}{r:SR}(h:br T SG σ e.length id (.nilCheck x)=some r)(hr:db r.em e=some e'):∃ res,au P G id (.nilCheck x) e e' σ s r res:=by
 have hw:=hev hS hG x;simp only[br] at h
 split at h
 · rename_i b i j hx;rw[hx] at hw
   split at h
   · rename_i k hk;cases h;obtain rfl:=qdd hr;obtain ⟨blk,hb,ml⟩:=hS.blk hk;have hl:blk.rows.length=ae e σ.H b:=by rw[qr hk,← SB.rows_len e (ae e σ.H)];exact ml.2.2.2.2.1
     refine au.pure0 hS (av:=.ptr b (ae e σ.H b) i j) ?_ (.refl _);simp only[ag,qde hw,hb,hl,if_true]
   · simp at h
 · rename_i b y j hx;rw[hx] at hw
   split at h
   · rename_i k hk;cases h;obtain rfl:=qdd hr;obtain ⟨blk,hb,ml⟩:=hS.blk hk;have hl:blk.rows.length=ae e σ.H b:=by rw[qr hk,← SB.rows_len e (ae e σ.H)];exact ml.2.2.2.2.1
     refine au.pure0 hS (av:=.ptr b (ae e σ.H b) (y.val e).num.toNat j) ?_ (.refl _);simp only[ag,qde hw,hb,hl,if_true]
   · simp at h
 · rename_i cs hx;rw[hx] at hw;cases h;obtain rfl:=qdd hr
   refine au.pure0 hS (av:=.eptr (cs.map (·.val e))) ?_ (.refl _)
   simp only[ag,qgi hw];rfl
 · simp at h
theorem ap9{x:Operand}{i:Nat}{r:SR}(h:br T SG σ e.length id (.extract x i)=some r)(hr:db r.em e=some e'):∃ res,au P G id (.extract x i) e e' σ s r res:=by
 have hw:=hev hS hG x;simp only[br] at h
 split at h
 · rename_i cs hx;rw[hx] at hw
   split at h
   · rename_i c hc;cases h;obtain rfl:=qdd hr;obtain ⟨l,hl,r4⟩:=ahv hw;obtain ⟨a,h1,h2⟩:=r4.get (i:=i) (a0:=c.inst e (ae e σ.H)) (by rw[qcm,hc];rfl)
     refine au.pure0 hS (av:=a) ?_ h2;simp only[ag,hl,h1];rfl
   · simp at h
 · simp at h
theorem a1p{args:Array Operand}{il:Array TypeId}{r:SR}(h:br T SG σ e.length id (.call { callee:=.builtin .min,args,argTypes:=il })=some r)(hr:db r.em e=some e'):∃ res,au P G id (.call { callee:=.builtin .min,args,argTypes:=il }) e e' σ s r res:=by
 simp only[br] at h
 split at h
 · rename_i x y hxy;have hx:=hev hS hG x;have hy:=hev hS hG y
   split at h
   · rename_i p q hp hq;cases h;obtain ⟨o,ho,rfl⟩:=qrc hr;simp only[map_cons,map_nil] at ho;obtain ⟨k,n,k',n',h1,h2,rfl⟩:=azi ho;rw[hp] at hx;rw[hq] at hy;simp only[SV.inst,h1] at hx;simp only[SV.inst,h2] at hy;refine au.pure hS (av:=.d (.int k (if n' < n then n' else n))) ?_ (by simp only[SV.inst,qbb];exact .refl _)
     simp only[ag,hxy,qbe hx,qbe hy];rfl
   · simp at h
 · simp at h
theorem a01{args:Array Operand}{il:Array TypeId}{r:SR}(h:br T SG σ e.length id (.call { callee:=.builtin .max,args,argTypes:=il })=some r)(hr:db r.em e=some e'):∃ res,au P G id (.call { callee:=.builtin .max,args,argTypes:=il }) e e' σ s r res:=by
 simp only[br] at h
 split at h
 · rename_i x y hxy;have hx:=hev hS hG x;have hy:=hev hS hG y
   split at h
   · rename_i p q hp hq;cases h;obtain ⟨o,ho,rfl⟩:=qrc hr;simp only[map_cons,map_nil] at ho;obtain ⟨k,n,k',n',h1,h2,rfl⟩:=ay4 ho;rw[hp] at hx;rw[hq] at hy;simp only[SV.inst,h1] at hx;simp only[SV.inst,h2] at hy;refine au.pure hS (av:=.d (.int k (if n'>n then n' else n))) ?_ (by simp only[SV.inst,qbb];exact .refl _)
     simp only[ag,hxy,qbe hx,qbe hy];rfl
   · simp at h
 · simp at h
end
section
variable (hS:Sat e σ s)(hG:GOK G SG)(hT:TOK P T)
include hS hG hT
theorem ary{args:Array Operand}{il:Array TypeId}{r:SR}(h:br T SG σ e.length id (.call { callee:=.builtin .len,args,argTypes:=il })=some r)(hr:db r.em e=some e'):∃ res,au P G id (.call { callee:=.builtin .len,args,argTypes:=il }) e e' σ s r res:=by
 simp only[br] at h
 split at h
 · rename_i x t hx ht0;have hw:=hev hS hG x
   split at h
   · rename_i tf pw;have ht:=hT _ _ pw
     split at h
     · rename_i q hq;rw[hq] at hw
       split at h
       · rename_i hs;cases h;obtain ⟨o,ho,rfl⟩:=qrc hr;simp only[map_cons,map_nil] at ho;obtain ⟨l,h1,rfl⟩:=qva ho;simp only[SV.inst,h1] at hw;refine au.pure hS (av:=.d (.int .i64 l.length)) ?_ (by simp only[SV.inst,qbb];exact .refl _)
         simp only[ag,hx,ht0,qpm hw,ht.str,hs,if_true];rfl
       · split at h
         · rename_i he;cases h;obtain ⟨o,ho,rfl⟩:=qrc hr;simp only[map_cons,map_nil] at ho;obtain ⟨l,h1,rfl⟩:=qlr ho;simp only[SV.inst,h1] at hw;refine au.pure hS (av:=.d (.int .i64 l.length)) ?_ (by simp only[SV.inst,qbb];exact .refl _)
           simp only[ag,hx,ht0,abh hw,ht.elem,he,if_true];rfl
         · simp at h
     · rename_i hq;rw[hq] at hw
       split at h
       · rename_i he;cases h;obtain rfl:=qdd hr;refine au.pure0 hS (av:=.d (.int .i64 0)) ?_ (.refl _);simp only[ag,hx,ht0,qjk hw,ht.elem,he,if_true];rfl
       · simp at h
     · rename_i b hq;rw[hq] at hw
       split at h
       · rename_i k hk;obtain ⟨blk,hb,ml⟩:=hS.blk hk;have hl:blk.rows.length=ae e σ.H b:=by rw[qr hk,← SB.rows_len e (ae e σ.H)];exact ml.2.2.2.2.1
         split at h
         · rename_i he
           have ip:ag P id (evA G s.tm) s.H (.call { callee:=.builtin .len,args,argTypes:=il })=some { v:=.d (.int .i64 (ae e σ.H b:Nat)),hs:=[],rb:=[b] }:=by
            simp only[ag,hx,ht0,qri hw,hb,hl,ht.elem,he,and_self,if_true]
           split at h
           · rename_i fo;cases h;obtain ⟨o,ho,rfl⟩:=qrc hr;simp only[map_cons,map_nil] at ho;obtain ⟨l,h1,rfl⟩:=qlr ho;refine au.pure hS ip ?_;simp only[SV.inst,qbb];rw[qr hk,qpc fo h1];exact .refl _
           · split at h
             · rename_i hn;cases h;obtain rfl:=qdd hr;refine au.pure0 hS ip ?_;rw[qr hk,qve hn];exact .refl _
             · simp at h
         · simp at h
       · simp at h
     · simp at h
   · simp at h
 · simp at h
theorem qks{t:TypeId}{x:Operand}{f:Nat}{r:SR}(h:br T SG σ e.length id (.fieldAddr t x f)=some r)(hr:db r.em e=some e'):∃ res,au P G id (.fieldAddr t x f) e e' σ s r res:=by
 have hw:=hev hS hG x;simp only[br] at h
 split at h
 · rename_i tf pw;have ht:=hT _ _ pw
   split at h
   · rename_i o ft hf
     split at h
     · rename_i t2 ht2;have vg:=hT _ _ ht2
       split at h
       · rename_i hc;simp only[and_eq_true,not_eq_true',beq_eq_false_iff_ne] at hc;have hfd:=ht.flds _ _ hf;have hc2:tsz P ft≠0:=by rw[vg.sz];exact hc.2
         have ff:tin P ft=true∧tsz P ft≠0:=⟨by rw[vg.ti];exact hc.1,hc2⟩
         split at h
         · rename_i b i j hx;rw[hx] at hw
           split at h
           · rename_i k hk;cases h;obtain rfl:=qdd hr;obtain ⟨blk,hb,ml⟩:=hS.blk hk;have hl:blk.rows.length=ae e σ.H b:=by rw[qr hk,← SB.rows_len e (ae e σ.H)];exact ml.2.2.2.2.1
             refine au.pure0 hS (av:=.ptr b (ae e σ.H b) i (j+o)) ?_ (.refl _);simp only[ag,hfd];rw[if_pos ff];simp only[qde hw,hb,hl,if_true]
           · simp at h
         · rename_i b y j hx;rw[hx] at hw
           split at h
           · rename_i k hk;cases h;obtain rfl:=qdd hr;obtain ⟨blk,hb,ml⟩:=hS.blk hk;have hl:blk.rows.length=ae e σ.H b:=by rw[qr hk,← SB.rows_len e (ae e σ.H)];exact ml.2.2.2.2.1
             refine au.pure0 hS (av:=.ptr b (ae e σ.H b) (y.val e).num.toNat (j+o)) ?_ (.refl _);simp only[ag,hfd];rw[if_pos ff];simp only[qde hw,hb,hl,if_true]
           · simp at h
         · rename_i cs hx;rw[hx] at hw;cases h;obtain rfl:=qdd hr
           refine au.pure0 hS (av:=.eptr ((cs.map (·.val e)).drop o)) ?_ ?_
           · simp only[ag,hfd];rw[if_pos ff];simp only[qgi hw];rfl
           · simp only[SV.inst,map_drop];exact .refl _
         · simp at h
       · simp at h
     · simp at h
   · simp at h
 · simp at h
theorem aqy{t:TypeId}{x:Operand}{f:Nat}{r:SR}(h:br T SG σ e.length id (.field t x f)=some r)(hr:db r.em e=some e'):∃ res,au P G id (.field t x f) e e' σ s r res:=by
 have hw:=hev hS hG x;simp only[br] at h
 split at h
 · rename_i tf pw;have ht:=hT _ _ pw
   split at h
   · rename_i o ft hf
     split at h
     · rename_i t2 ht2;have vg:=hT _ _ ht2
       split at h
       · rename_i hc;simp only[and_eq_true] at hc;have hfd:=ht.flds _ _ hf
         split at h
         · rename_i cs hx;rw[hx] at hw;obtain ⟨l,hl,r4⟩:=qqa hw
           split at h
           · rename_i du
             split at h
             · rename_i j7;cases h;obtain rfl:=qdd hr;have h3:o+t2.sz≤l.length:=by rw[r4.1,qgb];exact Nat.le_of_ble_eq_true j7
               refine au.pure0 hS (av:=.agg ((l.drop o).take t2.sz)) ?_ ?_
               · simp only[ag,hfd,vg.ti,vg.tu,hc.1,hc.2,and_self,if_true,hl,vg.agg,du,vg.sz,h3];rfl
               · have:=(r4.drop o).take t2.sz;rw[aia] at this;exact .agg _ _ this.1 this.2
             · simp at h
           · rename_i du
             split at h
             · rename_i c ly;cases h;obtain rfl:=qdd hr;obtain ⟨a,h1,h2⟩:=r4.get (i:=o) (a0:=c.inst e (ae e σ.H)) (by rw[qcm,ly];rfl)
               refine au.pure0 hS (av:=a) ?_ h2;simp only[ag,hfd,vg.ti,vg.tu,hc.1,hc.2,and_self,if_true,hl,vg.agg,show t2.agg=false by simpa using du,Bool.false_eq_true,if_false,h1];rfl
             · simp at h
         · simp at h
       · simp at h
     · simp at h
   · simp at h
 · simp at h
end
end
end Am

namespace Am
open Go
variable {P:Program}{G:bl}
section
variable {T:Tab}{SG:ef}{σ:SS}{e e':Env}{s:Sta}{id:Nat}
theorem aua(hS:Sat e σ s){pl:List (Nat × Nat)}:∀ {parts:List (Nat × SV)} {ps:List (Nat × AV)} {cs0 cs:List SV} {l:List AV},parts.length=ps.length→
 (∀ (i:Nat) (p:Nat × SV) (q:Nat × AV),parts[i]? = some p→ps[i]? = some q→p.1=q.1∧Wk q.2 (p.2.inst e (ae e σ.H))∧p.2.ok e.length=true)→
 WkL l (SV.instL e (ae e σ.H) cs0)→y9 pl cs0 parts=some cs→∃ l',sy (fun i=>pl[i]?) l ps=some l'∧WkL l' (SV.instL e (ae e σ.H) cs):=by
 intro parts
 induction parts with
 | nil=>
  intro ps cs0 cs l hl hp hw h;simp only[y9] at h;cases h;have:ps=[]:=List.eq_nil_of_length_eq_zero (by simpa using hl.symm)
  subst this;exact ⟨l,rfl,hw⟩
 | cons p parts ih=>
  intro ps cs0 cs l hl hp hw h;cases ps with
  | nil=>simp at hl
  | cons q ps=>
   obtain ⟨i,v⟩:=p;obtain ⟨i',a⟩:=q;obtain ⟨h1,h2,h3⟩:=hp 0 _ _ rfl rfl;simp only at h1 h2 h3;subst h1;simp only[y9] at h
   split at h
   · rename_i off size wj
     split at h
     · rename_i hc;simp only[and_eq_true,beq_iff_eq] at hc;have zm:=qbh h2 hc.2;have hc2:=qgc hS.wf h3 h2 hc.2;have e1:a.cells.length=size:=by rw[zm.1,qgb];exact hc.1.1
       have e2:off+size≤l.length:=by rw[hw.1,qgb];exact Nat.le_of_ble_eq_true hc.1.2
       obtain ⟨l',g1,g2⟩:=ih (ps:=ps) (cs0:=nk cs0 off v.cells) (cs:=cs) (l:=setAt l off a.cells) (by simpa using hl)
        (fun j p q xy hq'=>hp (j+1) p q (by simpa using xy) (by simpa using hq')) (by rw[qmm];exact hw.setAt zm off) h
       refine ⟨l',?_,g2⟩;simp only[sy,wj,e1,e2,hc2,and_self,if_true];exact g1
     · simp at h
   · simp at h
theorem qta:∀ {xs:List (List D)} {l:List UInt8},l7 xs=some l→gv (xs.map (·.map .d))=some l:=by
 intro xs
 induction xs with
 | nil=>intro l h;simp[l7] at h;subst h;rfl
 | cons r xs ih=>
  intro l h;unfold l7 at h
  split at h
  · rename_i hr;simp at hr
  · rename_i c rest hr;simp only[List.cons.injEq] at hr;obtain ⟨rfl,rfl⟩:=hr
    split at h
    · rename_i hc
      split at h
      · rename_i l' sa;simp only[Option.some.injEq] at h;subst h;simp only[map_cons,map_nil,gv,hc,and_self,if_true,ih sa]
      · simp at h
    · simp at h
  · simp at h
theorem ald{a:D}{o:List D}(h:PO.eval .toS [a]=some o):∃ xs l,a = .sl xs∧l7 xs=some l∧o=[.str l]:=by
 cases a<;>simp only[PO.eval,reduceCtorEq] at h
 simp only[Option.map_eq_some_iff] at h;obtain ⟨l,hl,rfl⟩:=h;exact ⟨_,l,rfl,hl,rfl⟩
theorem apd{a:D}{o:List D}(h:PO.eval .toB [a]=some o):∃ l,a = .str l∧o=[.sl (l.map fun c=>[.int .u8 c.toNat])]:=by
 cases a<;>simp only[PO.eval,reduceCtorEq] at h
 exact ⟨_,rfl,(Option.some.inj h).symm⟩
theorem qdk(hT:TOK P T){t:Nat}{tf:TF}(ht:agj P t tf)(h:ru T tf=true):(cb P t).bind (ia P)=some .u8:=by
 unfold ru at h
 split at h
 · rename_i e0 he
   split at h
   · rename_i te wa;simp only[and_eq_true,decide_eq_true_eq] at h;rw[ht.elem,he];simp only[bind_some,(hT _ _ wa).int,h.1]
   · simp at h
 · simp at h
theorem qyi(hS:Sat e σ s){b:Nat}{k:SB}(hk:am σ.H b=some k):∃ x,s.H b=some x∧WkB x (k.inst e (ae e σ.H))∧x.rows.length=ae e σ.H b∧gu s.H (.own b (ae e σ.H b) 0 (ae e σ.H b))=some (x.rows,[b]):=by
 obtain ⟨x,hb,ml⟩:=hS.blk hk;have hl:x.rows.length=ae e σ.H b:=by rw[qr hk,← SB.rows_len e (ae e σ.H)];exact ml.2.2.2.2.1
 refine ⟨x,hb,ml,hl,?_⟩;simp only[gu,hb,hl,Nat.zero_add,Nat.le_refl,and_self,if_true,List.drop_zero];rw[← hl,List.take_length]
theorem ard:∀ {xs:List (List D)} {X:List (List AV)} {l:List UInt8},l7 xs=some l→WkR X (xs.map (·.map .d))→X=xs.map (·.map .d):=by
 intro xs
 induction xs with
 | nil=>intro X l _ h;exact List.eq_nil_of_length_eq_zero (by simpa using h.1)
 | cons r xs ih=>
  intro X l hb h;cases X with
  | nil=>have:=h.1;simp at this
  | cons y X=>
   unfold l7 at hb
   split at hb
   · rename_i hr;simp at hr
   · rename_i c rest hr;simp only[List.cons.injEq] at hr;obtain ⟨rfl,rfl⟩:=hr
     split at hb
     · split at hb
       · rename_i l' sa;have h0:WkL y [.d (.int .u8 c)]:=h.2 0 (by simp) (by simp)
         obtain ⟨a,y',rfl,h1,h2⟩:=h0.inv_cons;rw[h2.inv_nil,qbe h1]
         have ht:WkR X (xs.map (·.map .d)):=⟨by have:=h.1;simpa using this,fun i hi bn=>h.2 (i+1) (by simpa using hi) (by simpa using bn)⟩
         rw[ih sa ht];rfl
       · simp at hb
     · simp at hb
   · simp at hb
section
variable (hS:Sat e σ s)(hG:GOK G SG)(hT:TOK P T)
include hS hG hT
theorem aqr{t:TypeId}{parts:Array (Nat × Operand)}{r:SR}(h:br T SG σ e.length id (.build t parts)=some r)(hr:db r.em e=some e'):∃ res,au P G id (.build t parts) e e' σ s r res:=by
 simp only[br] at h
 split at h
 · rename_i tf pw;have ht:=hT _ _ pw
   split at h
   · rename_i z pl hz wj
     split at h
     · rename_i cs0 vo
       split at h
       · rename_i cs kr;cases h;obtain rfl:=qdd hr;have hv:fe z = .agg (SV.instL e (ae e σ.H) cs0):=by rw[← qfh (e:=e) (ln:=ae e σ.H),vo];rfl
         obtain ⟨l',h1,h2⟩:=aua hS (pl:=pl) (ps:=parts.toList.map fun p=>(p.1,evA G s.tm p.2)) (l:=SV.instL e (ae e σ.H) cs0) (by simp) (fun i p q hp hq=>by
          simp only[getElem?_map,Option.map_eq_some_iff] at hp hq;obtain ⟨x,hx,rfl⟩:=hp;obtain ⟨y,hy,rfl⟩:=hq;rw[hx] at hy;cases hy;exact ⟨rfl,hev hS hG x.2,hok hS hG x.2⟩) (.refl _) kr
         refine au.pure0 hS (av:=.agg l') ?_ (.agg _ _ h2.1 h2.2);simp only[ag,ht.zero,hz,ht.place pl wj,hv,h1];rfl
       · simp at h
     · simp at h
   · simp at h
 · simp at h
theorem aqm{t t':TypeId}{x:Operand}{r:SR}(h:br T SG σ e.length id (.convert t t' x)=some r)(hr:db r.em e=some e'):∃ res,au P G id (.convert t t' x) e e' σ s r res:=by
 have hw:=hev hS hG x;simp only[br] at h
 split at h
 · rename_i ts tt hts htt;have h1:=hT _ _ hts;have h2:=hT _ _ htt
   split at h
   · rename_i htu
     split at h
     · rename_i p hp;rw[hp] at hw
       split at h
       · rename_i k hk;cases h;obtain ⟨o,ho,rfl⟩:=qrc hr;simp only[map_cons,map_nil] at ho;obtain ⟨k',n,h3,rfl⟩:=az4 ho;simp only[SV.inst,h3] at hw;refine au.pure hS (av:=.d (.int k (k.wrap n))) ?_ (by simp only[SV.inst,qbb];exact .refl _)
         simp only[ag,qbe hw,h2.int,hk,h1.tu,htu,if_true];rfl
       · rename_i hk
         split at h
         · rename_i hs
           split at h
           · cases h;obtain ⟨o,ho,rfl⟩:=qrc hr;simp only[map_cons,map_nil] at ho;obtain ⟨l,h3,rfl⟩:=aw0 ho;simp only[SV.inst,h3] at hw;refine au.pure hS (av:=.d (.str l)) ?_ (by simp only[SV.inst,qbb];exact .refl _)
             simp only[ag,qpm hw,h2.int,hk,h2.str,hs,h1.tu,htu,if_true];rfl
           · split at h
             · rename_i hby;cases h;obtain ⟨o,ho,rfl⟩:=qrc hr;simp only[map_cons,map_nil] at ho;obtain ⟨xs,l,h3,h4,rfl⟩:=ald ho;simp only[SV.inst,h3] at hw;refine au.pure hS (av:=.d (.str l)) ?_ (by simp only[SV.inst,qbb];exact .refl _)
               simp only[ag,abh hw,h2.int,hk,h2.str,hs,qdk hT h1 hby,if_true,gu,qta h4]
             · simp at h
         · rename_i hns
           split at h
           · rename_i hcb;simp only[and_eq_true] at hcb
             split at h
             · rename_i e0 ve;cases h;obtain ⟨o,ho,rfl⟩:=qrc hr;simp only[map_cons,map_nil] at ho;obtain ⟨l,h3,rfl⟩:=apd ho;simp only[SV.inst,h3] at hw;have hby:=qdk hT h2 hcb.2;rw[h2.elem,ve,bind_some] at hby;have hdv:(SA.v e.length).val (e++[D.sl (l.map fun c=>[.int .u8 c.toNat])]) = .sl (l.map fun c=>[.int .u8 c.toNat]):=qbb e _ []
               refine au.one hS (av:=.own id l.length 0 l.length) (blk:={ fz:=false,ap:=false,ty:=e0,sz:=1,rows:=l.map fun c=>[.d (.int .u8 c.toNat)] }) ?_
                (ln:=fun x=>if x=id then l.length else ae e σ.H x) ?_ ?_ ⟨rfl,rfl,rfl,rfl,?_⟩ (by simp[inL]) ⟨_,hdv⟩
               · simp only[ag,qpm hw,h2.int,hk,h2.str,hns,h1.tu,htu,h1.str,hcb.1,h2.elem,ve,hby,and_self,if_true]
               · funext x
                 rw[qpc (k:={ fz:=false,ap:=false,ty:=e0,sz:=1,d:=.v e.length,tl:=[] }) rfl hdv,length_map]
               · simp only[SV.inst,if_true];exact .refl _
               · show WkR _ (SB.rows _ _ _)
                 rw[qyb (k:={ fz:=false,ap:=false,ty:=e0,sz:=1,d:=.v e.length,tl:=[] }) rfl hdv];simp only[map_map];exact .refl _
             · simp at h
           · simp at h
     · rename_i b hp;rw[hp] at hw
       split at h
       · rename_i k hk
         split at h
         · rename_i hc;simp only[and_eq_true,Option.isNone_iff_eq_none] at hc;cases h;obtain ⟨o,ho,rfl⟩:=qrc hr;simp only[map_cons,map_nil] at ho;obtain ⟨xs,l,h3,h4,rfl⟩:=ald ho;obtain ⟨blk,zb,ml,hl,mn⟩:=qyi hS hk
           have cx:(k.inst e (ae e σ.H)).rows=xs.map (·.map .d):=qyb hc.2 h3
           have hR:=ml.2.2.2.2;rw[cx] at hR;rw[ard h4 hR] at mn;refine au.pure hS (av:=.d (.str l)) ?_ (by simp only[SV.inst,qbb];exact .refl _)
           simp only[ag,qri hw,h2.int,hc.1.1.1,h2.str,hc.1.1.2,qdk hT h1 hc.1.2,if_true,mn,qta h4]
         · simp at h
       · simp at h
     · simp at h
   · simp at h
 · simp at h
theorem aeb{lo:Option Operand}{l:SA}{k:IntKind}{n:Int}(h:sLo (sev SG σ) lo=some l)(hv:l.val e = .int k n):∃ k',(lo.map (evA G s.tm)).getD (.d (.int .i64 0)) = .d (.int k' n):=by
 cases lo with
 | none=>simp only[sLo] at h;cases h;simp only[SA.val] at hv;cases hv;exact ⟨.i64,rfl⟩
 | some x=>
  simp only[sLo] at h;have hw:=hev hS hG x;unfold SV.atom at h
  split at h
  · rename_i q hq;cases h;rw[hq] at hw;simp only[SV.inst,hv] at hw;exact ⟨k,by simp only[map_some,getD_some];exact qbe hw⟩
  · simp at h
theorem aov{x:Operand}{h0:SA}{k:IntKind}{n:Int}(h:(sev SG σ x).atom=some h0)(hv:h0.val e = .int k n):evA G s.tm x = .d (.int k n):=by
 have hw:=hev hS hG x;unfold SV.atom at h
 split at h
 · rename_i q hq;cases h;rw[hq] at hw;simp only[SV.inst,hv] at hw;exact qbe hw
 · simp at h
theorem atl{t:TypeId}{x:Operand}{lo hi mx:Option Operand}{r:SR}(h:br T SG σ e.length id (.slice t x lo hi mx)=some r)(hok:r8 e.length r.em=true)(hr:db r.em e=some e'):∃ res,au P G id (.slice t x lo hi mx) e e' σ s r res:=by
 cases mx with
 | some _=>simp[br] at h
 | none=>
 have hw:=hev hS hG x;simp only[br] at h
 split at h
 · rename_i tf q pw hq;rw[hq] at hw;have ht:=hT _ _ pw
   split at h
   · rename_i l hl
     split at h
     · rename_i hs
       split at h
       · cases h;obtain ⟨o,o',ho,u5,rfl⟩:=adx hr;simp only[map_cons,map_nil] at ho u5;obtain ⟨str,h1,rfl⟩:=qva ho;simp only[r8,PO.okP,List.all_cons,List.all_nil,Bool.and_true,Bool.true_and,and_eq_true] at hok;rw[SA.val_ext _ hok.1,qbb] at u5;obtain ⟨str',k,n,k',n',h2,h3,h4,h5,rfl⟩:=qwz u5;rw[h1] at h2;cases h2;cases h4;simp only[SV.inst,h1] at hw
         have ud:l.val e = .int k n:=by
          cases lo with
          | none=>simp only[sLo] at hl;cases hl;exact h3
          | some y=>
           have hly:l.ok e.length=true:=by
            have hyk:=hok.2.2.1;cases l with
            | v z=>
             simp only[sLo] at hl;have:=Am.hok hS hG y;unfold SV.atom at hl
             split at hl
             · rename_i q' hq';cases hl;rw[hq'] at this;exact this
             · simp at hl
            | c d=>exact hyk
           rw[← SA.val_ext _ hly];exact h3
         obtain ⟨k0,o5⟩:=aeb hS hG hT hl ud;refine au.pure hS (av:=.d (.str ((str.take (str.length:Int).toNat).drop n.toNat))) ?_ ?_
         · simp only[ag,qpm hw,ht.str,hs,if_true,o5,map_none,getD_none];rw[if_pos h5];rfl
         · simp only[SV.inst];have:(SA.v (e.length+1)).val (e++([D.int .i64 str.length]++[D.str ((str.take (str.length:Int).toNat).drop n.toNat)]))=D.str ((str.take (str.length:Int).toNat).drop n.toNat):=by simp[SA.val]
           rw[this];exact .refl _
       · rename_i hh
         split at h
         · rename_i h0 hh0;cases h;obtain ⟨o,ho,rfl⟩:=qrc hr;simp only[map_cons,map_nil] at ho;obtain ⟨str,k,n,k',n',h1,h2,h3,h4,rfl⟩:=qwz ho;simp only[SV.inst,h1] at hw;obtain ⟨k0,o5⟩:=aeb hS hG hT hl h2;have hhi:=aov hS hG hT hh0 h3;refine au.pure hS (av:=.d (.str ((str.take n'.toNat).drop n.toNat))) ?_ (by simp only[SV.inst,qbb];exact .refl _)
           simp only[ag,qpm hw,ht.str,hs,if_true,o5,map_some,getD_some,hhi];rw[if_pos h4];rfl
         · simp at h
     · split at h
       · rename_i e0 ve
         split at h
         · rename_i te wa;have dr:=hT _ _ wa
           split at h
           · rename_i hc;simp only[and_eq_true,qrh] at hc;have ff:tin P e0=true∧0<tsz P e0:=⟨by rw[dr.ti];exact hc.1,by rw[dr.sz];exact hc.2⟩
             split at h
             · cases h;obtain ⟨o,o',ho,u5,rfl⟩:=adx hr;simp only[map_cons,map_nil] at ho u5;obtain ⟨xs,h1,rfl⟩:=qlr ho;simp only[r8,PO.okP,List.all_cons,List.all_nil,Bool.and_true,Bool.true_and,and_eq_true] at hok;rw[SA.val_ext _ hok.1,qbb] at u5;obtain ⟨xs',k,n,k',n',h2,h3,h4,h5,rfl⟩:=qiz u5;rw[h1] at h2;cases h2;cases h4;simp only[SV.inst,h1] at hw
               have ud:l.val e = .int k n:=by
                cases lo with
                | none=>simp only[sLo] at hl;cases hl;exact h3
                | some y=>
                 have hly:l.ok e.length=true:=by
                  have hyk:=hok.2.2.1;cases l with
                  | v z=>
                   simp only[sLo] at hl;have:=Am.hok hS hG y;unfold SV.atom at hl
                   split at hl
                   · rename_i q' hq';cases hl;rw[hq'] at this;exact this
                   · simp at hl
                  | c d=>exact hyk
                 rw[← SA.val_ext _ hly];exact h3
               obtain ⟨k0,o5⟩:=aeb hS hG hT hl ud;refine au.pure hS (av:=.d (.sl ((xs.take (xs.length:Int).toNat).drop n.toNat))) ?_ ?_
               · simp only[ag,abh hw,ht.elem,ve];rw[if_pos ff];simp only[o5,map_none,getD_none,dr.sz];rw[if_pos h5];rfl
               · simp only[SV.inst];have:(SA.v (e.length+1)).val (e++([D.int .i64 xs.length]++[D.sl ((xs.take (xs.length:Int).toNat).drop n.toNat)]))=D.sl ((xs.take (xs.length:Int).toNat).drop n.toNat):=by simp[SA.val]
                 rw[this];exact .refl _
             · split at h
               · rename_i h0 hh0;cases h;obtain ⟨o,ho,rfl⟩:=qrc hr;simp only[map_cons,map_nil] at ho;obtain ⟨xs,k,n,k',n',h1,h2,h3,h4,rfl⟩:=qiz ho;simp only[SV.inst,h1] at hw;obtain ⟨k0,o5⟩:=aeb hS hG hT hl h2;have hhi:=aov hS hG hT hh0 h3;refine au.pure hS (av:=.d (.sl ((xs.take n'.toNat).drop n.toNat))) ?_ (by simp only[SV.inst,qbb];exact .refl _)
                 simp only[ag,abh hw,ht.elem,ve];rw[if_pos ff];simp only[o5,map_some,getD_some,hhi,dr.sz];rw[if_pos h4];rfl
               · simp at h
           · simp at h
         · simp at h
       · simp at h
   · simp at h
 · simp at h
end
end
end Am

namespace Am
open Go
variable {P:Program}{G:bl}
section
variable {T:Tab}{SG:ef}{σ:SS}{e e':Env}{s:Sta}{id:Nat}
theorem D.beq_eq{a b:D}(h:a.beq b=true):a=b:=by
 unfold D.beq at h
 split at h<;>simp_all
theorem SA.beq_eq{a b:SA}(h:a.beq b=true):a=b:=by
 cases a with
 | v x=>cases b with
  | v y=>simp only[SA.beq,beq_iff_eq] at h;rw[h]
  | c d=>simp[SA.beq] at h
 | c d=>cases b with
  | v y=>simp[SA.beq] at h
  | c d'=>simp only[SA.beq] at h;rw[D.beq_eq h]
theorem qxj(sz:Nat):∀ (n:Nat) (l:List D),(dp sz n l).length=n:=by
 intro n
 induction n with
 | zero=>intro l;rfl
 | succ n ih=>intro l;simp[dp,ih]
theorem qjw{sz:Nat}:∀ {rows:List (List AV)} {l:List D},(∀ r∈rows,r.length=sz)→rows.flatten=l.map .d→(dp sz rows.length l).map (·.map AV.d)=rows:=by
 intro rows
 induction rows with
 | nil=>intro l _ _;rfl
 | cons r rows ih=>
  intro l hs hl;have hr:=hs r (by simp)
  simp only[List.flatten_cons] at hl
  have h1:(l.take sz).map AV.d=r:=by
   rw[map_take,← hl,← hr,List.take_left' rfl]
  have h2:rows.flatten=(l.drop sz).map AV.d:=by
   rw[map_drop,← hl,← hr,List.drop_left' rfl]
  simp only[List.length_cons,dp,map_cons,h1];rw[ih (fun r hr=>hs r (by simp[hr])) h2]
theorem qos{ln:Nat→Nat}(rows:List (List SV)):(rows.map (SV.instL e ln)).flatten=SV.instL e ln rows.flatten:=by
 induction rows with
 | nil=>rfl
 | cons r rows ih=>simp only[map_cons,List.flatten_cons,ih,SV.instL_map,List.map_append]
theorem ah9{ln:Nat→Nat}{rows:List (List SV)}{X:List (List AV)}{as:List SA}{sz:Nat}(h:WkR X (rows.map (SV.instL e ln)))(ha:mm rows.flatten=some as)(hs:∀ r∈rows,r.length=sz) :
 WkR X ((dp sz rows.length (as.map (·.val e))).map (·.map .d)):=by
 have h1:(rows.map (SV.instL e ln)).flatten=(as.map (·.val e)).map .d:=by rw[qos,qxi ha,qod]
 have h2:=qjw (sz:=sz) (rows:=rows.map (SV.instL e ln)) (by
  intro r hr;obtain ⟨r',ei,rfl⟩:=List.mem_map.1 hr;rw[qgb];exact hs r' ei) h1
 rw[length_map] at h2;rw[h2];exact h
section
variable (hS:Sat e σ s)(hG:GOK G SG)(hT:TOK P T)
include hS
theorem qyz{op:Op}{e0:Nat}{te:TF}{rows:List (List SV)}{X:List (List AV)}{rb:List Nat}
 (hX:WkR X (rows.map (SV.instL e (ae e σ.H)))) (de:∀ r∈rows,r.length=te.sz) (iz:∀ r∈rows,SV.hasL (· == id) r=false)
 (ip:ag P id (evA G s.tm) s.H op=some { v:=.own id X.length 0 X.length,hs:=[(id,{ fz:=false,ap:=true,ty:=e0,sz:=te.sz,rows:=X })],rb })
 (hr:db (sj e.length id e0 te rows).em e=some e'):∃ res,au P G id op e e' σ s { sj e.length id e0 te rows with rb } res:=by
 unfold sj at hr ⊢
 split at hr
 · obtain rfl:=qdd hr;have hX0:X=[]:=List.eq_nil_of_length_eq_zero (by simpa using hX.1)
   subst hX0;refine au.one0 hS ip (ln:=fun x=>if x=id then 0 else ae e σ.H x) ?_ ?_ ⟨rfl,rfl,rfl,rfl,?_⟩ (by simp[inL]) ⟨[],rfl⟩
   · funext x;simp[SB.len,gm,SA.val,D.rows]
   · simp only[SV.inst,if_true];exact .refl _
   · simp only[SB.inst,SB.rows,gm,SA.val,D.rows];exact .refl _
 · split at hr
   · rename_i as has;obtain ⟨o,ho,rfl⟩:=qrc hr;obtain ⟨h1,rfl⟩:=adv ho;have hm:=ah9 hX has de;have an:X.length=rows.length:=by have:=hX.1;simpa using this
     have hd:(SA.v e.length).val (e++[D.sl (dp te.sz rows.length (as.map (·.val e)))]) = .sl (dp te.sz rows.length (as.map (·.val e))):=qbb e _ []
     refine au.one hS ip (ln:=fun x=>if x=id then X.length else ae e σ.H x) ?_ ?_ ⟨rfl,rfl,rfl,rfl,?_⟩ (by simp[inL]) ⟨_,hd⟩
     · funext x
       rw[qpc (k:={ fz:=false,ap:=true,ty:=e0,sz:=te.sz,d:=.v e.length,tl:=[] }) rfl hd,qxj,an]
     · simp only[SV.inst,if_true];exact .refl _
     · show WkR X (SB.rows _ _ _)
       rw[qyb (k:={ fz:=false,ap:=true,ty:=e0,sz:=te.sz,d:=.v e.length,tl:=[] }) rfl hd];exact hm
   · obtain rfl:=qdd hr;have an:X.length=rows.length:=by have:=hX.1;simpa using this
     refine au.one0 hS ip (ln:=fun x=>if x=id then X.length else ae e σ.H x) ?_ ?_ ⟨rfl,rfl,rfl,rfl,?_⟩ (by simp[inL]) ⟨[],rfl⟩
     · funext x;simp[SB.len,gm,SA.val,D.rows,an]
     · simp only[SV.inst,if_true];exact .refl _
     · show WkR X (SB.rows _ _ _)
       rw[qfe (k:={ fz:=false,ap:=true,ty:=e0,sz:=te.sz,d:=gm,tl:=rows }) rfl]
       have:rows.map (SV.instL e (ae e σ.H))=rows.map (SV.instL e fun x=>if x=id then X.length else ae e σ.H x):=
        List.map_congr_left fun r hr=>qnm _ (iz r hr)
       rw[← this];exact hX
include hG hT
theorem qou{t:TypeId}{x ix:Operand}{r:SR}(h:br T SG σ e.length id (.indexAddr t x ix)=some r)(hr:db r.em e=some e'):∃ res,au P G id (.indexAddr t x ix) e e' σ s r res:=by
 have hw:=hev hS hG x;have hi:=hev hS hG ix;simp only[br] at h
 split at h
 · rename_i tf p pw hp;rw[hp] at hi;have ht:=hT _ _ pw
   split at h
   · rename_i e0 ve;have uw:cb P t=some e0:=ht.elem.trans ve
     split at h
     · rename_i te wa;have dr:=hT _ _ wa
       split at h
       · rename_i hti;have xg:tin P e0=true:=dr.ti.trans hti
         split at h
         · rename_i b hx;rw[hx] at hw
           split at h
           · rename_i k hk;obtain ⟨blk,hb,ml,hl,_⟩:=qyi hS hk
             split at h
             · rename_i de;have aob:blk.sz=tsz P e0:=by rw[dr.sz];exact ml.2.2.2.1.trans (show k.sz=te.sz by simpa using de)
               split at h
               · rename_i hn;simp only[and_eq_true,not_eq_true'] at hn
                 split at h
                 · rename_i kd n
                   split at h
                   · rename_i pm;simp only[and_eq_true,decide_eq_true_eq] at pm;cases h;obtain rfl:=qdd hr;simp only[SV.inst,SA.val] at hi;have cf:n<(ae e σ.H b:Nat):=by rw[qr hk,qve hn.1];exact pm.2
                     refine au.pure0 hS (av:=.ptr b (ae e σ.H b) n.toNat 0) ?_ (.refl _);simp only[ag,qbe hi,uw,xg,if_true,qri hw,hb,hl,aob,pm.1,cf,and_self,Nat.zero_add]
                   · simp at h
                 · simp at h
               · split at h
                 · rename_i fo;cases h;obtain ⟨o,ho,rfl⟩:=qrc hr;simp only[map_cons,map_nil] at ho;obtain ⟨xs,kd,n,h1,h2,h3,rfl⟩:=auc ho;simp only[SV.inst,h2] at hi;have cf:n<(ae e σ.H b:Nat):=by rw[qr hk,qpc fo h1];exact h3.2
                   refine au.pure hS (av:=.ptr b (ae e σ.H b) n.toNat 0) ?_ ?_
                   · simp only[ag,qbe hi,uw,xg,if_true,qri hw,hb,hl,aob,h3.1,cf,and_self,Nat.zero_add]
                   · simp only[SV.inst,List.append_nil,h2,D.num];exact .refl _
                 · simp at h
             · simp at h
           · simp at h
         · rename_i q hx;rw[hx] at hw;cases h;obtain ⟨o,ho,rfl⟩:=qrc hr;simp only[map_cons,map_nil] at ho;obtain ⟨xs,kd,n,h1,h2,h3,h4,h5⟩:=a6n ho;simp only[SV.inst,h2] at hi;simp only[SV.inst,h1] at hw;refine au.pure hS (av:=.eptr o) ?_ ?_
           · simp only[ag,qbe hi,uw,xg,if_true,abh hw,h3,h4,dr.sz,h5];rfl
           · simp only[SV.inst];have:=qmn e o [] e.length rfl;rw[List.append_nil,h5] at this;rw[this];exact .refl _
         · simp at h
       · simp at h
     · simp at h
   · rename_i ve;have uw:cb P t=none:=ht.elem.trans ve
     split at h
     · rename_i len e0 ha;have aa7:iu P t=some (len,e0):=ht.arr.trans ha
       split at h
       · rename_i te kd n wa;have dr:=hT _ _ wa;simp only[SV.inst,SA.val] at hi
         split at h
         · rename_i hc;simp only[and_eq_true,decide_eq_true_eq] at hc;have xg:tin P e0=true:=dr.ti.trans hc.1.1
           split at h
           · rename_i b i j hx;rw[hx] at hw
             split at h
             · rename_i k hk;cases h;obtain rfl:=qdd hr;obtain ⟨blk,hb,ml,hl,_⟩:=qyi hS hk;refine au.pure0 hS (av:=.ptr b (ae e σ.H b) i (j+n.toNat*te.sz)) ?_ (.refl _);simp only[ag,qbe hi,uw,aa7,xg,hc.1.2,hc.2,and_self,if_true,qde hw,hb,hl,dr.sz]
             · simp at h
           · rename_i cs hx;rw[hx] at hw;cases h;obtain rfl:=qdd hr
             refine au.pure0 hS (av:=.eptr ((cs.map (·.val e)).drop (n.toNat*te.sz))) ?_ ?_
             · simp only[ag,qbe hi,uw,aa7,xg,hc.1.2,hc.2,and_self,if_true,qgi hw,dr.sz];rfl
             · simp only[SV.inst,map_drop];exact .refl _
           · simp at h
         · simp at h
       · simp at h
     · simp at h
 · simp at h
theorem a09{t:TypeId}{x ix:Operand}{r:SR}(h:br T SG σ e.length id (.index t x ix)=some r)(hr:db r.em e=some e'):∃ res,au P G id (.index t x ix) e e' σ s r res:=by
 have hw:=hev hS hG x;have hi:=hev hS hG ix;simp only[br] at h
 split at h
 · rename_i tf p pw hp;rw[hp] at hi;have ht:=hT _ _ pw
   split at h
   · rename_i q hx;rw[hx] at hw
     split at h
     · rename_i hs;cases h;obtain ⟨o,ho,rfl⟩:=qrc hr;simp only[map_cons,map_nil] at ho;obtain ⟨l,kd,n,c,h1,h2,h3,h4,rfl⟩:=a1q ho;simp only[SV.inst,h2] at hi;simp only[SV.inst,h1] at hw;refine au.pure hS (av:=.d (.int .u8 c.toNat)) ?_ (by simp only[SV.inst,qbb];exact .refl _)
       simp only[ag,qbe hi,qpm hw,ht.str,hs,h3,and_self,if_true,h4];rfl
     · simp at h
   · rename_i cs hx;rw[hx] at hw;obtain ⟨l,hl,r4⟩:=qqa hw
     split at h
     · rename_i len e0 ha
       split at h
       · rename_i te wa;have dr:=hT _ _ wa
         split at h
         · rename_i hc;simp only[and_eq_true,not_eq_true',beq_iff_eq] at hc
           split at h
           · rename_i as has;cases h;obtain ⟨o,ho,rfl⟩:=qrc hr;simp only[map_cons] at ho;obtain ⟨kd,n,c,h1,h2,h3,rfl⟩:=awb ho;simp only[SV.inst,h1] at hi;rw[qxi has,qod] at r4;obtain ⟨a,h4,h5⟩:=r4.get (i:=n.toNat) (a0:=.d c) (by rw[getElem?_map,h3];rfl)
             refine au.pure hS (av:=a) ?_ (by simp only[SV.inst,qbb];exact h5)
             have aa7:iu P t=some (len,e0):=ht.arr.trans ha;simp only[ag,qbe hi,hl,aa7,dr.ti,dr.tu,dr.agg,dr.sz,hc.1.1.1.1,hc.1.1.1.2,hc.1.1.2,hc.1.2,h2.1,h2.2,and_self,if_true,h4];rfl
           · simp at h
         · simp at h
       · simp at h
     · simp at h
   · simp at h
 · simp at h
theorem qer{t:TypeId}{len:Nat}{parts:Array (Nat × Operand)}{r:SR}(h:br T SG σ e.length id (.buildSlice t len parts)=some r)(hr:db r.em e=some e'):∃ res,au P G id (.buildSlice t len parts) e e' σ s r res:=by
 simp only[br] at h
 split at h
 · rename_i tf pw;have ht:=hT _ _ pw
   split at h
   · rename_i e0 ve
     split at h
     · rename_i te wa;have dr:=hT _ _ wa
       split at h
       · rename_i z hz
         split at h
         · rename_i hc;simp only[and_eq_true,beq_iff_eq,qrh,decide_eq_true_eq,all_eq_true,not_eq_true'] at hc;obtain ⟨⟨⟨⟨⟨c1,c2⟩,c3⟩,c4⟩,c5⟩,c6⟩:=hc;have h':=Option.some.inj h;subst h'
           have kv:∀ p∈parts.toList,WkL (evA G s.tm p.2).cells (SV.instL e (ae e σ.H) (sev SG σ p.2).cells)∧(evA G s.tm p.2).cells.all AV.one=true:=fun p hp=>
            ⟨qbh (hev hS hG p.2) (List.all_eq_true.2 (c6 p hp).1.2),qgc hS.wf (hok hS hG p.2) (hev hS hG p.2) (List.all_eq_true.2 (c6 p hp).1.2)⟩
           have hX:WkR (parts.toList.map fun p=>(evA G s.tm p.2).cells) ((parts.toList.map fun p=>(sev SG σ p.2).cells).map (SV.instL e (ae e σ.H))):=by
            refine ⟨by simp,fun i h1 h2=>?_⟩
            simp only[List.getElem_map];exact (kv _ (List.getElem_mem _)).1
           have hl:parts.toList.length=len:=by
            have:=congrArg List.length c5
            simpa using this
           have:=qyz (P:=P) (G:=G) (id:=id) (rb:=[]) (op:=.buildSlice t len parts) (e0:=e0) (te:=te) hS hX (by
            intro r hr;obtain ⟨p,hp,rfl⟩:=List.mem_map.1 hr;exact (c6 p hp).1.1) (by
            intro r hr;obtain ⟨p,hp,rfl⟩:=List.mem_map.1 hr;exact (c6 p hp).2) (by
            have j7:len*tsz P e0≤16777216:=by rw[dr.sz];exact Nat.le_of_ble_eq_true c4
            have eu:parts.all (fun p=>(evA G s.tm p.2).cells.length == tsz P e0&&(evA G s.tm p.2).cells.all AV.one)=true:=by
             rw[← Array.all_toList,all_eq_true];intro p hp;simp only[and_eq_true,beq_iff_eq];refine ⟨?_,(kv p hp).2⟩;rw[(kv p hp).1.1,qgb,dr.sz];exact (c6 p hp).1.1
            simp only[ag,ht.elem,ve,dr.zero,hz];rw[if_pos ⟨dr.ti.trans c1,by rw[dr.sz];exact c2,by rw[dr.sz];exact c3,j7,c5,eu⟩]
            simp[hl,dr.sz]) hr
           have e1:({ sj e.length id e0 te (parts.toList.map fun p=>(sev SG σ p.2).cells) with rb:=[] }:SR)=sj e.length id e0 te (parts.toList.map fun p=>(sev SG σ p.2).cells):=by
            unfold sj
            split
            · rfl
            · split<;>rfl
           rw[e1] at this;exact this
         · simp at h
       · simp at h
     · simp at h
   · simp at h
 · simp at h
end
end
end Am
