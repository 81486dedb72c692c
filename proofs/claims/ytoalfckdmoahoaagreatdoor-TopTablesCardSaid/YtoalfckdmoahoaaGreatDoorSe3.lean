/- The abstract machine and its reader: lemmas. -/
import Derived.Test.YtoalfckdmoahoaaGreatDoorSe2
set_option linter.unusedSimpArgs false
set_option linter.unusedVariables false
set_option linter.unusedSectionVars false
namespace Am
open Go
variable {P:Program} {G:Glob}
section
variable {T:Tab} {SG:SGlob} {σ:SS} {e e':Env} {s:Sta} {id:Nat}
theorem UpdOK.pureR (hS:Sat e σ s) {op:Op} {r:SR} {o:Env} (hu:r.up=[]) {av:AV} (hex:execA P id (evA G s.tm) s.H op=some { v:=av,hs:=[],rb:=r.rb }) (hv:Wk av (r.v.inst (e++o) (lnOf e σ.H))) :
 ∃ res,UpdOK P G id op e (e++o) σ s r res:=
 ⟨_,hex,by rw[hu,qcq hS];exact hv,by rw[hu];trivial,rfl,fun b _=>by rw[hu,qcq hS],fun p hp=>by rw[hu] at hp;exact absurd hp List.not_mem_nil⟩
theorem UpdOK.oneR (hS:Sat e σ s) {op:Op} {r:SR} {o:Env} {av:AV} {b:Nat} {k:SB} {blk:Blk} (hu:r.up=[(b,k)]) {ln:Nat→Nat}
 (hex:execA P id (evA G s.tm) s.H op=some { v:=av,hs:=[(b,blk)],rb:=r.rb }) (hln:ln=fun x=>if x=b then k.len (e++o) else lnOf e σ.H x)
 (hv:Wk av (r.v.inst (e++o) ln)) (hb:WkB blk (k.inst (e++o) ln)) (hg:inL r.gr b=false→k.len (e++o)=lnOf e σ.H b) (hsl:∃ xs,k.d.val (e++o) = .sl xs) :
 ∃ res,UpdOK P G id op e (e++o) σ s r res:=by
 subst hln;refine ⟨_,hex,?_,?_,rfl,fun x hx=>?_,fun p hp=>by rw[hu] at hp;cases List.mem_singleton.1 hp;exact hsl⟩
 · rw[hu,qdj hS];exact hv
 · rw[hu,qdj hS];exact ⟨rfl,hb,trivial⟩
 · rw[hu,qdj hS];simp only
   split
   · rename_i h;subst h;exact hg hx
   · rfl
theorem qofb {H:Heap} {b i j:Nat} {x:Blk} {R0:List (List AV)} {row0:List AV} (hb:H b=some x) (hR:WkR x.rows R0) (hi:R0[i]? = some row0) (sz:Nat) :
 (j+sz≤row0.length→∃ l,rdA true sz H (.ptr b R0.length i j)=some (.agg l,[b])∧WkL l ((row0.drop j).take sz))∧
 (∀ c0,row0[j]? = some c0→∃ c,rdA false sz H (.ptr b R0.length i j)=some (c,[b])∧Wk c c0):=by
 obtain ⟨row,hrow,hw⟩:=hR.get hi
 constructor
 · intro hl;refine ⟨(row.drop j).take sz,?_,(hw.drop j).take sz⟩;have:j+sz≤row.length:=by rw[hw.1];exact hl
   simp only[rdA,hb,hR.1,if_true,hrow,this]
 · intro c0 hc;obtain ⟨c,h1,h2⟩:=hw.get hc;refine ⟨c,?_,h2⟩;simp only[rdA,hb,hR.1,if_true,hrow,h1,Bool.false_eq_true,if_false]
theorem qkqb {H:Heap} {b i j sz:Nat} {x:Blk} {R0:List (List AV)} {row0:List AV} {a:AV} {cs0:List AV} (hb:H b=some x) (hf:x.fz=false) (hR:WkR x.rows R0) (hi:R0[i]? = some row0)
 (hc:WkL a.cells cs0) (h1:a.cells.all AV.one=true) (hs:cs0.length=sz) (hl:j+sz≤row0.length) :
 ∃ x',wrA sz H a (.ptr b R0.length i j)=some (b,x')∧x'.fz=x.fz∧x'.ap=x.ap∧x'.ty=x.ty∧x'.sz=x.sz∧WkR x'.rows (R0.set i (setAt row0 j cs0)):=by
 obtain ⟨row,hrow,hw⟩:=hR.get hi;refine ⟨{ x with rows:=x.rows.set i (setAt row j a.cells) },?_,rfl,rfl,rfl,rfl,hR.set (hw.setAt hc j) i⟩;have:j+sz≤row.length:=by rw[hw.1];exact hl
 have h2:a.cells.length=sz:=by rw[hc.1];exact hs
 simp only[wrA,hb,hR.1,hf,h2,h1,hrow,this,and_self,if_true]
theorem qfh {q:SA} (h:sNil q=true):q = .c (.sl []):=by
 unfold sNil at h
 split at h
 · rfl
 · simp at h
theorem qwd {ln:Nat→Nat} {k:SB} (h:sNil k.d=true):k.rows e ln=k.tl.map (SV.instL e ln):=by
 simp[SB.rows,qfh h,SA.val,D.rows]
theorem qfe {k:SB} (h:sNil k.d=true):k.len e=k.tl.length:=by
 simp[SB.len,qfh h,SA.val,D.rows]
theorem qrb {ln:Nat→Nat} {k:SB} (h:k.tl.isEmpty=true) {xs:List (List D)} (hd:k.d.val e = .sl xs):k.rows e ln=xs.map (·.map .d):=by
 simp[SB.rows,List.isEmpty_iff.1 h,hd,D.rows]
theorem qdc {k:SB} (h:k.tl.isEmpty=true) {xs:List (List D)} (hd:k.d.val e = .sl xs):k.len e=xs.length:=by
 simp[SB.len,List.isEmpty_iff.1 h,hd,D.rows]
theorem qmm {ln:Nat→Nat} (l:List SV) (j:Nat):(SV.instL e ln l)[j]? = (l[j]?).map (SV.inst e ln):=by
 rw[SV.instL_map,List.getElem?_map]
theorem qx {ln:Nat→Nat} (l:List SV):(SV.instL e ln l).length=l.length:=by rw[SV.instL_map,List.length_map]
theorem qwy {ln:Nat→Nat} (l:List SV) (j n:Nat):((SV.instL e ln l).drop j).take n=SV.instL e ln ((l.drop j).take n):=by
 rw[SV.instL_map,SV.instL_map,List.map_take,List.map_drop]
theorem qbm {ln:Nat→Nat}:∀ (cs row:List SV) (j:Nat),SV.instL e ln (setAtS row j cs)=setAt (SV.instL e ln row) j (SV.instL e ln cs):=by
 intro cs
 induction cs with
 | nil=>intro row j;rfl
 | cons c cs ih=>
  intro row j;simp only[setAtS,SV.instL,setAt];rw[ih]
  congr 1
  simp only[SV.instL_map,List.map_set]
theorem qimb:∀ (cs row:List D) (j:Nat),(setD row j cs).map AV.d=setAt (row.map .d) j (cs.map .d):=by
 intro cs
 induction cs with
 | nil=>intro row j;rfl
 | cons c cs ih=>
  intro row j;simp only[setD,List.map_cons,setAt];rw[ih,List.map_set]
theorem qwi:∀ {l:List SV} {as:List SA},atoms l=some as→l=as.map .atm:=by
 intro l
 induction l with
 | nil=>intro as h;simp[atoms] at h;subst h;rfl
 | cons v l ih=>
  intro as h;cases v with
  | atm x=>
   simp only[atoms] at h
   split at h
   · rename_i r hr;cases h;rw[ih hr];rfl
   · simp at h
  | _=>simp[atoms] at h
theorem qcd {ln:Nat→Nat} (as:List SA):SV.instL e ln (as.map .atm)=(as.map (·.val e)).map .d:=by
 rw[SV.instL_map,List.map_map,List.map_map];rfl
theorem qipb {r:List D} {j:Nat} (h:j+1≤r.length):∃ c,(r.drop j).take 1=[c]∧r[j]? = some c:=by
 have hj:j<r.length:=by omega
 refine ⟨r[j],?_,List.getElem?_eq_getElem hj⟩;rw[List.drop_eq_getElem_cons hj];rfl
theorem qca (hS:Sat e σ s) {b i j n:Nat} {k:SB} {idx:SA} {o:Env} (hk:getB σ.H b=some k) (htl:k.tl.isEmpty=true) (ho:PO.eval (.get j n) [k.d.val e,idx.val e]=some o) (hi:(idx.val e).num.toNat=i) :
 o.length=n∧(∃ l,rdA true n s.H (.ptr b (lnOf e σ.H b) i j)=some (.agg l,[b])∧WkL l (o.map .d))∧
 (n=1→∀ sz,∃ c c0,rdA false sz s.H (.ptr b (lnOf e σ.H b) i j)=some (c,[b])∧o=[c0]∧Wk c (.d c0)):=by
 obtain ⟨x,hx,hw⟩:=hS.blk hk;obtain ⟨xs,kd,nn,r,hd,hix,hn0,hr,hjl,rfl⟩:=qlwb ho;rw[hix] at hi;simp only[D.num] at hi
 have hrows:(k.inst e (lnOf e σ.H)).rows=xs.map (·.map .d):=qrb htl hd;have hR:=hw.2.2.2.2;rw[hrows] at hR
 have hlen:lnOf e σ.H b=(xs.map (·.map AV.d)).length:=by rw[qk hk,qdc htl hd];simp
 have hg:(xs.map (·.map AV.d))[i]? = some (r.map .d):=by rw[List.getElem?_map,← hi,hr];rfl
 rw[hlen];obtain ⟨h1,h2⟩:=qofb (j:=j) hx hR hg n;refine ⟨by simp;omega,?_,?_⟩
 · obtain ⟨l,hl,hwl⟩:=h1 (by simpa using hjl)
   exact ⟨l,hl,by rw[List.map_take,List.map_drop];exact hwl⟩
 · rintro rfl sz;obtain ⟨c0,hc0,hc0'⟩:=qipb hjl;obtain ⟨c,hc,hwc⟩:=(qofb (j:=j) hx hR hg sz).2 (.d c0) (by rw[List.getElem?_map,hc0'];rfl)
   exact ⟨c,c0,hc,hc0,hwc⟩
theorem qwz (hS:Sat e σ s) {tf:TF} {v:SV} {a:AV} {r:SR} (ha:Wk a (v.inst e (lnOf e σ.H))) (hv:v.ok e.length=true) (h:sLoad σ e.length tf v=some r) (hr:runE r.em e=some e') :
 ∃ av,rdA tf.agg tf.sz s.H a=some (av,r.rb)∧Wk av (r.v.inst e' (lnOf e σ.H))∧r.up=[]:=by
 unfold sLoad at h
 split at h
 · rename_i b i j;rw[qqd ha]
   split at h
   · rename_i k hk
     split at h
     · rename_i hn;obtain ⟨x,hx,hw⟩:=hS.blk hk;have hR:=hw.2.2.2.2;have hrows:(k.inst e (lnOf e σ.H)).rows=_:=qwd hn;rw[hrows] at hR;have hlen:lnOf e σ.H b=(k.tl.map (SV.instL e (lnOf e σ.H))).length:=by rw[qk hk,qfe hn];simp
       rw[hlen]
       split at h
       · rename_i row hrow;have hg:(k.tl.map (SV.instL e (lnOf e σ.H)))[i]? = some (SV.instL e (lnOf e σ.H) row):=by rw[List.getElem?_map,hrow];rfl
         obtain ⟨h1,h2⟩:=qofb (j:=j) hx hR hg tf.sz
         split at h
         · rename_i hagg
           split at h
           · rename_i hle;cases h;obtain rfl:=qrc hr;rw[hagg];obtain ⟨l,hl,hwl⟩:=h1 (by rw[qx];exact Nat.le_of_ble_eq_true hle)
             rw[qwy] at hwl;exact ⟨_,hl,.agg _ _ hwl.1 hwl.2,rfl⟩
           · simp at h
         · rename_i hagg
           split at h
           · rename_i c hc;cases h;obtain rfl:=qrc hr;rw[show tf.agg=false by simpa using hagg]
             obtain ⟨c',h3,h4⟩:=h2 _ (by rw[qmm,hc];rfl)
             exact ⟨c',h3,h4,rfl⟩
           · simp at h
       · simp at h
     · split at h
       · rename_i htl
         split at h
         · rename_i hagg;cases h;obtain ⟨o,ho,rfl⟩:=qcc hr;simp only[List.map_cons,List.map_nil] at ho;obtain ⟨hl,⟨l,h1,h2⟩,_⟩:=qca hS hk htl ho (i:=i) (by simp[SA.val,D.num])
           rw[hagg];refine ⟨_,h1,?_,rfl⟩;simp only[SV.inst];rw[qtq e o _ _ hl];exact .agg _ _ h2.1 h2.2
         · rename_i hagg;cases h;obtain ⟨o,ho,rfl⟩:=qcc hr;simp only[List.map_cons,List.map_nil] at ho;obtain ⟨hl,_,h3⟩:=qca hS hk htl ho (i:=i) (by simp[SA.val,D.num])
           rw[show tf.agg=false by simpa using hagg]
           obtain ⟨c,c0,h4,rfl,h5⟩:=h3 rfl tf.sz;exact ⟨c,h4,by simp only[SV.inst,qr];exact h5,rfl⟩
       · simp at h
   · simp at h
 · rename_i b x j;rw[qqd ha]
   split at h
   · rename_i k hk
     split at h
     · rename_i htl
       split at h
       · rename_i hagg;cases h;obtain ⟨o,ho,rfl⟩:=qcc hr;simp only[List.map_cons,List.map_nil] at ho;obtain ⟨hl,⟨l,h1,h2⟩,_⟩:=qca hS hk htl ho rfl;rw[hagg];refine ⟨_,h1,?_,rfl⟩;simp only[SV.inst];rw[qtq e o _ _ hl];exact .agg _ _ h2.1 h2.2
       · rename_i hagg;cases h;obtain ⟨o,ho,rfl⟩:=qcc hr;simp only[List.map_cons,List.map_nil] at ho;obtain ⟨hl,_,h3⟩:=qca hS hk htl ho rfl;rw[show tf.agg=false by simpa using hagg]
         obtain ⟨c,c0,h4,rfl,h5⟩:=h3 rfl tf.sz;exact ⟨c,h4,by simp only[SV.inst,qr];exact h5,rfl⟩
     · simp at h
   · simp at h
 · rename_i cs;rw[qkh ha]
   split at h
   · rename_i hagg
     split at h
     · rename_i hle;cases h;obtain rfl:=qrc hr
       have:tf.sz≤(cs.map (·.val e)).length:=by simpa using Nat.le_of_ble_eq_true hle
       refine ⟨.agg (((cs.map (·.val e)).take tf.sz).map .d),by simp only[rdA,hagg,if_true,this],?_,rfl⟩
       simp only[SV.inst];rw[qcd];simp only[List.map_take];exact .refl _
     · simp at h
   · rename_i hagg
     split at h
     · rename_i c cs';cases h;obtain rfl:=qrc hr;refine ⟨.d (c.val e),by simp only[rdA,show tf.agg=false by simpa using hagg,Bool.false_eq_true,if_false,List.map_cons,List.getElem?_cons_zero],.refl _,rfl⟩
     · simp at h
 · simp at h
theorem qpsb (_:Sat e σ s) {b:Nat} {k k':SB} {o:Env} (hk:getB σ.H b=some k) (h:k'.len (e++o)=k.len e):lnOf e σ.H=fun x=>if x=b then k'.len (e++o) else lnOf e σ.H x:=by
 funext x
 split
 · rename_i hx;subst hx;rw[h,qk hk]
 · rfl
theorem qvrb (hS:Sat e σ s) {b i j n:Nat} {k:SB} {idx:SA} {as:List SA} {o:Env} {a:AV} (hk:getB σ.H b=some k) (htl:k.tl.isEmpty=true) (hf:k.fz=false)
 (ho:PO.eval (.set j n) (k.d.val e::idx.val e::as.map (·.val e))=some o) (hi:(idx.val e).num.toNat=i) (hc:WkL a.cells ((as.map (·.val e)).map .d)) (h1:a.cells.all AV.one=true) :
 ∃ x',wrA n s.H a (.ptr b (lnOf e σ.H b) i j)=some (b,x')∧WkB x' (({ k with d:=.v e.length }:SB).inst (e++o) (lnOf e σ.H))∧({ k with d:=.v e.length }:SB).len (e++o)=k.len e∧∃ xs,(SA.v e.length).val (e++o) = .sl xs:=by
 obtain ⟨x,hx,hw⟩:=hS.blk hk;obtain ⟨xs,kd,nn,r,hd,hix,hn0,hr,hjl,hcl,rfl⟩:=qitb ho;rw[hix] at hi;simp only[D.num] at hi
 have hrows:(k.inst e (lnOf e σ.H)).rows=xs.map (·.map .d):=qrb htl hd;have hR:=hw.2.2.2.2;rw[hrows] at hR
 have hlen:lnOf e σ.H b=(xs.map (·.map AV.d)).length:=by rw[qk hk,qdc htl hd];simp
 have hg:(xs.map (·.map AV.d))[i]? = some (r.map .d):=by rw[List.getElem?_map,← hi,hr];rfl
 rw[hlen];obtain ⟨x',w1,w2,w3,w4,w5,w6⟩:=qkqb (j:=j) (sz:=n) hx (hw.1.trans hf) hR hg hc h1 (by simpa using hcl) (by simpa using hjl)
 have hd':(({ k with d:=.v e.length }:SB).d).val (e++[.sl (xs.set nn.toNat (setD r j (as.map (·.val e))))]) = .sl (xs.set nn.toNat (setD r j (as.map (·.val e)))):=qr e _ [];refine ⟨x',w1,⟨w2.trans hw.1,w3.trans hw.2.1,w4.trans hw.2.2.1,w5.trans hw.2.2.2.1,?_⟩,?_⟩
 · show WkR x'.rows (SB.rows _ _ _)
   rw[qrb (k:={ k with d:=.v e.length }) htl hd',List.map_set,qimb,hi];exact w6
 · refine ⟨?_,_,hd'⟩;rw[qdc (k:={ k with d:=.v e.length }) htl hd',qdc htl hd];simp
theorem qvhb (hS:Sat e σ s) {tf:TF} {v vx:SV} {a x:AV} {r:SR} (ha:Wk a (v.inst e (lnOf e σ.H))) (hx:Wk x (vx.inst e (lnOf e σ.H))) (hxk:vx.ok e.length=true) (h:sStore σ e.length tf vx v=some r) (hr:runE r.em e=some e') :
 ∃ o b blk k k',e' = e++o∧wrA tf.sz s.H x a=some (b,blk)∧r.up=[(b,k')]∧r.rb=[b]∧r.v = .junk∧getB σ.H b=some k∧WkB blk (k'.inst e' (lnOf e σ.H))∧k'.len e' = k.len e∧∃ xs,k'.d.val e' = .sl xs:=by
 unfold sStore at h
 split at h
 · rename_i b i j;rw[qqd ha]
   split at h
   · rename_i k hk
     split at h
     · rename_i hcond;simp only[Bool.and_eq_true,Bool.not_eq_true',beq_iff_eq] at hcond;obtain ⟨⟨hfz,hcl⟩,hone⟩:=hcond;have hc1:=qxg hx hone;have hc2:=qac hS.wf hxk hx hone
       split at h
       · rename_i hn;obtain ⟨blk,hb,hw⟩:=hS.blk hk;have hR:=hw.2.2.2.2;have hrows:(k.inst e (lnOf e σ.H)).rows=_:=qwd hn;rw[hrows] at hR;have hlen:lnOf e σ.H b=(k.tl.map (SV.instL e (lnOf e σ.H))).length:=by rw[qk hk,qfe hn];simp
         rw[hlen]
         split at h
         · rename_i row hrow
           split at h
           · rename_i hle;cases h;obtain rfl:=qrc hr;have hg:(k.tl.map (SV.instL e (lnOf e σ.H)))[i]? = some (SV.instL e (lnOf e σ.H) row):=by rw[List.getElem?_map,hrow];rfl
             obtain ⟨x',w1,w2,w3,w4,w5,w6⟩:=qkqb (j:=j) (sz:=tf.sz) hb (hw.1.trans hfz) hR hg hc1 hc2 (by rw[qx];exact hcl) (by rw[qx];exact Nat.le_of_ble_eq_true hle)
             refine ⟨[],b,x',k,_,by simp,w1,rfl,rfl,rfl,hk,⟨w2.trans hw.1,w3.trans hw.2.1,w4.trans hw.2.2.1,w5.trans hw.2.2.2.1,?_⟩,?_⟩
             · show WkR x'.rows (SB.rows _ _ _)
               rw[qwd (k:={ k with tl:=k.tl.set i (setAtS row j vx.cells) }) hn];simp only[List.map_set];rw[qbm];exact w6
             · refine ⟨?_,[],?_⟩
               · rw[qfe (k:={ k with tl:=k.tl.set i (setAtS row j vx.cells) }) hn,qfe hn];simp
               · show k.d.val e=_
                 rw[qfh hn];rfl
           · simp at h
         · simp at h
       · split at h
         · rename_i htl
           split at h
           · rename_i as has;cases h;obtain ⟨o,ho,rfl⟩:=qcc hr;simp only[List.map_cons] at ho;rw[qwi has,qcd] at hc1;obtain ⟨x',w1,w2,w3⟩:=qvrb hS hk htl hfz ho (i:=i) (by simp[SA.val,D.num]) hc1 hc2
             exact ⟨o,b,x',k,_,rfl,w1,rfl,rfl,rfl,hk,w2,w3⟩
           · simp at h
         · simp at h
     · simp at h
   · simp at h
 · rename_i b y j;rw[qqd ha]
   split at h
   · rename_i k hk
     split at h
     · rename_i hcond;simp only[Bool.and_eq_true,Bool.not_eq_true',beq_iff_eq] at hcond;obtain ⟨⟨⟨hfz,hcl⟩,hone⟩,htl⟩:=hcond;have hc1:=qxg hx hone;have hc2:=qac hS.wf hxk hx hone
       split at h
       · rename_i as has;cases h;obtain ⟨o,ho,rfl⟩:=qcc hr;simp only[List.map_cons] at ho;rw[qwi has,qcd] at hc1;obtain ⟨x',w1,w2,w3⟩:=qvrb hS hk htl hfz ho rfl hc1 hc2;exact ⟨o,b,x',k,_,rfl,w1,rfl,rfl,rfl,hk,w2,w3⟩
       · simp at h
     · simp at h
   · simp at h
 · simp at h
variable (hS:Sat e σ s) (hG:GOK G SG) (hT:TOK P T)
include hS hG hT
theorem qlub {t:TypeId} {a:Operand} {r:SR} (h:symOp T SG σ e.length id (.load t a)=some r) (hr:runE r.em e=some e'):∃ res,UpdOK P G id (.load t a) e e' σ s r res:=by
 simp only[symOp] at h
 split at h
 · rename_i tf htf
   split at h
   · rename_i hc;simp only[Bool.and_eq_true] at hc;have ht:=hT _ _ htf;obtain ⟨av,h1,h2,h3⟩:=qwz hS (hev hS hG a) (hok hS hG a) h hr;obtain ⟨o,rfl,_⟩:=qvd hr;refine UpdOK.pureR hS h3 (av:=av) ?_ h2;simp only[execA,ht.ti,ht.tu,hc.1,hc.2,and_self,if_true,ht.agg,ht.sz,h1]
   · simp at h
 · simp at h
theorem qupb {t:TypeId} {a x:Operand} {r:SR} (h:symOp T SG σ e.length id (.store t a x)=some r) (hr:runE r.em e=some e'):∃ res,UpdOK P G id (.store t a x) e e' σ s r res:=by
 simp only[symOp] at h
 split at h
 · rename_i tf htf
   split at h
   · rename_i hc;have ht:=hT _ _ htf;obtain ⟨o,b,blk,k,k',rfl,h1,h2,h3,h4,h5,h6,h7,h8⟩:=qvhb hS (hev hS hG a) (hev hS hG x) (hok hS hG x) h hr;refine UpdOK.oneR hS h2 (av:=.junk) (blk:=blk) (ln:=lnOf e σ.H) ?_ (qpsb hS h5 h7) (by rw[h4];exact .junk _) h6 (fun _=>by rw[h7,qk h5]) h8
     simp only[execA,ht.ti,hc,if_true,ht.sz,h1,h3]
   · simp at h
 · simp at h
end
end Am

namespace Am
open Go
variable {P:Program} {G:Glob}
section
variable {T:Tab} {SG:SGlob} {σ:SS} {e e':Env} {s:Sta} {id:Nat}
theorem qbwb {l l0:List AV} (h:WkL l l0):WkR [l] [l0]:=.cons h .nil
theorem qpn {ln:Nat→Nat} {v:SV} (h:v.cells.all SV.one=true):(v.inst e ln).cells=SV.instL e ln v.cells:=by
 cases v<;>first|rfl|(simp[SV.cells,SV.one] at h;done)
theorem qheb (hS:Sat e σ s) {op:Op} {vs:List SV} {cs:List AV} {t:TypeId} {em:List (PO × List SA)} (hex:execA P id (evA G s.tm) s.H op=some { v:=.ptr id 1 0 0,hs:=[(id,{ fz:=false,ap:=false,ty:=t,sz:=vs.length,rows:=[cs] })],rb:=[] })
 (hc:WkL cs (SV.instL e (fun x=>if x=id then 1 else lnOf e σ.H x) vs)) :
 ∃ res,UpdOK P G id op e e σ s { em,v:=.ptr id 0 0,up:=[(id,{ fz:=false,ap:=false,ty:=t,sz:=vs.length,d:=lit0,tl:=[vs] })],gr:=[id] } res:=by
 refine UpdOK.one0 hS hex (ln:=fun x=>if x=id then 1 else lnOf e σ.H x) rfl ?_ ⟨rfl,rfl,rfl,rfl,?_⟩ (by simp[inL]) ⟨[],rfl⟩
 · simp only[SV.inst,if_true];exact .refl _
 · show WkR [cs] (SB.rows _ _ _)
   rw[qwd (k:={ fz:=false,ap:=false,ty:=t,sz:=vs.length,d:=lit0,tl:=[vs] }) rfl];exact qbwb hc
section
variable (hS:Sat e σ s) (hG:GOK G SG) (hT:TOK P T)
include hS hG hT
theorem qmnb {t:TypeId} {r:SR} (h:symOp T SG σ e.length id (.alloc t)=some r) (hr:runE r.em e=some e'):∃ res,UpdOK P G id (.alloc t) e e' σ s r res:=by
 simp only[symOp] at h
 split at h
 · rename_i tf htf;have ht:=hT _ _ htf
   split at h
   · rename_i z hz
     split at h
     · rename_i hc;cases h;obtain rfl:=qrc hr
       have h1:(ofVal z).cells=SV.instL e (fun x=>if x=id then 1 else lnOf e σ.H x) (sVal z).cells:=by
        rw[← qng (e:=e) (ln:=fun x=>if x=id then 1 else lnOf e σ.H x),qpn hc]
       have hone:(ofVal z).cells.all AV.one=true:=by
        rw[← qng (e:=e) (ln:=lnOf e σ.H)];exact qac hS.wf (qwdb _ z) (.refl _) hc
       have hlen:(sVal z).cells.length=(ofVal z).cells.length:=by rw[h1,qx]
       refine qheb hS (cs:=(ofVal z).cells) ?_ ?_
       · simp only[execA,ht.zero,hz,hone,if_true,hlen]
       · rw[h1];exact .refl _
     · simp at h
   · simp at h
 · simp at h
end
theorem qlm (n:Nat) {vs:List SV} (hv:SV.hasL (· == id) vs=false):SV.instL e (lnOf e σ.H) vs=SV.instL e (fun x=>if x=id then n else lnOf e σ.H x) vs:=
 SV.instL_ln (p:=(· == id)) (fun b hb=>by rw[if_neg (by simpa using hb)]) hv
section
variable (hS:Sat e σ s) (hG:GOK G SG)
include hS hG
theorem qrac {t:TypeId} {x:Operand} {r:SR} (h:symOp T SG σ e.length id (.box t x)=some r) (hr:runE r.em e=some e'):∃ res,UpdOK P G id (.box t x) e e' σ s r res:=by
 simp only[symOp] at h
 split at h
 · rename_i hc;simp only[Bool.and_eq_true,Bool.not_eq_true'] at hc;cases h;obtain rfl:=qrc hr;have hw:=hev hS hG x;have h1:=qxg hw hc.1;have h2:=qac hS.wf (hok hS hG x) hw hc.1;have hlen:(evA G s.tm x).cells.length=(sev SG σ x).cells.length:=by rw[h1.1,qx]
   refine qheb hS (cs:=(evA G s.tm x).cells) ?_ ?_
   · simp only[execA,h2,if_true,hlen]
   · rw[← qlm 1 hc.2];exact h1
 · simp at h
theorem qbx {x:Operand} {r:SR} (h:symOp T SG σ e.length id (.nilCheck x)=some r) (hr:runE r.em e=some e'):∃ res,UpdOK P G id (.nilCheck x) e e' σ s r res:=by
 have hw:=hev hS hG x;simp only[symOp] at h
 split at h
 · rename_i b i j hx;rw[hx] at hw
   split at h
   · rename_i k hk;cases h;obtain rfl:=qrc hr;obtain ⟨blk,hb,hwb⟩:=hS.blk hk;have hl:blk.rows.length=lnOf e σ.H b:=by rw[qk hk,← SB.rows_len e (lnOf e σ.H)];exact hwb.2.2.2.2.1
     refine UpdOK.pure0 hS (av:=.ptr b (lnOf e σ.H b) i j) ?_ (.refl _);simp only[execA,qqd hw,hb,hl,if_true]
   · simp at h
 · rename_i b y j hx;rw[hx] at hw
   split at h
   · rename_i k hk;cases h;obtain rfl:=qrc hr;obtain ⟨blk,hb,hwb⟩:=hS.blk hk;have hl:blk.rows.length=lnOf e σ.H b:=by rw[qk hk,← SB.rows_len e (lnOf e σ.H)];exact hwb.2.2.2.2.1
     refine UpdOK.pure0 hS (av:=.ptr b (lnOf e σ.H b) (y.val e).num.toNat j) ?_ (.refl _);simp only[execA,qqd hw,hb,hl,if_true]
   · simp at h
 · rename_i cs hx;rw[hx] at hw;cases h;obtain rfl:=qrc hr
   refine UpdOK.pure0 hS (av:=.eptr (cs.map (·.val e))) ?_ (.refl _);simp only[execA,qkh hw];rfl
 · simp at h
theorem qmbb {x:Operand} {i:Nat} {r:SR} (h:symOp T SG σ e.length id (.extract x i)=some r) (hr:runE r.em e=some e'):∃ res,UpdOK P G id (.extract x i) e e' σ s r res:=by
 have hw:=hev hS hG x;simp only[symOp] at h
 split at h
 · rename_i cs hx;rw[hx] at hw
   split at h
   · rename_i c hc;cases h;obtain rfl:=qrc hr;obtain ⟨l,hl,hwl⟩:=qfsb hw;obtain ⟨a,h1,h2⟩:=hwl.get (i:=i) (a0:=c.inst e (lnOf e σ.H)) (by rw[qmm,hc];rfl)
     refine UpdOK.pure0 hS (av:=a) ?_ h2;simp only[execA,hl,h1];rfl
   · simp at h
 · simp at h
theorem qlzb {args:Array Operand} {ats:Array TypeId} {r:SR} (h:symOp T SG σ e.length id (.call { callee:=.builtin .min,args,argTypes:=ats })=some r) (hr:runE r.em e=some e'):∃ res,UpdOK P G id (.call { callee:=.builtin .min,args,argTypes:=ats }) e e' σ s r res:=by
 simp only[symOp] at h
 split at h
 · rename_i x y hxy;have hx:=hev hS hG x;have hy:=hev hS hG y
   split at h
   · rename_i p q hp hq;cases h;obtain ⟨o,ho,rfl⟩:=qcc hr;simp only[List.map_cons,List.map_nil] at ho;obtain ⟨k,n,k',n',h1,h2,rfl⟩:=qqub ho;rw[hp] at hx;rw[hq] at hy;simp only[SV.inst,h1] at hx;simp only[SV.inst,h2] at hy;refine UpdOK.pure hS (av:=.d (.int k (if n' < n then n' else n))) ?_ (by simp only[SV.inst,qr];exact .refl _)
     simp only[execA,hxy,qxc hx,qxc hy];rfl
   · simp at h
 · simp at h
theorem qqyb {args:Array Operand} {ats:Array TypeId} {r:SR} (h:symOp T SG σ e.length id (.call { callee:=.builtin .max,args,argTypes:=ats })=some r) (hr:runE r.em e=some e'):∃ res,UpdOK P G id (.call { callee:=.builtin .max,args,argTypes:=ats }) e e' σ s r res:=by
 simp only[symOp] at h
 split at h
 · rename_i x y hxy;have hx:=hev hS hG x;have hy:=hev hS hG y
   split at h
   · rename_i p q hp hq;cases h;obtain ⟨o,ho,rfl⟩:=qcc hr;simp only[List.map_cons,List.map_nil] at ho;obtain ⟨k,n,k',n',h1,h2,rfl⟩:=qixb ho;rw[hp] at hx;rw[hq] at hy;simp only[SV.inst,h1] at hx;simp only[SV.inst,h2] at hy;refine UpdOK.pure hS (av:=.d (.int k (if n'>n then n' else n))) ?_ (by simp only[SV.inst,qr];exact .refl _)
     simp only[execA,hxy,qxc hx,qxc hy];rfl
   · simp at h
 · simp at h
end
section
variable (hS:Sat e σ s) (hG:GOK G SG) (hT:TOK P T)
include hS hG hT
theorem quzb {args:Array Operand} {ats:Array TypeId} {r:SR} (h:symOp T SG σ e.length id (.call { callee:=.builtin .len,args,argTypes:=ats })=some r) (hr:runE r.em e=some e'):∃ res,UpdOK P G id (.call { callee:=.builtin .len,args,argTypes:=ats }) e e' σ s r res:=by
 simp only[symOp] at h
 split at h
 · rename_i x t hx ht0;have hw:=hev hS hG x
   split at h
   · rename_i tf htf;have ht:=hT _ _ htf
     split at h
     · rename_i q hq;rw[hq] at hw
       split at h
       · rename_i hs;cases h;obtain ⟨o,ho,rfl⟩:=qcc hr;simp only[List.map_cons,List.map_nil] at ho;obtain ⟨l,h1,rfl⟩:=qgz ho;simp only[SV.inst,h1] at hw;refine UpdOK.pure hS (av:=.d (.int .i64 l.length)) ?_ (by simp only[SV.inst,qr];exact .refl _)
         simp only[execA,hx,ht0,qjm hw,ht.str,hs,if_true];rfl
       · split at h
         · rename_i he;cases h;obtain ⟨o,ho,rfl⟩:=qcc hr;simp only[List.map_cons,List.map_nil] at ho;obtain ⟨l,h1,rfl⟩:=qxo ho;simp only[SV.inst,h1] at hw;refine UpdOK.pure hS (av:=.d (.int .i64 l.length)) ?_ (by simp only[SV.inst,qr];exact .refl _)
           simp only[execA,hx,ht0,qzcb hw,ht.elem,he,if_true];rfl
         · simp at h
     · rename_i hq;rw[hq] at hw
       split at h
       · rename_i he;cases h;obtain rfl:=qrc hr;refine UpdOK.pure0 hS (av:=.d (.int .i64 0)) ?_ (.refl _);simp only[execA,hx,ht0,qwj hw,ht.elem,he,if_true];rfl
       · simp at h
     · rename_i b hq;rw[hq] at hw
       split at h
       · rename_i k hk;obtain ⟨blk,hb,hwb⟩:=hS.blk hk;have hl:blk.rows.length=lnOf e σ.H b:=by rw[qk hk,← SB.rows_len e (lnOf e σ.H)];exact hwb.2.2.2.2.1
         split at h
         · rename_i he
           have hex:execA P id (evA G s.tm) s.H (.call { callee:=.builtin .len,args,argTypes:=ats })=some { v:=.d (.int .i64 (lnOf e σ.H b:Nat)),hs:=[],rb:=[b] }:=by
            simp only[execA,hx,ht0,qti hw,hb,hl,ht.elem,he,and_self,if_true]
           split at h
           · rename_i htl;cases h;obtain ⟨o,ho,rfl⟩:=qcc hr;simp only[List.map_cons,List.map_nil] at ho;obtain ⟨l,h1,rfl⟩:=qxo ho;refine UpdOK.pure hS hex ?_;simp only[SV.inst,qr];rw[qk hk,qdc htl h1];exact .refl _
           · split at h
             · rename_i hn;cases h;obtain rfl:=qrc hr;refine UpdOK.pure0 hS hex ?_;rw[qk hk,qfe hn];exact .refl _
             · simp at h
         · simp at h
       · simp at h
     · simp at h
   · simp at h
 · simp at h
theorem qhr {t:TypeId} {x:Operand} {f:Nat} {r:SR} (h:symOp T SG σ e.length id (.fieldAddr t x f)=some r) (hr:runE r.em e=some e'):∃ res,UpdOK P G id (.fieldAddr t x f) e e' σ s r res:=by
 have hw:=hev hS hG x;simp only[symOp] at h
 split at h
 · rename_i tf htf;have ht:=hT _ _ htf
   split at h
   · rename_i o ft hf
     split at h
     · rename_i t2 ht2;have ht2':=hT _ _ ht2
       split at h
       · rename_i hc;simp only[Bool.and_eq_true,Bool.not_eq_true',beq_eq_false_iff_ne] at hc;have hfd:=ht.flds _ _ hf;have hc2:tsz P ft≠0:=by rw[ht2'.sz];exact hc.2
         have hcond:tin P ft=true∧tsz P ft≠0:=⟨by rw[ht2'.ti];exact hc.1,hc2⟩
         split at h
         · rename_i b i j hx;rw[hx] at hw
           split at h
           · rename_i k hk;cases h;obtain rfl:=qrc hr;obtain ⟨blk,hb,hwb⟩:=hS.blk hk;have hl:blk.rows.length=lnOf e σ.H b:=by rw[qk hk,← SB.rows_len e (lnOf e σ.H)];exact hwb.2.2.2.2.1
             refine UpdOK.pure0 hS (av:=.ptr b (lnOf e σ.H b) i (j+o)) ?_ (.refl _);simp only[execA,hfd];rw[if_pos hcond];simp only[qqd hw,hb,hl,if_true]
           · simp at h
         · rename_i b y j hx;rw[hx] at hw
           split at h
           · rename_i k hk;cases h;obtain rfl:=qrc hr;obtain ⟨blk,hb,hwb⟩:=hS.blk hk;have hl:blk.rows.length=lnOf e σ.H b:=by rw[qk hk,← SB.rows_len e (lnOf e σ.H)];exact hwb.2.2.2.2.1
             refine UpdOK.pure0 hS (av:=.ptr b (lnOf e σ.H b) (y.val e).num.toNat (j+o)) ?_ (.refl _);simp only[execA,hfd];rw[if_pos hcond];simp only[qqd hw,hb,hl,if_true]
           · simp at h
         · rename_i cs hx;rw[hx] at hw;cases h;obtain rfl:=qrc hr
           refine UpdOK.pure0 hS (av:=.eptr ((cs.map (·.val e)).drop o)) ?_ ?_
           · simp only[execA,hfd];rw[if_pos hcond];simp only[qkh hw];rfl
           · simp only[SV.inst,List.map_drop];exact .refl _
         · simp at h
       · simp at h
     · simp at h
   · simp at h
 · simp at h
theorem qhmb {t:TypeId} {x:Operand} {f:Nat} {r:SR} (h:symOp T SG σ e.length id (.field t x f)=some r) (hr:runE r.em e=some e'):∃ res,UpdOK P G id (.field t x f) e e' σ s r res:=by
 have hw:=hev hS hG x;simp only[symOp] at h
 split at h
 · rename_i tf htf;have ht:=hT _ _ htf
   split at h
   · rename_i o ft hf
     split at h
     · rename_i t2 ht2;have ht2':=hT _ _ ht2
       split at h
       · rename_i hc;simp only[Bool.and_eq_true] at hc;have hfd:=ht.flds _ _ hf
         split at h
         · rename_i cs hx;rw[hx] at hw;obtain ⟨l,hl,hwl⟩:=qmo hw
           split at h
           · rename_i hagg
             split at h
             · rename_i hle;cases h;obtain rfl:=qrc hr;have h3:o+t2.sz≤l.length:=by rw[hwl.1,qx];exact Nat.le_of_ble_eq_true hle
               refine UpdOK.pure0 hS (av:=.agg ((l.drop o).take t2.sz)) ?_ ?_
               · simp only[execA,hfd,ht2'.ti,ht2'.tu,hc.1,hc.2,and_self,if_true,hl,ht2'.agg,hagg,ht2'.sz,h3];rfl
               · have:=(hwl.drop o).take t2.sz;rw[qwy] at this;exact .agg _ _ this.1 this.2
             · simp at h
           · rename_i hagg
             split at h
             · rename_i c hcc;cases h;obtain rfl:=qrc hr;obtain ⟨a,h1,h2⟩:=hwl.get (i:=o) (a0:=c.inst e (lnOf e σ.H)) (by rw[qmm,hcc];rfl)
               refine UpdOK.pure0 hS (av:=a) ?_ h2;simp only[execA,hfd,ht2'.ti,ht2'.tu,hc.1,hc.2,and_self,if_true,hl,ht2'.agg,show t2.agg=false by simpa using hagg,Bool.false_eq_true,if_false,h1];rfl
             · simp at h
         · simp at h
       · simp at h
     · simp at h
   · simp at h
 · simp at h
end
end
end Am

namespace Am
open Go
variable {P:Program} {G:Glob}
section
variable {T:Tab} {SG:SGlob} {σ:SS} {e e':Env} {s:Sta} {id:Nat}
theorem qeub (hS:Sat e σ s) {pl:List (Nat × Nat)}:∀ {parts:List (Nat × SV)} {ps:List (Nat × AV)} {cs0 cs:List SV} {l:List AV},parts.length=ps.length→
 (∀ (i:Nat) (p:Nat × SV) (q:Nat × AV),parts[i]? = some p→ps[i]? = some q→p.1=q.1∧Wk q.2 (p.2.inst e (lnOf e σ.H))∧p.2.ok e.length=true)→
 WkL l (SV.instL e (lnOf e σ.H) cs0)→sFill pl cs0 parts=some cs→∃ l',fillA (fun i=>pl[i]?) l ps=some l'∧WkL l' (SV.instL e (lnOf e σ.H) cs):=by
 intro parts
 induction parts with
 | nil=>
  intro ps cs0 cs l hl hp hw h;simp only[sFill] at h;cases h;have:ps=[]:=List.eq_nil_of_length_eq_zero (by simpa using hl.symm)
  subst this;exact ⟨l,rfl,hw⟩
 | cons p parts ih=>
  intro ps cs0 cs l hl hp hw h;cases ps with
  | nil=>simp at hl
  | cons q ps=>
   obtain ⟨i,v⟩:=p;obtain ⟨i',a⟩:=q;obtain ⟨h1,h2,h3⟩:=hp 0 _ _ rfl rfl;simp only at h1 h2 h3;subst h1;simp only[sFill] at h
   split at h
   · rename_i off size hpl
     split at h
     · rename_i hc;simp only[Bool.and_eq_true,beq_iff_eq] at hc;have hc1:=qxg h2 hc.2;have hc2:=qac hS.wf h3 h2 hc.2;have e1:a.cells.length=size:=by rw[hc1.1,qx];exact hc.1.1
       have e2:off+size≤l.length:=by rw[hw.1,qx];exact Nat.le_of_ble_eq_true hc.1.2
       obtain ⟨l',g1,g2⟩:=ih (ps:=ps) (cs0:=setAtS cs0 off v.cells) (cs:=cs) (l:=setAt l off a.cells) (by simpa using hl)
        (fun j p q hp' hq'=>hp (j+1) p q (by simpa using hp') (by simpa using hq')) (by rw[qbm];exact hw.setAt hc1 off) h
       refine ⟨l',?_,g2⟩;simp only[fillA,hpl,e1,e2,hc2,and_self,if_true];exact g1
     · simp at h
   · simp at h
theorem qbz:∀ {xs:List (List D)} {l:List UInt8},bytesD xs=some l→bytesA (xs.map (·.map .d))=some l:=by
 intro xs
 induction xs with
 | nil=>intro l h;simp[bytesD] at h;subst h;rfl
 | cons r xs ih=>
  intro l h;unfold bytesD at h
  split at h
  · rename_i hr;simp at hr
  · rename_i c rest hr;simp only[List.cons.injEq] at hr;obtain ⟨rfl,rfl⟩:=hr
    split at h
    · rename_i hc
      split at h
      · rename_i l' hl';simp only[Option.some.injEq] at h;subst h;simp only[List.map_cons,List.map_nil,bytesA,hc,and_self,if_true,ih hl']
      · simp at h
    · simp at h
  · simp at h
theorem qefb {a:D} {o:List D} (h:PO.eval .toS [a]=some o):∃ xs l,a = .sl xs∧bytesD xs=some l∧o=[.str l]:=by
 cases a<;>simp only[PO.eval,reduceCtorEq] at h
 simp only[Option.map_eq_some_iff] at h;obtain ⟨l,hl,rfl⟩:=h;exact ⟨_,l,rfl,hl,rfl⟩
theorem qtxb {a:D} {o:List D} (h:PO.eval .toB [a]=some o):∃ l,a = .str l∧o=[.sl (l.map fun c=>[.int .u8 c.toNat])]:=by
 cases a<;>simp only[PO.eval,reduceCtorEq] at h
 exact ⟨_,rfl,(Option.some.inj h).symm⟩
theorem qlj (hT:TOK P T) {t:Nat} {tf:TF} (ht:TFok P t tf) (h:isBytes T tf=true):(telem P t).bind (tint P)=some .u8:=by
 unfold isBytes at h
 split at h
 · rename_i e0 he
   split at h
   · rename_i te hte;simp only[Bool.and_eq_true,decide_eq_true_eq] at h;rw[ht.elem,he];simp only[Option.bind_some,(hT _ _ hte).int,h.1]
   · simp at h
 · simp at h
theorem qoi (hS:Sat e σ s) {b:Nat} {k:SB} (hk:getB σ.H b=some k):∃ x,s.H b=some x∧WkB x (k.inst e (lnOf e σ.H))∧x.rows.length=lnOf e σ.H b∧rowsOf s.H (.own b (lnOf e σ.H b) 0 (lnOf e σ.H b))=some (x.rows,[b]):=by
 obtain ⟨x,hb,hwb⟩:=hS.blk hk;have hl:x.rows.length=lnOf e σ.H b:=by rw[qk hk,← SB.rows_len e (lnOf e σ.H)];exact hwb.2.2.2.2.1
 refine ⟨x,hb,hwb,hl,?_⟩;simp only[rowsOf,hb,hl,Nat.zero_add,Nat.le_refl,and_self,if_true,List.drop_zero];rw[← hl,List.take_length]
theorem qufb:∀ {xs:List (List D)} {X:List (List AV)} {l:List UInt8},bytesD xs=some l→WkR X (xs.map (·.map .d))→X=xs.map (·.map .d):=by
 intro xs
 induction xs with
 | nil=>intro X l _ h;exact List.eq_nil_of_length_eq_zero (by simpa using h.1)
 | cons r xs ih=>
  intro X l hb h;cases X with
  | nil=>have:=h.1;simp at this
  | cons y X=>
   unfold bytesD at hb
   split at hb
   · rename_i hr;simp at hr
   · rename_i c rest hr;simp only[List.cons.injEq] at hr;obtain ⟨rfl,rfl⟩:=hr
     split at hb
     · split at hb
       · rename_i l' hl';have h0:WkL y [.d (.int .u8 c)]:=h.2 0 (by simp) (by simp)
         obtain ⟨a,y',rfl,h1,h2⟩:=h0.inv_cons;rw[h2.inv_nil,qxc h1]
         have ht:WkR X (xs.map (·.map .d)):=⟨by have:=h.1;simpa using this,fun i hi hi'=>h.2 (i+1) (by simpa using hi) (by simpa using hi')⟩
         rw[ih hl' ht];rfl
       · simp at hb
     · simp at hb
   · simp at hb
section
variable (hS:Sat e σ s) (hG:GOK G SG) (hT:TOK P T)
include hS hG hT
theorem qkpb {t:TypeId} {parts:Array (Nat × Operand)} {r:SR} (h:symOp T SG σ e.length id (.build t parts)=some r) (hr:runE r.em e=some e'):∃ res,UpdOK P G id (.build t parts) e e' σ s r res:=by
 simp only[symOp] at h
 split at h
 · rename_i tf htf;have ht:=hT _ _ htf
   split at h
   · rename_i z pl hz hpl
     split at h
     · rename_i cs0 hcs0
       split at h
       · rename_i cs hcs;cases h;obtain rfl:=qrc hr;have hv:ofVal z = .agg (SV.instL e (lnOf e σ.H) cs0):=by rw[← qng (e:=e) (ln:=lnOf e σ.H),hcs0];rfl
         obtain ⟨l',h1,h2⟩:=qeub hS (pl:=pl) (ps:=parts.toList.map fun p=>(p.1,evA G s.tm p.2)) (l:=SV.instL e (lnOf e σ.H) cs0) (by simp) (fun i p q hp hq=>by
          simp only[List.getElem?_map,Option.map_eq_some_iff] at hp hq;obtain ⟨x,hx,rfl⟩:=hp;obtain ⟨y,hy,rfl⟩:=hq;rw[hx] at hy;cases hy;exact ⟨rfl,hev hS hG x.2,hok hS hG x.2⟩) (.refl _) hcs
         refine UpdOK.pure0 hS (av:=.agg l') ?_ (.agg _ _ h2.1 h2.2);simp only[execA,ht.zero,hz,ht.place pl hpl,hv,h1];rfl
       · simp at h
     · simp at h
   · simp at h
 · simp at h
theorem qfbb {t t':TypeId} {x:Operand} {r:SR} (h:symOp T SG σ e.length id (.convert t t' x)=some r) (hr:runE r.em e=some e'):∃ res,UpdOK P G id (.convert t t' x) e e' σ s r res:=by
 have hw:=hev hS hG x;simp only[symOp] at h
 split at h
 · rename_i ts tt hts htt;have h1:=hT _ _ hts;have h2:=hT _ _ htt
   split at h
   · rename_i htu
     split at h
     · rename_i p hp;rw[hp] at hw
       split at h
       · rename_i k hk;cases h;obtain ⟨o,ho,rfl⟩:=qcc hr;simp only[List.map_cons,List.map_nil] at ho;obtain ⟨k',n,h3,rfl⟩:=qsob ho;simp only[SV.inst,h3] at hw;refine UpdOK.pure hS (av:=.d (.int k (k.wrap n))) ?_ (by simp only[SV.inst,qr];exact .refl _)
         simp only[execA,qxc hw,h2.int,hk,h1.tu,htu,if_true];rfl
       · rename_i hk
         split at h
         · rename_i hs
           split at h
           · cases h;obtain ⟨o,ho,rfl⟩:=qcc hr;simp only[List.map_cons,List.map_nil] at ho;obtain ⟨l,h3,rfl⟩:=qllb ho;simp only[SV.inst,h3] at hw;refine UpdOK.pure hS (av:=.d (.str l)) ?_ (by simp only[SV.inst,qr];exact .refl _)
             simp only[execA,qjm hw,h2.int,hk,h2.str,hs,h1.tu,htu,if_true];rfl
           · split at h
             · rename_i hby;cases h;obtain ⟨o,ho,rfl⟩:=qcc hr;simp only[List.map_cons,List.map_nil] at ho;obtain ⟨xs,l,h3,h4,rfl⟩:=qefb ho;simp only[SV.inst,h3] at hw;refine UpdOK.pure hS (av:=.d (.str l)) ?_ (by simp only[SV.inst,qr];exact .refl _)
               simp only[execA,qzcb hw,h2.int,hk,h2.str,hs,qlj hT h1 hby,if_true,rowsOf,qbz h4]
             · simp at h
         · rename_i hns
           split at h
           · rename_i hcb;simp only[Bool.and_eq_true] at hcb
             split at h
             · rename_i e0 he0;cases h;obtain ⟨o,ho,rfl⟩:=qcc hr;simp only[List.map_cons,List.map_nil] at ho;obtain ⟨l,h3,rfl⟩:=qtxb ho;simp only[SV.inst,h3] at hw;have hby:=qlj hT h2 hcb.2;rw[h2.elem,he0,Option.bind_some] at hby;have hdv:(SA.v e.length).val (e++[D.sl (l.map fun c=>[.int .u8 c.toNat])]) = .sl (l.map fun c=>[.int .u8 c.toNat]):=qr e _ []
               refine UpdOK.one hS (av:=.own id l.length 0 l.length) (blk:={ fz:=false,ap:=false,ty:=e0,sz:=1,rows:=l.map fun c=>[.d (.int .u8 c.toNat)] }) ?_
                (ln:=fun x=>if x=id then l.length else lnOf e σ.H x) ?_ ?_ ⟨rfl,rfl,rfl,rfl,?_⟩ (by simp[inL]) ⟨_,hdv⟩
               · simp only[execA,qjm hw,h2.int,hk,h2.str,hns,h1.tu,htu,h1.str,hcb.1,h2.elem,he0,hby,and_self,if_true]
               · funext x
                 rw[qdc (k:={ fz:=false,ap:=false,ty:=e0,sz:=1,d:=.v e.length,tl:=[] }) rfl hdv,List.length_map]
               · simp only[SV.inst,if_true];exact .refl _
               · show WkR _ (SB.rows _ _ _)
                 rw[qrb (k:={ fz:=false,ap:=false,ty:=e0,sz:=1,d:=.v e.length,tl:=[] }) rfl hdv];simp only[List.map_map];exact .refl _
             · simp at h
           · simp at h
     · rename_i b hp;rw[hp] at hw
       split at h
       · rename_i k hk
         split at h
         · rename_i hc;simp only[Bool.and_eq_true,Option.isNone_iff_eq_none] at hc;cases h;obtain ⟨o,ho,rfl⟩:=qcc hr;simp only[List.map_cons,List.map_nil] at ho;obtain ⟨xs,l,h3,h4,rfl⟩:=qefb ho;obtain ⟨blk,hb1,hwb,hl,hro⟩:=qoi hS hk
           have hrows:(k.inst e (lnOf e σ.H)).rows=xs.map (·.map .d):=qrb hc.2 h3;have hR:=hwb.2.2.2.2;rw[hrows] at hR;rw[qufb h4 hR] at hro;refine UpdOK.pure hS (av:=.d (.str l)) ?_ (by simp only[SV.inst,qr];exact .refl _)
           simp only[execA,qti hw,h2.int,hc.1.1.1,h2.str,hc.1.1.2,qlj hT h1 hc.1.2,if_true,hro,qbz h4]
         · simp at h
       · simp at h
     · simp at h
   · simp at h
 · simp at h
theorem qenb {lo:Option Operand} {l:SA} {k:IntKind} {n:Int} (h:sLo (sev SG σ) lo=some l) (hv:l.val e = .int k n):∃ k',(lo.map (evA G s.tm)).getD (.d (.int .i64 0)) = .d (.int k' n):=by
 cases lo with
 | none=>simp only[sLo] at h;cases h;simp only[SA.val] at hv;cases hv;exact ⟨.i64,rfl⟩
 | some x=>
  simp only[sLo] at h;have hw:=hev hS hG x;unfold SV.atom at h
  split at h
  · rename_i q hq;cases h;rw[hq] at hw;simp only[SV.inst,hv] at hw;exact ⟨k,by simp only[Option.map_some,Option.getD_some];exact qxc hw⟩
  · simp at h
theorem qpac {x:Operand} {h0:SA} {k:IntKind} {n:Int} (h:(sev SG σ x).atom=some h0) (hv:h0.val e = .int k n):evA G s.tm x = .d (.int k n):=by
 have hw:=hev hS hG x;unfold SV.atom at h
 split at h
 · rename_i q hq;cases h;rw[hq] at hw;simp only[SV.inst,hv] at hw;exact qxc hw
 · simp at h
theorem qanb {t:TypeId} {x:Operand} {lo hi mx:Option Operand} {r:SR} (h:symOp T SG σ e.length id (.slice t x lo hi mx)=some r) (hok:okEm e.length r.em=true) (hr:runE r.em e=some e'):∃ res,UpdOK P G id (.slice t x lo hi mx) e e' σ s r res:=by
 cases mx with
 | some _=>simp[symOp] at h
 | none=>
 have hw:=hev hS hG x;simp only[symOp] at h
 split at h
 · rename_i tf q htf hq;rw[hq] at hw;have ht:=hT _ _ htf
   split at h
   · rename_i l hl
     split at h
     · rename_i hs
       split at h
       · cases h;obtain ⟨o,o',ho,ho',rfl⟩:=qqpb hr;simp only[List.map_cons,List.map_nil] at ho ho';obtain ⟨str,h1,rfl⟩:=qgz ho;simp only[okEm,PO.okP,List.all_cons,List.all_nil,Bool.and_true,Bool.true_and,Bool.and_eq_true] at hok;rw[SA.val_ext _ hok.1,qr] at ho';obtain ⟨str',k,n,k',n',h2,h3,h4,h5,rfl⟩:=qix ho';rw[h1] at h2;cases h2;cases h4;simp only[SV.inst,h1] at hw
         have hl0:l.val e = .int k n:=by
          cases lo with
          | none=>simp only[sLo] at hl;cases hl;exact h3
          | some y=>
           have hly:l.ok e.length=true:=by
            have hyk:=hok.2.2.1;cases l with
            | v z=>
             simp only[sLo] at hl;have:=Am.hok hS hG y;unfold SV.atom at hl
             split at hl
             · rename_i q' hq';cases hl;rw[hq'] at this;exact this
             · simp at hl
            | c d=>exact hyk
           rw[← SA.val_ext _ hly];exact h3
         obtain ⟨k0,hlo⟩:=qenb hS hG hT hl hl0;refine UpdOK.pure hS (av:=.d (.str ((str.take (str.length:Int).toNat).drop n.toNat))) ?_ ?_
         · simp only[execA,qjm hw,ht.str,hs,if_true,hlo,Option.map_none,Option.getD_none];rw[if_pos h5];rfl
         · simp only[SV.inst];have:(SA.v (e.length+1)).val (e++([D.int .i64 str.length]++[D.str ((str.take (str.length:Int).toNat).drop n.toNat)]))=D.str ((str.take (str.length:Int).toNat).drop n.toNat):=by simp[SA.val]
           rw[this];exact .refl _
       · rename_i hh
         split at h
         · rename_i h0 hh0;cases h;obtain ⟨o,ho,rfl⟩:=qcc hr;simp only[List.map_cons,List.map_nil] at ho;obtain ⟨str,k,n,k',n',h1,h2,h3,h4,rfl⟩:=qix ho;simp only[SV.inst,h1] at hw;obtain ⟨k0,hlo⟩:=qenb hS hG hT hl h2;have hhi:=qpac hS hG hT hh0 h3;refine UpdOK.pure hS (av:=.d (.str ((str.take n'.toNat).drop n.toNat))) ?_ (by simp only[SV.inst,qr];exact .refl _)
           simp only[execA,qjm hw,ht.str,hs,if_true,hlo,Option.map_some,Option.getD_some,hhi];rw[if_pos h4];rfl
         · simp at h
     · split at h
       · rename_i e0 he0
         split at h
         · rename_i te hte;have hte':=hT _ _ hte
           split at h
           · rename_i hc;simp only[Bool.and_eq_true,qdh] at hc;have hcond:tin P e0=true∧0<tsz P e0:=⟨by rw[hte'.ti];exact hc.1,by rw[hte'.sz];exact hc.2⟩
             split at h
             · cases h;obtain ⟨o,o',ho,ho',rfl⟩:=qqpb hr;simp only[List.map_cons,List.map_nil] at ho ho';obtain ⟨xs,h1,rfl⟩:=qxo ho;simp only[okEm,PO.okP,List.all_cons,List.all_nil,Bool.and_true,Bool.true_and,Bool.and_eq_true] at hok;rw[SA.val_ext _ hok.1,qr] at ho';obtain ⟨xs',k,n,k',n',h2,h3,h4,h5,rfl⟩:=qmy ho';rw[h1] at h2;cases h2;cases h4;simp only[SV.inst,h1] at hw
               have hl0:l.val e = .int k n:=by
                cases lo with
                | none=>simp only[sLo] at hl;cases hl;exact h3
                | some y=>
                 have hly:l.ok e.length=true:=by
                  have hyk:=hok.2.2.1;cases l with
                  | v z=>
                   simp only[sLo] at hl;have:=Am.hok hS hG y;unfold SV.atom at hl
                   split at hl
                   · rename_i q' hq';cases hl;rw[hq'] at this;exact this
                   · simp at hl
                  | c d=>exact hyk
                 rw[← SA.val_ext _ hly];exact h3
               obtain ⟨k0,hlo⟩:=qenb hS hG hT hl hl0;refine UpdOK.pure hS (av:=.d (.sl ((xs.take (xs.length:Int).toNat).drop n.toNat))) ?_ ?_
               · simp only[execA,qzcb hw,ht.elem,he0];rw[if_pos hcond];simp only[hlo,Option.map_none,Option.getD_none,hte'.sz];rw[if_pos h5];rfl
               · simp only[SV.inst];have:(SA.v (e.length+1)).val (e++([D.int .i64 xs.length]++[D.sl ((xs.take (xs.length:Int).toNat).drop n.toNat)]))=D.sl ((xs.take (xs.length:Int).toNat).drop n.toNat):=by simp[SA.val]
                 rw[this];exact .refl _
             · split at h
               · rename_i h0 hh0;cases h;obtain ⟨o,ho,rfl⟩:=qcc hr;simp only[List.map_cons,List.map_nil] at ho;obtain ⟨xs,k,n,k',n',h1,h2,h3,h4,rfl⟩:=qmy ho;simp only[SV.inst,h1] at hw;obtain ⟨k0,hlo⟩:=qenb hS hG hT hl h2;have hhi:=qpac hS hG hT hh0 h3;refine UpdOK.pure hS (av:=.d (.sl ((xs.take n'.toNat).drop n.toNat))) ?_ (by simp only[SV.inst,qr];exact .refl _)
                 simp only[execA,qzcb hw,ht.elem,he0];rw[if_pos hcond];simp only[hlo,Option.map_some,Option.getD_some,hhi,hte'.sz];rw[if_pos h4];rfl
               · simp at h
           · simp at h
         · simp at h
       · simp at h
   · simp at h
 · simp at h
end
end
end Am

namespace Am
open Go
variable {P:Program} {G:Glob}
section
variable {T:Tab} {SG:SGlob} {σ:SS} {e e':Env} {s:Sta} {id:Nat}
theorem D.beq_eq {a b:D} (h:a.beq b=true):a=b:=by
 unfold D.beq at h
 split at h<;>simp_all
theorem SA.beq_eq {a b:SA} (h:a.beq b=true):a=b:=by
 cases a with
 | v x=>cases b with
  | v y=>simp only[SA.beq,beq_iff_eq] at h;rw[h]
  | c d=>simp[SA.beq] at h
 | c d=>cases b with
  | v y=>simp[SA.beq] at h
  | c d'=>simp only[SA.beq] at h;rw[D.beq_eq h]
theorem qsj (sz:Nat):∀ (n:Nat) (l:List D),(chunks sz n l).length=n:=by
 intro n
 induction n with
 | zero=>intro l;rfl
 | succ n ih=>intro l;simp[chunks,ih]
theorem qdv {sz:Nat}:∀ {rows:List (List AV)} {l:List D},(∀ r∈rows,r.length=sz)→rows.flatten=l.map .d→(chunks sz rows.length l).map (·.map AV.d)=rows:=by
 intro rows
 induction rows with
 | nil=>intro l _ _;rfl
 | cons r rows ih=>
  intro l hs hl;have hr:=hs r (by simp)
  simp only[List.flatten_cons] at hl
  have h1:(l.take sz).map AV.d=r:=by
   rw[List.map_take,← hl,← hr,List.take_left' rfl]
  have h2:rows.flatten=(l.drop sz).map AV.d:=by
   rw[List.map_drop,← hl,← hr,List.drop_left' rfl]
  simp only[List.length_cons,chunks,List.map_cons,h1];rw[ih (fun r hr=>hs r (by simp[hr])) h2]
theorem qyq {ln:Nat→Nat} (rows:List (List SV)):(rows.map (SV.instL e ln)).flatten=SV.instL e ln rows.flatten:=by
 induction rows with
 | nil=>rfl
 | cons r rows ih=>simp only[List.map_cons,List.flatten_cons,ih,SV.instL_map,List.map_append]
theorem qshb {ln:Nat→Nat} {rows:List (List SV)} {X:List (List AV)} {as:List SA} {sz:Nat} (h:WkR X (rows.map (SV.instL e ln))) (ha:atoms rows.flatten=some as) (hs:∀ r∈rows,r.length=sz) :
 WkR X ((chunks sz rows.length (as.map (·.val e))).map (·.map .d)):=by
 have h1:(rows.map (SV.instL e ln)).flatten=(as.map (·.val e)).map .d:=by rw[qyq,qwi ha,qcd]
 have h2:=qdv (sz:=sz) (rows:=rows.map (SV.instL e ln)) (by
  intro r hr;obtain ⟨r',hr',rfl⟩:=List.mem_map.1 hr;rw[qx];exact hs r' hr') h1
 rw[List.length_map] at h2;rw[h2];exact h
section
variable (hS:Sat e σ s) (hG:GOK G SG) (hT:TOK P T)
include hS
theorem qrz {op:Op} {e0:Nat} {te:TF} {rows:List (List SV)} {X:List (List AV)} {rb:List Nat}
 (hX:WkR X (rows.map (SV.instL e (lnOf e σ.H)))) (hsz:∀ r∈rows,r.length=te.sz) (hid:∀ r∈rows,SV.hasL (· == id) r=false)
 (hex:execA P id (evA G s.tm) s.H op=some { v:=.own id X.length 0 X.length,hs:=[(id,{ fz:=false,ap:=true,ty:=e0,sz:=te.sz,rows:=X })],rb })
 (hr:runE (sRows e.length id e0 te rows).em e=some e'):∃ res,UpdOK P G id op e e' σ s { sRows e.length id e0 te rows with rb } res:=by
 unfold sRows at hr ⊢
 split at hr
 · obtain rfl:=qrc hr;have hX0:X=[]:=List.eq_nil_of_length_eq_zero (by simpa using hX.1)
   subst hX0;refine UpdOK.one0 hS hex (ln:=fun x=>if x=id then 0 else lnOf e σ.H x) ?_ ?_ ⟨rfl,rfl,rfl,rfl,?_⟩ (by simp[inL]) ⟨[],rfl⟩
   · funext x;simp[SB.len,lit0,SA.val,D.rows]
   · simp only[SV.inst,if_true];exact .refl _
   · simp only[SB.inst,SB.rows,lit0,SA.val,D.rows];exact .refl _
 · split at hr
   · rename_i as has;obtain ⟨o,ho,rfl⟩:=qcc hr;obtain ⟨h1,rfl⟩:=qdz ho;have hm:=qshb hX has hsz;have hlen:X.length=rows.length:=by have:=hX.1;simpa using this
     have hd:(SA.v e.length).val (e++[D.sl (chunks te.sz rows.length (as.map (·.val e)))]) = .sl (chunks te.sz rows.length (as.map (·.val e))):=qr e _ [];refine UpdOK.one hS hex (ln:=fun x=>if x=id then X.length else lnOf e σ.H x) ?_ ?_ ⟨rfl,rfl,rfl,rfl,?_⟩ (by simp[inL]) ⟨_,hd⟩
     · funext x
       rw[qdc (k:={ fz:=false,ap:=true,ty:=e0,sz:=te.sz,d:=.v e.length,tl:=[] }) rfl hd,qsj,hlen]
     · simp only[SV.inst,if_true];exact .refl _
     · show WkR X (SB.rows _ _ _)
       rw[qrb (k:={ fz:=false,ap:=true,ty:=e0,sz:=te.sz,d:=.v e.length,tl:=[] }) rfl hd];exact hm
   · obtain rfl:=qrc hr;have hlen:X.length=rows.length:=by have:=hX.1;simpa using this
     refine UpdOK.one0 hS hex (ln:=fun x=>if x=id then X.length else lnOf e σ.H x) ?_ ?_ ⟨rfl,rfl,rfl,rfl,?_⟩ (by simp[inL]) ⟨[],rfl⟩
     · funext x;simp[SB.len,lit0,SA.val,D.rows,hlen]
     · simp only[SV.inst,if_true];exact .refl _
     · show WkR X (SB.rows _ _ _)
       rw[qwd (k:={ fz:=false,ap:=true,ty:=e0,sz:=te.sz,d:=lit0,tl:=rows }) rfl]
       have:rows.map (SV.instL e (lnOf e σ.H))=rows.map (SV.instL e fun x=>if x=id then X.length else lnOf e σ.H x):=
        List.map_congr_left fun r hr=>qlm _ (hid r hr)
       rw[← this];exact hX
include hG hT
theorem qbs {t:TypeId} {x ix:Operand} {r:SR} (h:symOp T SG σ e.length id (.indexAddr t x ix)=some r) (hr:runE r.em e=some e'):∃ res,UpdOK P G id (.indexAddr t x ix) e e' σ s r res:=by
 have hw:=hev hS hG x;have hi:=hev hS hG ix;simp only[symOp] at h
 split at h
 · rename_i tf p htf hp;rw[hp] at hi;have ht:=hT _ _ htf
   split at h
   · rename_i e0 he0;have hte0:telem P t=some e0:=ht.elem.trans he0
     split at h
     · rename_i te hte;have hte':=hT _ _ hte
       split at h
       · rename_i hti;have htin:tin P e0=true:=hte'.ti.trans hti
         split at h
         · rename_i b hx;rw[hx] at hw
           split at h
           · rename_i k hk;obtain ⟨blk,hb,hwb,hl,_⟩:=qoi hS hk
             split at h
             · rename_i hsz;have hbsz:blk.sz=tsz P e0:=by rw[hte'.sz];exact hwb.2.2.2.1.trans (show k.sz=te.sz by simpa using hsz)
               split at h
               · rename_i hn;simp only[Bool.and_eq_true,Bool.not_eq_true'] at hn
                 split at h
                 · rename_i kd n
                   split at h
                   · rename_i hb0;simp only[Bool.and_eq_true,decide_eq_true_eq] at hb0;cases h;obtain rfl:=qrc hr;simp only[SV.inst,SA.val] at hi;have hlt:n<(lnOf e σ.H b:Nat):=by rw[qk hk,qfe hn.1];exact hb0.2
                     refine UpdOK.pure0 hS (av:=.ptr b (lnOf e σ.H b) n.toNat 0) ?_ (.refl _);simp only[execA,qxc hi,hte0,htin,if_true,qti hw,hb,hl,hbsz,hb0.1,hlt,and_self,Nat.zero_add]
                   · simp at h
                 · simp at h
               · split at h
                 · rename_i htl;cases h;obtain ⟨o,ho,rfl⟩:=qcc hr;simp only[List.map_cons,List.map_nil] at ho;obtain ⟨xs,kd,n,h1,h2,h3,rfl⟩:=qcvb ho;simp only[SV.inst,h2] at hi;have hlt:n<(lnOf e σ.H b:Nat):=by rw[qk hk,qdc htl h1];exact h3.2
                   refine UpdOK.pure hS (av:=.ptr b (lnOf e σ.H b) n.toNat 0) ?_ ?_
                   · simp only[execA,qxc hi,hte0,htin,if_true,qti hw,hb,hl,hbsz,h3.1,hlt,and_self,Nat.zero_add]
                   · simp only[SV.inst,List.append_nil,h2,D.num];exact .refl _
                 · simp at h
             · simp at h
           · simp at h
         · rename_i q hx;rw[hx] at hw;cases h;obtain ⟨o,ho,rfl⟩:=qcc hr;simp only[List.map_cons,List.map_nil] at ho;obtain ⟨xs,kd,n,h1,h2,h3,h4,h5⟩:=qevb ho;simp only[SV.inst,h2] at hi;simp only[SV.inst,h1] at hw;refine UpdOK.pure hS (av:=.eptr o) ?_ ?_
           · simp only[execA,qxc hi,hte0,htin,if_true,qzcb hw,h3,h4,hte'.sz,h5];rfl
           · simp only[SV.inst];have:=qhm e o [] e.length rfl;rw[List.append_nil,h5] at this;rw[this];exact .refl _
         · simp at h
       · simp at h
     · simp at h
   · rename_i he0;have hte0:telem P t=none:=ht.elem.trans he0
     split at h
     · rename_i len e0 ha;have htarr:tarr P t=some (len,e0):=ht.arr.trans ha
       split at h
       · rename_i te kd n hte;have hte':=hT _ _ hte;simp only[SV.inst,SA.val] at hi
         split at h
         · rename_i hc;simp only[Bool.and_eq_true,decide_eq_true_eq] at hc;have htin:tin P e0=true:=hte'.ti.trans hc.1.1
           split at h
           · rename_i b i j hx;rw[hx] at hw
             split at h
             · rename_i k hk;cases h;obtain rfl:=qrc hr;obtain ⟨blk,hb,hwb,hl,_⟩:=qoi hS hk;refine UpdOK.pure0 hS (av:=.ptr b (lnOf e σ.H b) i (j+n.toNat*te.sz)) ?_ (.refl _);simp only[execA,qxc hi,hte0,htarr,htin,hc.1.2,hc.2,and_self,if_true,qqd hw,hb,hl,hte'.sz]
             · simp at h
           · rename_i cs hx;rw[hx] at hw;cases h;obtain rfl:=qrc hr
             refine UpdOK.pure0 hS (av:=.eptr ((cs.map (·.val e)).drop (n.toNat*te.sz))) ?_ ?_
             · simp only[execA,qxc hi,hte0,htarr,htin,hc.1.2,hc.2,and_self,if_true,qkh hw,hte'.sz];rfl
             · simp only[SV.inst,List.map_drop];exact .refl _
           · simp at h
         · simp at h
       · simp at h
     · simp at h
 · simp at h
theorem qvob {t:TypeId} {x ix:Operand} {r:SR} (h:symOp T SG σ e.length id (.index t x ix)=some r) (hr:runE r.em e=some e'):∃ res,UpdOK P G id (.index t x ix) e e' σ s r res:=by
 have hw:=hev hS hG x;have hi:=hev hS hG ix;simp only[symOp] at h
 split at h
 · rename_i tf p htf hp;rw[hp] at hi;have ht:=hT _ _ htf
   split at h
   · rename_i q hx;rw[hx] at hw
     split at h
     · rename_i hs;cases h;obtain ⟨o,ho,rfl⟩:=qcc hr;simp only[List.map_cons,List.map_nil] at ho;obtain ⟨l,kd,n,c,h1,h2,h3,h4,rfl⟩:=qrnb ho;simp only[SV.inst,h2] at hi;simp only[SV.inst,h1] at hw;refine UpdOK.pure hS (av:=.d (.int .u8 c.toNat)) ?_ (by simp only[SV.inst,qr];exact .refl _)
       simp only[execA,qxc hi,qjm hw,ht.str,hs,h3,and_self,if_true,h4];rfl
     · simp at h
   · rename_i cs hx;rw[hx] at hw;obtain ⟨l,hl,hwl⟩:=qmo hw
     split at h
     · rename_i len e0 ha
       split at h
       · rename_i te hte;have hte':=hT _ _ hte
         split at h
         · rename_i hc;simp only[Bool.and_eq_true,Bool.not_eq_true',beq_iff_eq] at hc
           split at h
           · rename_i as has;cases h;obtain ⟨o,ho,rfl⟩:=qcc hr;simp only[List.map_cons] at ho;obtain ⟨kd,n,c,h1,h2,h3,rfl⟩:=qcyb ho;simp only[SV.inst,h1] at hi;rw[qwi has,qcd] at hwl;obtain ⟨a,h4,h5⟩:=hwl.get (i:=n.toNat) (a0:=.d c) (by rw[List.getElem?_map,h3];rfl)
             refine UpdOK.pure hS (av:=a) ?_ (by simp only[SV.inst,qr];exact h5)
             have htarr:tarr P t=some (len,e0):=ht.arr.trans ha;simp only[execA,qxc hi,hl,htarr,hte'.ti,hte'.tu,hte'.agg,hte'.sz,hc.1.1.1.1,hc.1.1.1.2,hc.1.1.2,hc.1.2,h2.1,h2.2,and_self,if_true,h4];rfl
           · simp at h
         · simp at h
       · simp at h
     · simp at h
   · simp at h
 · simp at h
theorem qzo {t:TypeId} {len:Nat} {parts:Array (Nat × Operand)} {r:SR} (h:symOp T SG σ e.length id (.buildSlice t len parts)=some r) (hr:runE r.em e=some e'):∃ res,UpdOK P G id (.buildSlice t len parts) e e' σ s r res:=by
 simp only[symOp] at h
 split at h
 · rename_i tf htf;have ht:=hT _ _ htf
   split at h
   · rename_i e0 he0
     split at h
     · rename_i te hte;have hte':=hT _ _ hte
       split at h
       · rename_i z hz
         split at h
         · rename_i hc;simp only[Bool.and_eq_true,beq_iff_eq,qdh,decide_eq_true_eq,List.all_eq_true,Bool.not_eq_true'] at hc;obtain ⟨⟨⟨⟨⟨c1,c2⟩,c3⟩,c4⟩,c5⟩,c6⟩:=hc;have h':=Option.some.inj h;subst h'
           have hone:∀ p∈parts.toList,WkL (evA G s.tm p.2).cells (SV.instL e (lnOf e σ.H) (sev SG σ p.2).cells)∧(evA G s.tm p.2).cells.all AV.one=true:=fun p hp=>
            ⟨qxg (hev hS hG p.2) (List.all_eq_true.2 (c6 p hp).1.2),qac hS.wf (hok hS hG p.2) (hev hS hG p.2) (List.all_eq_true.2 (c6 p hp).1.2)⟩
           have hX:WkR (parts.toList.map fun p=>(evA G s.tm p.2).cells) ((parts.toList.map fun p=>(sev SG σ p.2).cells).map (SV.instL e (lnOf e σ.H))):=by
            refine ⟨by simp,fun i h1 h2=>?_⟩
            simp only[List.getElem_map];exact (hone _ (List.getElem_mem _)).1
           have hl:parts.toList.length=len:=by
            have:=congrArg List.length c5
            simpa using this
           have:=qrz (P:=P) (G:=G) (id:=id) (rb:=[]) (op:=.buildSlice t len parts) (e0:=e0) (te:=te) hS hX (by
            intro r hr;obtain ⟨p,hp,rfl⟩:=List.mem_map.1 hr;exact (c6 p hp).1.1) (by
            intro r hr;obtain ⟨p,hp,rfl⟩:=List.mem_map.1 hr;exact (c6 p hp).2) (by
            have hle:len*tsz P e0≤16777216:=by rw[hte'.sz];exact Nat.le_of_ble_eq_true c4
            have hall:parts.all (fun p=>(evA G s.tm p.2).cells.length == tsz P e0&&(evA G s.tm p.2).cells.all AV.one)=true:=by
             rw[← Array.all_toList,List.all_eq_true];intro p hp;simp only[Bool.and_eq_true,beq_iff_eq];refine ⟨?_,(hone p hp).2⟩;rw[(hone p hp).1.1,qx,hte'.sz];exact (c6 p hp).1.1
            simp only[execA,ht.elem,he0,hte'.zero,hz];rw[if_pos ⟨hte'.ti.trans c1,by rw[hte'.sz];exact c2,by rw[hte'.sz];exact c3,hle,c5,hall⟩]
            simp[hl,hte'.sz]) hr
           have e1:({ sRows e.length id e0 te (parts.toList.map fun p=>(sev SG σ p.2).cells) with rb:=[] }:SR)=sRows e.length id e0 te (parts.toList.map fun p=>(sev SG σ p.2).cells):=by
            unfold sRows
            split
            · rfl
            · split<;>rfl
           rw[e1] at this;exact this
         · simp at h
       · simp at h
     · simp at h
   · simp at h
 · simp at h
end
end
end Am
