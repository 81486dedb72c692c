/- Lemmas. -/
import Derived.Test.YtefjlhhicgepfaaGreatDoorSe6
set_option linter.unusedSimpArgs false
set_option linter.unusedVariables false
set_option linter.unusedSectionVars false
open List (all_eq_true getD_eq_getElem?_getD getElem?_eq_getElem getElem?_eq_none getElem_mem length_map map_congr_left map_cons map_map mem_map mem_range range)
open Bool (and_eq_true)
namespace Am
open Go
variable {P:Program}{G:bl}
section
variable {σ σ1:SS}{e e':Env}{s:Sta}{kk id:Nat}
def jh(P:Program)(G:bl)(R:PF)(sg:Sig):Prop:=∀ ins outs,EWF ins→ins.length=sg.nin→(∀ k∈sg.Hin,∃ xs,k.d.val ins = .sl xs)→R ins=some outs→outs.length=sg.nout→
 EWF outs∧CC P G sg.f (hIn ins sg.Hin) (SV.instL ins (lnL ins sg.Hin) sg.args) (hIn outs sg.Hout) (sg.res.inst outs (lnL outs sg.Hout))∧∀ i,inL sg.kp i=true→lnL outs sg.Hout i=lnL ins sg.Hin i
theorem Sat.pinD(hS:Sat e σ s)(ps:List Nat):Sat e (σ.pin ps) { s with H:=dl ps s.H }:=by
 have hl:ae e (σ.pin ps).H=ae e σ.H:=funext fun b=>qci (inL ps) σ.H b
 have hg:∀ b k,am (σ.pin ps).H b=some k→∃ k0,am σ.H b=some k0∧k.d=k0.d∧k.tl=k0.tl:=by
  intro b k hk;simp only[SS.pin] at hk;rw[qxd] at hk;simp only[Option.map_eq_some_iff] at hk;obtain ⟨k0,h1,rfl⟩:=hk;exact ⟨k0,h1,rfl,rfl⟩
 refine ⟨hS.wf,hS.tm,fun b k hk=>?_,fun b k hk=>?_,⟨hS.wk.n,hS.wk.nx,fun t=>?_,fun b=>?_⟩⟩
 · obtain ⟨k0,h1,h2,h3⟩:=hg b k hk;have:=hS.H b k0 h1;simp only[SB.ok,h2,h3] at this ⊢;exact this
 · obtain ⟨k0,h1,h2,h3⟩:=hg b k hk;rw[h2];exact hS.sl b k0 h1
 · show Wk (s.tm t) ((bo σ.tm t).inst e (ae e (σ.pin ps).H))
   rw[hl];exact hS.get t
 · show WkO (dl ps s.H b) ((am (σ.pin ps).H b).map (·.inst e (ae e (σ.pin ps).H)))
   rw[hl]
   have h0:(am (σ.pin ps).H b).map (·.inst e (ae e σ.H))=dl ps (fun b=>(am σ.H b).map (·.inst e (ae e σ.H))) b:=(qjz ps (ae e σ.H) b).symm
   rw[h0];have:=hS.wk.H b;simp only[SS.inst] at this;unfold dl
   dsimp only
   split
   · cases hx:s.H b with
     | none=>rw[hx] at this;revert this;cases (am σ.H b)<;>exact fun h=>h
     | some x=>
      rw[hx] at this;cases hk:am σ.H b with
      | none=>rw[hk] at this;exact this.elim
      | some k=>
       rw[hk] at this;obtain ⟨h1,h2,h3,h4,h5⟩:WkB x (k.inst e (ae e σ.H)):=this;exact ⟨rfl,h2,h3,h4,h5⟩
   · exact this
theorem a1l{outs:Env}(h:outs.all D.scal=true)(x:Nat):((SA.v x).val outs).scal=true:=by
 simp only[SA.val,getD_eq_getElem?_getD]
 by_cases hx:x<outs.length
 · rw[getElem?_eq_getElem hx];exact List.all_eq_true.1 h _ (getElem_mem hx)
 · rw[getElem?_eq_none (by omega)];rfl
theorem qxo{outs:Env}(h:outs.all D.scal=true){ln:Nat→Nat}{v:SV}(hv:aa6 v=true):(v.inst outs ln).scal=true:=by
 unfold aa6 at hv
 split at hv
 · exact a1l h _
 · simp at hv
theorem qep{outs:Env}(h:outs.all D.scal=true){ln:Nat→Nat}{v:SV}(hv:aa0 v=true):(v.inst outs ln).scal=true:=by
 unfold aa0 at hv
 split at hv
 · rename_i cs;simp only[SV.inst,AV.scal,qsl,SV.instL_map,all_eq_true];intro a ha;obtain ⟨c,hc,rfl⟩:=List.mem_map.1 ha;exact qxo h (List.all_eq_true.1 hv c hc)
 · exact qxo h hv
theorem ap8{outs:Env}(h:outs.all D.scal=true){ln:Nat→Nat}{v:SV}(hv:v.flat=true):(v.inst outs ln).scal=true:=by
 unfold SV.flat at hv
 split at hv
 · rename_i cs;simp only[SV.inst,AV.scal,qsl,SV.instL_map,all_eq_true];intro a ha;obtain ⟨c,hc,rfl⟩:=List.mem_map.1 ha;exact qep h (List.all_eq_true.1 hv c hc)
 · exact qep h hv
theorem aqx{H:List (Option SB)}{m f:Nat}{fk:List SV}:∀ {l:List Sig} {k i:Nat} {sg:Sig} {c:SC},l9 H id m f fk k l=some (i,sg,c)→∃ j,i=k+j∧l[j]? = some sg∧sg.f=f∧tn sg H id m fk=some c:=by
 intro l
 induction l with
 | nil=>intro k i sg c h;simp[l9] at h
 | cons s0 l ih=>
  intro k i sg c h;simp only[l9] at h
  have again:l9 H id m f fk (k+1) l=some (i,sg,c)→∃ j,i=k+j∧(s0::l)[j]? = some sg∧sg.f=f∧tn sg H id m fk=some c:=by
   intro h;obtain ⟨j,h1,h2,h3,h4⟩:=ih h;exact ⟨j+1,by omega,by simpa using h2,h3,h4⟩
  split at h
  · rename_i hf
    split at h
    · rename_i c' hc';cases h;exact ⟨0,rfl,rfl,by simpa using hf,hc'⟩
    · exact again h
  · exact again h
theorem ax7(hS:Sat e σ s){A:List SA}{B:Nat→Nat}:∀ {ps qs:List SV},kn A B σ.H false ps qs=true→∀ b∈ct qs,(s.H b).isSome=true:=by
 have one:∀ {p q:SV},ne A B σ.H false p q=true→∀ b∈ic q,(s.H b).isSome=true:=by
  intro p q h b hb;cases q with
  | own c=>
   simp only[ic,List.mem_singleton] at hb;subst hb;simp only[ne,Bool.false_eq_true,if_false] at h
   split at h
   · unfold yu at h
     split at h
     · rename_i k hk;obtain ⟨x,hx,_⟩:=hS.blk hk;rw[hx];rfl
     · simp at h
   · simp at h
  | _=>simp[ic] at hb
 have oneL:∀ {ps qs:List SV},ll A B σ.H false ps qs=true→∀ b∈qs.flatMap ic,(s.H b).isSome=true:=by
  intro ps
  induction ps with
  | nil=>intro qs h b hb;cases qs with
   | nil=>simp at hb
   | cons=>simp[ll] at h
  | cons p ps ih=>intro qs h b hb;cases qs with
   | nil=>simp[ll] at h
   | cons q qs=>
    simp only[ll,and_eq_true] at h;simp only[List.flatMap_cons,List.mem_append] at hb;exact hb.elim (one h.1 b) (ih h.2 b)
 intro ps
 induction ps with
 | nil=>intro qs h b hb;cases qs with
  | nil=>simp[ct] at hb
  | cons=>simp[kn] at h
 | cons p ps ih=>intro qs h b hb;cases qs with
  | nil=>simp[kn] at h
  | cons q qs=>
   simp only[kn,and_eq_true] at h;obtain ⟨h1,h2⟩:=h
   have:b∈ct [q]∨b∈ct qs:=by
    cases q<;>simp_all [ct]
   rcases this with hb|hb
   · unfold aaw at h1
     split at h1
     · exact oneL h1 b (by simpa [ct] using hb)
     · rename_i dc
       have:b∈ic q:=by
        cases q with
        | agg cs=>
         unfold ne at h1;cases p<;>first|(exact absurd rfl (dc _ _ rfl))|simp[mt] at h1
        | _=>simpa [ct] using hb
       exact one h1 b this
   · exact ih h2 b hb
theorem a2w{H:ba}:∀ {fz:List Nat},(∀ b∈fz,(H b).isSome=true)→(gx fz H).map (·.1)=fz:=by
 intro fz
 induction fz with
 | nil=>intro _;rfl
 | cons b fz ih=>
  intro h;obtain ⟨x,hx⟩:=Option.isSome_iff_exists.1 (h b (by simp))
  have:=ih fun b hb=>h b (by simp[hb])
  unfold gx at this ⊢;simp only[List.filterMap_cons,hx,Option.map_some,map_cons,this]
theorem qft(m:Nat→Nat)(outs:Env)(L:List SB):ek m (hIn outs L)=(range L.length).map fun i=>(m i,((L.getD i ⟨true,false,0,0,gm,[]⟩).inst outs (lnL outs L)).ren m):=by
 unfold ek hIn;simp only[length_map];refine map_congr_left fun i hi=>?_
 have bn:i<L.length:=List.mem_range.1 hi;simp[getD_eq_getElem?_getD,getElem?_eq_getElem bn]
theorem a0o{e:Env}{ln:Nat→Nat}{f:Nat→Nat × Blk}{g:Nat→Nat × SB}:∀ {l:List Nat},(∀ i∈l,(f i).1=(g i).1∧WkB (f i).2 ((g i).2.inst e ln))→yp e ln (l.map f) (l.map g):=by
 intro l
 induction l with
 | nil=>intro _;trivial
 | cons i l ih=>intro h;exact ⟨(h i (by simp)).1,(h i (by simp)).2,ih fun j hj=>h j (by simp[hj])⟩
theorem ar4{e:Env}{H:List (Option SB)}{key:Nat→Nat}{blk:Nat→SB}:∀ {l:List Nat},(∀ i∈l,∀ j∈l,key i=key j→i=j)→(∀ i∈l,ae e (jz H (l.map fun i=>(key i,blk i))) (key i)=(blk i).len e)∧
 ∀ b,(∀ i∈l,key i≠b)→ae e (jz H (l.map fun i=>(key i,blk i))) b=ae e H b:=by
 intro l
 induction l generalizing H with
 | nil=>intro _;exact ⟨fun i hi=>by simp at hi,fun _ _=>rfl⟩
 | cons k l ih=>
  intro adc;obtain ⟨h1,h2⟩:=ih (H:=g9 H (key k) (blk k)) fun i hi j hj h=>adc i (by simp[hi]) j (by simp[hj]) h
  refine ⟨fun i hi=>?_,fun b hb=>?_⟩
  · simp only[map_cons,jz]
    by_cases hil:i∈l
    · exact h1 i hil
    · have hik:i=k:=by rcases List.mem_cons.1 hi with h|h;exact h;exact absurd h hil
      subst hik;rw[h2 (key i) fun j hj he=>hil (by rw[← adc j (by simp[hj]) i (by simp) he];exact hj),qge,if_pos rfl]
  · simp only[map_cons,jz];rw[h2 b fun i hi=>hb i (by simp[hi]),qge,if_neg fun h=>hb k (by simp) h.symm]
theorem qan(hS:Sat e σ s){gi:GI}{f:FuncId}{fk:List SV}{l:List AV}{i n:Nat}{sc:Bool}{sl:List Nat}{A:List SA}{r:SR}{pins:List Nat}(h:p7 gi σ e.length id f fk=some (.at i sc sl A n r σ1 pins))
 (hl:WkL l (SV.instL e (ae e σ.H) fk)) {R:Nat→PF} (aal:∀ (i:Nat) (sg:Sig),gi.sigs[i]? = some sg→jh P G (R i) sg) {outs:Env} (hr:R i (A.map (·.val e))=some outs)
 (hn:outs.length=n∧(sc=true→outs.all D.scal=true)∧sl.all (fun j=>(outs.getD j dfl).isSl)=true) (d:Option Nat) {K:Res→Prop}
 (hK:∀ res,Sat (e++outs) (σ1.upd d r) (s.appD d res)→res.log=(pins++r.up.map (·.1),r.rb)→(∀ b∈pins,b<id)→σ1.nx=σ.nx→K res):vt P G id s.H f l K:=by
 unfold p7 at h
 split at h
 · rename_i i' sg c hfs;obtain ⟨j,hij,hsg,hf,hc⟩:=aqx hfs
   dsimp only at h
   split at h
   · rename_i ff;simp only[and_eq_true] at ff;obtain ⟨⟨⟨⟨⟨k1,k2⟩,k3⟩,k4⟩,k5⟩,k6⟩:=ff;have k4':=Nat.le_of_ble_eq_true k4;have k5':=Nat.le_of_ble_eq_true k5;simp only[all_eq_true,and_eq_true] at k2 k3
     injection h with h
     injection h with e1 e2 e3 e4 e5 e6 e7 e8
     subst e1 e3 e4 e5;have hi:i' = j:=by omega
     subst hi;unfold tn at hc
     dsimp only at hc
     split at hc
     · rename_i A' B hA hB;generalize ah1:(!(!(ct fk).isEmpty&&(ct sg.args).isEmpty) && !(ld fk && !ld sg.args))=keep at hc;generalize kz:(if keep=true then [] else ct fk)=fz at hc
       split at hc
       · rename_i ly;simp only[and_eq_true,beq_iff_eq,Option.isNone_iff_eq_none] at ly;obtain ⟨⟨⟨⟨⟨⟨⟨⟨q1,q2⟩,q3⟩,q4⟩,q5⟩,q6⟩,q7⟩,q8⟩,q9⟩:=ly;simp only[Option.some.injEq] at hc;subst hc;simp only at *
         have afc:b7 e 0 A' = A'.map (·.val e):=qnr e A'
         have rn:=aie (id:=id) hS q6 q3 (fun p hp=>List.all_eq_true.1 q8 p hp)
         obtain ⟨hB1,axk,lr⟩:=rn;obtain ⟨a1,a2,a3,a4⟩:=aih hS (n:=sg.Hin.length) (m:=fun i=>B.getD i id) hB1 q5 (qkc q7)
         have hlx:=qze fk a1 hl;rw[← hlx] at a2 a3 a4;rw[kz] at a4;have ly:=aal _ sg hsg;obtain ⟨hwo,hCC,hKP⟩:=ly (b7 e 0 A') outs (by rw[afc];exact hS.wf.map q2) (by rw[afc,length_map];exact q1) axk (by rw[afc];exact hr) hn.1
         rw[hf] at hCC;have hHin:(hIn (b7 e 0 A') sg.Hin).length=sg.Hin.length:=by simp[hIn]
         have hHout:(hIn outs sg.Hout).length=sg.Hout.length:=by simp[hIn]
         have xw:=a0k q4
         have adc:∀ i j,i<sg.Hout.length→j<sg.Hout.length→B.getD i id=B.getD j id→i=j:=by
          intro i j hi hj hij
          have hg:∀ i,i<sg.Hout.length→(B++[id])[i]? = some (B.getD i id):=by
           intro i hi;rw[getD_eq_getElem?_getD]
           by_cases hib:i<B.length
           · rw[List.getElem?_append_left hib,getElem?_eq_getElem hib];rfl
           · rw[List.getElem?_append_right (by omega),getElem?_eq_none (show B.length≤i by omega)]
             have:i-B.length=0:=by omega
             rw[this];rfl
          have h1:=hg i hi;have h2:=hg j hj;have l1:i<(B++[id]).length:=by simp;omega
          have l2:j<(B++[id]).length:=by simp;omega
          rw[getElem?_eq_getElem l1] at h1;rw[getElem?_eq_getElem l2] at h2;exact (List.getElem_inj xw).1 (by rw[Option.some.inj h1,Option.some.inj h2,hij])
         have aqh:s.H id=none:=hS.none q9
         have hCO:wp (fun i=>B.getD i id) (hIn (b7 e 0 A') sg.Hin) (hIn outs sg.Hout) (dl (cn keep s.H l) s.H):=by
          refine ⟨fun i j hi hj=>adc i j (by rwa [hHout] at hi) (by rwa [hHout] at hj),by rw[hHin,hHout];exact k4',fun i hi=>?_,fun i hi bn=>?_,fun i hi row ak=>?_⟩
          · obtain ⟨k,_,_,_,_,_,_,hp⟩:=lr i (by rwa [hHin] at hi)
            rw[a4];simp only[hIn,List.getElem_map];exact hp
          · have : B.getD i id = id := by
             rw[getD_eq_getElem?_getD,getElem?_eq_none (by rw[hHin] at hi;omega)];rfl
            rw[this];unfold dl
            split<;>simp[aqh]
          · rw[hHin];simp only[hIn,List.getElem_map] at ak;exact qor (fun r hr=>qkc (List.all_eq_true.1 (List.all_eq_true.1 q8 _ (getElem_mem _)) r hr)) row ak
         refine ⟨⟨(sg.res.inst outs (lnL outs sg.Hout)).ren fun i=>B.getD i id,(if !(sg.Hin.isEmpty&&sg.Hout.isEmpty&&(sg.res.flat && !sg.ns) && !fz.isEmpty) then gx (cn keep s.H l) s.H else [])++ek (fun i=>B.getD i id) (hIn outs sg.Hout),cn keep s.H l++(range (hIn (b7 e 0 A') sg.Hin).length).map fun i=>B.getD i id⟩,
          keep,!(sg.Hin.isEmpty&&sg.Hout.isEmpty&&(sg.res.flat && !sg.ns) && !fz.isEmpty),false,fun i=>B.getD i id,hIn (b7 e 0 A') sg.Hin,_,hIn outs sg.Hout,_,⟨hCC,a3,a2,?_,hCO,fun i hi bn=>?_,?_,by simp,rfl,by simp,rfl⟩,?_⟩
         · have:=qte (e:=b7 e 0 A') (ln:=lnL (b7 e 0 A') sg.Hin) (qkc q7)
           rwa [qig,← hHin] at this
         · show B.getD i id=id
           rw[getD_eq_getElem?_getD,getElem?_eq_none (by rw[hHin] at hi;omega)];rfl
         · cases hsc:(sg.Hin.isEmpty&&sg.Hout.isEmpty&&(sg.res.flat && !sg.ns) && !fz.isEmpty) with
           | false=>exact .inl rfl
           | true=>
            have ar0:sc=true:=by rw[← e2,hsc]
            simp only[and_eq_true,List.isEmpty_iff] at hsc;refine .inr (.inr ⟨by simp[hIn,hsc.1.1.1],by simp[hIn,hsc.1.1.2],ap8 (hn.2.1 ar0) hsc.1.2.1⟩)
         ·
          have ai0:∀ b∈fz,(s.H b).isSome=true:=by
           intro b hb;rw[← kz] at hb
           split at hb
           · simp at hb
           · rename_i hk0;have hkf:keep=false:=by simpa using hk0
             rw[hkf] at q5;exact ax7 hS q5 b hb
          have hpk:=a2w ai0;rw[e2] at e6 e7 e8 k6 ⊢
          have hSp:Sat e { σ with H:=if sc=true then σ.H else jj (inL fz) 0 σ.H } { s with H:=if sc=true then s.H else dl fz s.H }:=by
           cases sc with
           | true=>exact hS
           | false=>exact hS.pinD fz
          have aer:∀ b,ae e (if sc=true then σ.H else jj (inL fz) 0 σ.H) b=ae e σ.H b:=by
           intro b;cases sc with
           | true=>rfl
           | false=>exact qci (inL fz) σ.H b
          have hm:e.length+sg.nout=e.length+outs.length:=by rw[hn.1]
          have aku:=ar4 (e:=e++outs) (H:=if sc=true then σ.H else jj (inL fz) 0 σ.H) (key:=fun i=>B.getD i id) (blk:=fun i=>(sg.Hout.getD i ⟨true,false,0,0,gm,[]⟩).shift e.length fun i=>B.getD i id) (l:=range sg.Hout.length)
           fun i hi j hj=>adc i j (List.mem_range.1 hi) (List.mem_range.1 hj)
          obtain ⟨amm,anm⟩:=aku
          have afp:∀ b,b<sg.Hout.length→lnU (e++outs) { σ with H:=if sc=true then σ.H else jj (inL fz) 0 σ.H } ((range sg.Hout.length).map fun i=>(B.getD i id,(sg.Hout.getD i ⟨true,false,0,0,gm,[]⟩).shift e.length fun i=>B.getD i id)) (B.getD b id)=lnL outs sg.Hout b:=by
           intro b hb;have:=amm b (List.mem_range.2 hb);unfold lnU;rw[this,asv,qty (getElem?_eq_getElem hb),getD_eq_getElem?_getD,getElem?_eq_getElem hb];rfl
          have a0c:EWF outs:=hwo
          have hup:=hSp.updV (r:=(ja sg { A:=A',B:=B,fz:=fz,keep:=keep } sc σ e.length id).1) (rv:=(sg.res.inst outs (lnL outs sg.Hout)).ren fun i=>B.getD i id) (hs:=ek (fun i=>B.getD i id) (hIn outs sg.Hout)) (o:=outs) a0c
           (by rw[← hm];exact k6)
           (by
            simp only[ja];rw[← qno (e:=e) (m:=fun i=>B.getD i id) (n:=sg.Hout.length) afp (by have:=qkc k1;simpa [SV.hasL] using this)]
            exact .refl _)
           (by
            simp only[ja];rw[qft];refine a0o fun i hi=>⟨rfl,?_⟩
            have bn:=List.mem_range.1 hi;have hg:sg.Hout.getD i ⟨true,false,0,0,gm,[]⟩ = sg.Hout[i]:=by rw[getD_eq_getElem?_getD,getElem?_eq_getElem bn];rfl
            show WkB ((SB.inst _ _ (sg.Hout.getD i _)).ren _) ((SB.shift _ _ (sg.Hout.getD i _)).inst _ _)
            rw[a4s (e:=e) (m:=fun i=>B.getD i id) (n:=sg.Hout.length) afp (by rw[hg];exact (k2 _ (getElem_mem bn)).1)]
            exact ⟨rfl,rfl,rfl,rfl,.refl _⟩)
           (by
            intro b hb;simp only[ja] at hb ⊢
            show lnU _ _ _ _=ae e (if sc=true then σ.H else jj (inL fz) 0 σ.H) b
            by_cases ip:∃ i,i<sg.Hout.length∧B.getD i id=b
            · obtain ⟨i,hi,rfl⟩:=ip;rw[afp i hi]
              have hib:i<B.length:=by
               refine Nat.lt_of_not_le fun j7=>?_
               have:B.getD i id=id:=by rw[getD_eq_getElem?_getD,getElem?_eq_none j7];rfl
               rw[this] at hb;simp[inL] at hb
              have uh:nw sg i=true:=by
               cases aug:nw sg i with
               | true=>rfl
               | false=>
                have:inL (id::((range B.length).filter fun i=>!nw sg i).map fun i=>B.getD i id) (B.getD i id)=true:=
                 qsg.2 (List.mem_cons_of_mem _ (List.mem_map.2 ⟨i,List.mem_filter.2 ⟨List.mem_range.2 hib,by simp[aug]⟩,rfl⟩))
                rw[this] at hb;simp at hb
              have hiH:i<sg.Hin.length:=by omega
              unfold nw at uh;rcases Bool.or_eq_true_iff.1 uh with uh|uh
              · rw[hKP i uh,(hB1 i hiH).2,(hB1 i hiH).1,aer]
              unfold aas at uh;rw[getElem?_eq_getElem hiH,getElem?_eq_getElem hi] at uh;simp only[and_eq_true,beq_iff_eq] at uh;obtain ⟨k,hk,_,_,hkd,a3y,hkm,_⟩:=lr i hiH;rw[qty (getElem?_eq_getElem hi),qve uh.1.2,aer,qr hk]
              have ayl:im k.d=true:=by
               have:=qsh uh.1.1;rw[this] at hkm;simp only[mtA] at hkm;rw[← SA.beq_eq hkm];rfl
              rw[qve ayl,← a3y,uh.2]
            · unfold lnU;rw[anm b fun i hi he=>ip ⟨i,List.mem_range.1 hi,he⟩]
              exact qoj outs hSp.H b)
           (by
            intro p hp;simp only[ja] at hp;obtain ⟨i,hi,rfl⟩:=List.mem_map.1 hp;have bn:=List.mem_range.1 hi;have hg:sg.Hout.getD i ⟨true,false,0,0,gm,[]⟩ = sg.Hout[i]:=by rw[getD_eq_getElem?_getD,getElem?_eq_getElem bn];rfl
            show ∃ xs,(SA.shift _ (sg.Hout.getD i _).d).val _=_
            rw[hg,qmf];have hk3:=(k2 _ (getElem_mem bn)).2;cases hd:(sg.Hout[i]).d with
            | v x=>
             have hx:x∈zz sg:=by
              unfold zz;refine List.mem_filterMap.2 ⟨sg.Hout[i],getElem_mem bn,?_⟩;rw[hd]
             have:=List.all_eq_true.1 hn.2.2 x hx;simp only[SA.val]
             revert this
             cases outs.getD x dfl<;>simp[D.isSl]
            | c dd=>
             rw[hd] at hk3;have:=qsh hk3;rw[this];exact ⟨[],rfl⟩) d
          have om:{ ({ s with H:=if sc=true then s.H else dl fz s.H }:Sta) with tm:=mw s.tm d ((sg.res.inst outs (lnL outs sg.Hout)).ren fun i=>B.getD i id),H:=cd (if sc=true then s.H else dl fz s.H) (ek (fun i=>B.getD i id) (hIn outs sg.Hout)) } =
           s.appD d ⟨(sg.res.inst outs (lnL outs sg.Hout)).ren fun i=>B.getD i id,(if (!sc)=true then gx (cn keep s.H l) s.H else [])++ek (fun i=>B.getD i id) (hIn outs sg.Hout),cn keep s.H l++(range (hIn (b7 e 0 A') sg.Hin).length).map fun i=>B.getD i id⟩:=by
           unfold Sta.appD;simp only;rw[qwk,a4];cases sc with
           | true=>rfl
           | false=>simp only[Bool.not_false,if_true,Bool.false_eq_true,if_false];rw[qbm]
          refine hK _ ?_ ?_ ?_ ?_
          · rw[← om];rw[← e6,← e7];exact hup
          · simp only[Res.log,List.map_append];rw[a4,hHin,← e8,← e6];simp only[ja]
            have h1:(ek (fun i=>B.getD i id) (hIn outs sg.Hout)).map (·.1)=((range sg.Hout.length).map fun i=>(B.getD i id,(sg.Hout.getD i ⟨true,false,0,0,gm,[]⟩).shift e.length fun i=>B.getD i id)).map (·.1):=by
             rw[qft,map_map,map_map];rfl
            have h2:(range sg.Hin.length).map (fun i=>B.getD i id)=B:=by
             refine List.ext_getElem (by simp[q3]) fun i hi bn=>?_
             simp[getD_eq_getElem?_getD,getElem?_eq_getElem bn]
            rw[h1,h2];cases sc with
            | true=>rfl
            | false=>simp only[Bool.not_false,if_true,hpk,Bool.false_eq_true,if_false]
          · intro b hb;rw[← e8] at hb
            split at hb
            · simp at hb
            · exact qrh.1 (k3 b hb)
          · rw[← e7];rfl
       · simp at hc
     · simp at hc
   · simp at h
 · simp at h
end
end Am

namespace Am
open Go
variable {P:Program}{G:bl}
section
variable {σ σ1:SS}{e e':Env}{s:Sta}{kk id:Nat}
mutual
theorem a2g{m:Nat→Nat}{n:Nat}{ln:Nat→Nat}(hm:∀ b,b<n→m b=b):∀ {v:SV},v.has (fun b=>Nat.ble n b)=false→(v.inst e ln).ren m=v.inst e ln
 | .atm _,_=>rfl
 | .nils,_=>rfl
 | .agg cs,h=>by simp only[SV.inst,AV.ren,qoc];rw[qwe hm (l:=cs) h]
 | .tup cs,h=>by simp only[SV.inst,AV.ren,qoc];rw[qwe hm (l:=cs) h]
 | .own b,h=>by simp only[SV.inst,AV.ren];rw[hm b (qub h)]
 | .ptr b _ _,h=>by simp only[SV.inst,AV.ren];rw[hm b (qub h)]
 | .px b _ _,h=>by simp only[SV.inst,AV.ren];rw[hm b (qub h)]
 | .ep _,_=>rfl
 | .clo _ a b,h=>by
  simp only[SV.has,Bool.or_eq_false_iff] at h;simp only[SV.inst,AV.ren,qoc];rw[qwe hm h.1,qwe hm h.2]
 | .junk,_=>rfl
theorem qwe{m:Nat→Nat}{n:Nat}{ln:Nat→Nat}(hm:∀ b,b<n→m b=b):∀ {l:List SV},SV.hasL (fun b=>Nat.ble n b) l=false→(SV.instL e ln l).map (AV.ren m)=SV.instL e ln l
 | [],_=>rfl
 | c::cs,h=>by
  simp only[SV.hasL,Bool.or_eq_false_iff] at h;simp only[SV.instL,map_cons];rw[a2g hm h.1,qwe hm h.2]
end
theorem asp{m:Nat→Nat}{n:Nat}{ln:Nat→Nat}(hm:∀ b,b<n→m b=b){k:SB}(h:j6 n k=true):(k.inst e ln).ren m=k.inst e ln:=by
 simp only[SB.inst,Blk.ren]
 congr 1
 simp only[SB.rows,List.map_append,map_map]
 congr 1
 · refine map_congr_left fun r _=>?_
   simp only[Function.comp,map_map];exact map_congr_left fun d _=>rfl
 · refine map_congr_left fun r hr=>?_
   simp only[Function.comp];exact qwe hm (qkc (List.all_eq_true.1 h r hr))
theorem a5y(hS:Sat e σ s){T:Tab}(hT:TOK P T){x:ResultVar}{v:SV}(h:tj T σ e.length x=some v):∃ a,aam P s x=some a∧Wk a (v.inst e (ae e σ.H)):=by
 cases x with
 | tmp t=>simp only[tj] at h;cases h;exact ⟨_,rfl,hS.get t⟩
 | cell a ty=>
  simp only[tj] at h
  split at h
  · rename_i tf pw;have ht:=hT _ _ pw
    split at h
    · rename_i hc;simp only[and_eq_true] at hc
      split at h
      · rename_i r hr
        split at h
        · rename_i hem;cases h;obtain ⟨av,h1,h2,_⟩:=qja (e':=e) hS (hS.get a) (hS.tm a) hr (by rw[List.isEmpty_iff.1 hem];rfl)
          refine ⟨av,?_,h2⟩;simp only[aam,ht.ti,ht.tu,hc.1,hc.2,and_self,if_true,ht.agg,ht.sz,h1]
        · simp at h
      · simp at h
    · simp at h
  · simp at h
theorem qfx(hS:Sat e σ s){T:Tab}(hT:TOK P T):∀ {l:List ResultVar} {vs:List SV},no T σ e.length l=some vs→∃ as,kg P s l=some as∧WkL as (SV.instL e (ae e σ.H) vs):=by
 intro l
 induction l with
 | nil=>intro vs h;simp only[no] at h;cases h;exact ⟨[],rfl,.nil⟩
 | cons x l ih=>
  intro vs h;simp only[no] at h
  split at h
  · rename_i a l' h1 h2;cases h;obtain ⟨av,g1,g2⟩:=a5y hS hT h1;obtain ⟨as,g3,g4⟩:=ih h2;exact ⟨av::as,by simp only[kg,g1,g3],.cons g2 g4⟩
  · simp at h
theorem av9{ln:Nat→Nat}{as:List AV}{vs:List SV}(h:WkL as (SV.instL e ln vs)):Wk (wo as) ((vj vs).inst e ln):=by
 match vs,as,h with
 | [],as,h=>rw[h.inv_nil];exact .refl _
 | [v],as,h=>
  obtain ⟨a,as',rfl,h1,h2⟩:=h.inv_cons;rw[h2.inv_nil];exact h1
 | v::w::vs,as,h=>
  obtain ⟨a,as',rfl,h1,h2⟩:=h.inv_cons;obtain ⟨b,as'',rfl,h3,h4⟩:=h2.inv_cons;exact .tup _ _ h.1 h.2
theorem qvg{ln:Nat→Nat}(v:SV):df (v.inst e ln)=SV.instL e ln (ju v):=by
 cases v<;>rfl
theorem qcs(hS:Sat e σ s){gi:GI}(hT:TOK P gi.T){A:List SA}(h:w7 gi σ e.length=some A):A.length=gi.sig.nout∧EWF (A.map (·.val e))∧
 ∀ ex,(ex = .normal∨ex = .ret)→Fin P gi.fn gi.sig.Hin.length (hIn (A.map (·.val e)) gi.sig.Hout) (gi.sig.res.inst (A.map (·.val e)) (lnL (A.map (·.val e)) gi.sig.Hout)) ex s:=by
 unfold w7 at h
 split at h
 · simp at h
 · rename_i vs hvs
   dsimp only at h
   split at h
   · simp at h
   · rename_i A' hA;generalize ah1:(!(!(ct (ju (vj vs))).isEmpty&&(ct (ju gi.sig.res)).isEmpty) && !(ld (ju (vj vs)) && !ld (ju gi.sig.res)))=keep at h;generalize kz:(if keep=true then [] else ct (ju (vj vs)))=fz at h
     split at h
     · rename_i hc;simp only[and_eq_true,beq_iff_eq] at hc;obtain ⟨⟨⟨⟨⟨⟨⟨q1,q2⟩,q3⟩,q4⟩,q5⟩,q6⟩,q7⟩,q8⟩:=hc;cases h;refine ⟨q1,hS.wf.map q2,fun ex ip=>⟨ip,?_⟩⟩
       obtain ⟨as,g1,g2⟩:=qfx hS hT hvs;have hB:=aie (id:=0) hS q5 (by simp) (fun p hp=>List.all_eq_true.1 q7 p hp)
       obtain ⟨hB1,_,lr⟩:=hB;rw[qnr] at hB1
       obtain ⟨a1,a2,a3,a4⟩:=aih hS (n:=gi.sig.Hout.length) (lnI:=lnL (A.map (·.val e)) gi.sig.Hout) (m:=fun i=>(range gi.sig.Hout.length).getD i 0) (fun i hi=>⟨rfl,(hB1 i hi).2⟩) q4 (qkc q6)
       rw[qnr] at a2
       have hm:∀ b,b<gi.sig.Hout.length→(fun i=>(range gi.sig.Hout.length).getD i 0) b=b:=fun b hb=>by
        simp[getD_eq_getElem?_getD,hb]
       rw[qwe hm (qkc q6)] at a2
       have hnj:(vj vs).nj=true:=by
        revert a1
        cases vj vs<;>simp[ju,SV.njL,SV.nj]
       have fp:wo as=(vj vs).inst e (ae e σ.H):=ail _ hnj (av9 g2);refine ⟨keep,(vj vs).inst e (ae e σ.H),?_,?_,?_,?_,?_,?_,?_⟩
       · simp only[zi,g1,fp]
       · rw[qvg];exact a3
       · rw[qvg,← a2]
         revert q3
         cases hv:vj vs with
         | tup l=>
          cases hr:gi.sig.res with
          | tup ps=>intro _;rfl
          | _=>intro h;simp[aa8] at h
         | _=>
          cases hr:gi.sig.res with
          | tup ps=>intro h;simp[aa8] at h
          | _=>intro _;rfl
       · simp only[hIn,length_map];exact Nat.le_of_ble_eq_true q8
       · intro i hi;have bn:i<gi.sig.Hout.length:=by simpa [hIn] using hi
         obtain ⟨k,_,_,_,_,_,_,hp⟩:=lr i bn;rw[qvg,a4,kz];have hgi:(range gi.sig.Hout.length).getD i 0=i:=hm i bn;rw[hgi] at hp;rw[hp,asp hm (List.all_eq_true.1 q7 _ (getElem_mem bn)),qnr];simp[hIn]
       · intro b hb row ak;obtain ⟨p,hp,rfl⟩:=List.mem_map.1 hb
         rw[show (hIn (A.map (·.val e)) gi.sig.Hout).length=gi.sig.Hout.length by simp[hIn]]
         exact qor (fun r hr=>qkc (List.all_eq_true.1 (List.all_eq_true.1 q7 p hp) r hr)) row ak
       · rw[show (hIn (A.map (·.val e)) gi.sig.Hout).length=gi.sig.Hout.length by simp[hIn]]
         refine qqq ?_;have:=qkc q6
         revert this
         cases gi.sig.res<;>simp[ju,SV.hasL,SV.has]
     · simp at h
end
end Am
