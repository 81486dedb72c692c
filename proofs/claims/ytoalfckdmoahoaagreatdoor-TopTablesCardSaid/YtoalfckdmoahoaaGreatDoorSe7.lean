/- The abstract machine and its reader: lemmas. -/
import Derived.Test.YtoalfckdmoahoaaGreatDoorSe6
set_option linter.unusedSimpArgs false
set_option linter.unusedVariables false
set_option linter.unusedSectionVars false
namespace Am
open Go
variable {P:Program} {G:Glob}
section
variable {σ σ1:SS} {e e':Env} {s:Sta} {kk id:Nat}
def SigOK (P:Program) (G:Glob) (R:PF) (sg:Sig):Prop:=∀ ins outs,EWF ins→ins.length=sg.nin→(∀ k∈sg.Hin,∃ xs,k.d.val ins = .sl xs)→R ins=some outs→outs.length=sg.nout→
 EWF outs∧CC P G sg.f (hIn ins sg.Hin) (SV.instL ins (lnL ins sg.Hin) sg.args) (hIn outs sg.Hout) (sg.res.inst outs (lnL outs sg.Hout))∧∀ i,inL sg.kp i=true→lnL outs sg.Hout i=lnL ins sg.Hin i
theorem Sat.pinD (hS:Sat e σ s) (ps:List Nat):Sat e (σ.pin ps) { s with H:=pinH ps s.H }:=by
 have hl:lnOf e (σ.pin ps).H=lnOf e σ.H:=funext fun b=>qlh (inL ps) σ.H b
 have hg:∀ b k,getB (σ.pin ps).H b=some k→∃ k0,getB σ.H b=some k0∧k.d=k0.d∧k.tl=k0.tl:=by
  intro b k hk;simp only[SS.pin] at hk;rw[qid] at hk;simp only[Option.map_eq_some_iff] at hk;obtain ⟨k0,h1,rfl⟩:=hk;exact ⟨k0,h1,rfl,rfl⟩
 refine ⟨hS.wf,hS.tm,fun b k hk=>?_,fun b k hk=>?_,⟨hS.wk.n,hS.wk.nx,fun t=>?_,fun b=>?_⟩⟩
 · obtain ⟨k0,h1,h2,h3⟩:=hg b k hk;have:=hS.H b k0 h1;simp only[SB.ok,h2,h3] at this ⊢;exact this
 · obtain ⟨k0,h1,h2,h3⟩:=hg b k hk;rw[h2];exact hS.sl b k0 h1
 · show Wk (s.tm t) ((getS σ.tm t).inst e (lnOf e (σ.pin ps).H))
   rw[hl];exact hS.get t
 · show WkO (pinH ps s.H b) ((getB (σ.pin ps).H b).map (·.inst e (lnOf e (σ.pin ps).H)))
   rw[hl]
   have h0:(getB (σ.pin ps).H b).map (·.inst e (lnOf e σ.H))=pinH ps (fun b=>(getB σ.H b).map (·.inst e (lnOf e σ.H))) b:=(qfy ps (lnOf e σ.H) b).symm
   rw[h0];have:=hS.wk.H b;simp only[SS.inst] at this;unfold pinH
   dsimp only
   split
   · cases hx:s.H b with
     | none=>rw[hx] at this;revert this;cases (getB σ.H b)<;>exact fun h=>h
     | some x=>
      rw[hx] at this;cases hk:getB σ.H b with
      | none=>rw[hk] at this;exact this.elim
      | some k=>
       rw[hk] at this;obtain ⟨h1,h2,h3,h4,h5⟩:WkB x (k.inst e (lnOf e σ.H)):=this;exact ⟨rfl,h2,h3,h4,h5⟩
   · exact this
theorem qoob {outs:Env} (h:outs.all D.scal=true) (x:Nat):((SA.v x).val outs).scal=true:=by
 simp only[SA.val,List.getD_eq_getElem?_getD]
 by_cases hx:x<outs.length
 · rw[List.getElem?_eq_getElem hx];exact List.all_eq_true.1 h _ (List.getElem_mem hx)
 · rw[List.getElem?_eq_none (by omega)];rfl
theorem qjn {outs:Env} (h:outs.all D.scal=true) {ln:Nat→Nat} {v:SV} (hv:flat0 v=true):(v.inst outs ln).scal=true:=by
 unfold flat0 at hv
 split at hv
 · exact qoob h _
 · simp at hv
theorem qun {outs:Env} (h:outs.all D.scal=true) {ln:Nat→Nat} {v:SV} (hv:flat1 v=true):(v.inst outs ln).scal=true:=by
 unfold flat1 at hv
 split at hv
 · rename_i cs;simp only[SV.inst,AV.scal,qvk,SV.instL_map,List.all_eq_true];intro a ha;obtain ⟨c,hc,rfl⟩:=List.mem_map.1 ha;exact qjn h (List.all_eq_true.1 hv c hc)
 · exact qjn h hv
theorem qrib {outs:Env} (h:outs.all D.scal=true) {ln:Nat→Nat} {v:SV} (hv:v.flat=true):(v.inst outs ln).scal=true:=by
 unfold SV.flat at hv
 split at hv
 · rename_i cs;simp only[SV.inst,AV.scal,qvk,SV.instL_map,List.all_eq_true];intro a ha;obtain ⟨c,hc,rfl⟩:=List.mem_map.1 ha;exact qun h (List.all_eq_true.1 hv c hc)
 · exact qun h hv
theorem qocb {H:List (Option SB)} {m f:Nat} {avs:List SV}:∀ {l:List Sig} {k i:Nat} {sg:Sig} {c:SC},findSig H id m f avs k l=some (i,sg,c)→∃ j,i=k+j∧l[j]? = some sg∧sg.f=f∧symCall sg H id m avs=some c:=by
 intro l
 induction l with
 | nil=>intro k i sg c h;simp[findSig] at h
 | cons s0 l ih=>
  intro k i sg c h;simp only[findSig] at h
  have again:findSig H id m f avs (k+1) l=some (i,sg,c)→∃ j,i=k+j∧(s0::l)[j]? = some sg∧sg.f=f∧symCall sg H id m avs=some c:=by
   intro h;obtain ⟨j,h1,h2,h3,h4⟩:=ih h;exact ⟨j+1,by omega,by simpa using h2,h3,h4⟩
  split at h
  · rename_i hf
    split at h
    · rename_i c' hc';cases h;exact ⟨0,rfl,rfl,by simpa using hf,hc'⟩
    · exact again h
  · exact again h
theorem qunb (hS:Sat e σ s) {A:List SA} {B:Nat→Nat}:∀ {ps qs:List SV},mtArgs A B σ.H false ps qs=true→∀ b∈ownIds qs,(s.H b).isSome=true:=by
 have one:∀ {p q:SV},mtArg1 A B σ.H false p q=true→∀ b∈ownIds1 q,(s.H b).isSome=true:=by
  intro p q h b hb;cases q with
  | own c=>
   simp only[ownIds1,List.mem_singleton] at hb;subst hb;simp only[mtArg1,Bool.false_eq_true,if_false] at h
   split at h
   · unfold mtOwn at h
     split at h
     · rename_i k hk;obtain ⟨x,hx,_⟩:=hS.blk hk;rw[hx];rfl
     · simp at h
   · simp at h
  | _=>simp[ownIds1] at hb
 have oneL:∀ {ps qs:List SV},mtArgL A B σ.H false ps qs=true→∀ b∈qs.flatMap ownIds1,(s.H b).isSome=true:=by
  intro ps
  induction ps with
  | nil=>intro qs h b hb;cases qs with
   | nil=>simp at hb
   | cons=>simp[mtArgL] at h
  | cons p ps ih=>intro qs h b hb;cases qs with
   | nil=>simp[mtArgL] at h
   | cons q qs=>
    simp only[mtArgL,Bool.and_eq_true] at h;simp only[List.flatMap_cons,List.mem_append] at hb;exact hb.elim (one h.1 b) (ih h.2 b)
 intro ps
 induction ps with
 | nil=>intro qs h b hb;cases qs with
  | nil=>simp[ownIds] at hb
  | cons=>simp[mtArgs] at h
 | cons p ps ih=>intro qs h b hb;cases qs with
  | nil=>simp[mtArgs] at h
  | cons q qs=>
   simp only[mtArgs,Bool.and_eq_true] at h;obtain ⟨h1,h2⟩:=h
   have:b∈ownIds [q]∨b∈ownIds qs:=by
    cases q<;>simp_all [ownIds]
   rcases this with hb|hb
   · unfold mtArg at h1
     split at h1
     · exact oneL h1 b (by simpa [ownIds] using hb)
     · rename_i hne
       have:b∈ownIds1 q:=by
        cases q with
        | agg cs=>
         unfold mtArg1 at h1;cases p<;>first|(exact absurd rfl (hne _ _ rfl))|simp[mt] at h1
        | _=>simpa [ownIds] using hb
       exact one h1 b this
   · exact ih h2 b hb
theorem qdbb {H:Heap}:∀ {fz:List Nat},(∀ b∈fz,(H b).isSome=true)→(pinHs fz H).map (·.1)=fz:=by
 intro fz
 induction fz with
 | nil=>intro _;rfl
 | cons b fz ih=>
  intro h;obtain ⟨x,hx⟩:=Option.isSome_iff_exists.1 (h b (by simp))
  have:=ih fun b hb=>h b (by simp[hb])
  unfold pinHs at this ⊢;simp only[List.filterMap_cons,hx,Option.map_some,List.map_cons,this]
theorem qjt (m:Nat→Nat) (outs:Env) (L:List SB):outHs m (hIn outs L)=(List.range L.length).map fun i=>(m i,((L.getD i ⟨true,false,0,0,lit0,[]⟩).inst outs (lnL outs L)).ren m):=by
 unfold outHs hIn;simp only[List.length_map];refine List.map_congr_left fun i hi=>?_
 have hi':i<L.length:=List.mem_range.1 hi;simp[List.getD_eq_getElem?_getD,List.getElem?_eq_getElem hi']
theorem qxob {e:Env} {ln:Nat→Nat} {f:Nat→Nat × Blk} {g:Nat→Nat × SB}:∀ {l:List Nat},(∀ i∈l,(f i).1=(g i).1∧WkB (f i).2 ((g i).2.inst e ln))→HsOK e ln (l.map f) (l.map g):=by
 intro l
 induction l with
 | nil=>intro _;trivial
 | cons i l ih=>intro h;exact ⟨(h i (by simp)).1,(h i (by simp)).2,ih fun j hj=>h j (by simp[hj])⟩
theorem qbmb {e:Env} {H:List (Option SB)} {key:Nat→Nat} {blk:Nat→SB}:∀ {l:List Nat},(∀ i∈l,∀ j∈l,key i=key j→i=j)→(∀ i∈l,lnOf e (setBs H (l.map fun i=>(key i,blk i))) (key i)=(blk i).len e)∧
 ∀ b,(∀ i∈l,key i≠b)→lnOf e (setBs H (l.map fun i=>(key i,blk i))) b=lnOf e H b:=by
 intro l
 induction l generalizing H with
 | nil=>intro _;exact ⟨fun i hi=>by simp at hi,fun _ _=>rfl⟩
 | cons k l ih=>
  intro hinj;obtain ⟨h1,h2⟩:=ih (H:=setB H (key k) (blk k)) fun i hi j hj h=>hinj i (by simp[hi]) j (by simp[hj]) h
  refine ⟨fun i hi=>?_,fun b hb=>?_⟩
  · simp only[List.map_cons,setBs]
    by_cases hil:i∈l
    · exact h1 i hil
    · have hik:i=k:=by rcases List.mem_cons.1 hi with h|h;exact h;exact absurd h hil
      subst hik;rw[h2 (key i) fun j hj he=>hil (by rw[← hinj j (by simp[hj]) i (by simp) he];exact hj),qud,if_pos rfl]
  · simp only[List.map_cons,setBs];rw[h2 b fun i hi=>hb i (by simp[hi]),qud,if_neg fun h=>hb k (by simp) h.symm]
theorem qhl (hS:Sat e σ s) {gi:GI} {f:FuncId} {avs:List SV} {l:List AV} {i n:Nat} {sc:Bool} {sl:List Nat} {A:List SA} {r:SR} {pins:List Nat} (h:stepCall gi σ e.length id f avs=some (.at i sc sl A n r σ1 pins))
 (hl:WkL l (SV.instL e (lnOf e σ.H) avs)) {R:Nat→PF} (hsig:∀ (i:Nat) (sg:Sig),gi.sigs[i]? = some sg→SigOK P G (R i) sg) {outs:Env} (hr:R i (A.map (·.val e))=some outs)
 (hn:outs.length=n∧(sc=true→outs.all D.scal=true)∧sl.all (fun j=>(outs.getD j dfl).isSl)=true) (d:Option Nat) {K:Res→Prop}
 (hK:∀ res,Sat (e++outs) (σ1.upd d r) (s.appD d res)→res.log=(pins++r.up.map (·.1),r.rb)→(∀ b∈pins,b<id)→σ1.nx=σ.nx→K res):CallK P G id s.H f l K:=by
 unfold stepCall at h
 split at h
 · rename_i i' sg c hfs;obtain ⟨j,hij,hsg,hf,hc⟩:=qocb hfs
   dsimp only at h
   split at h
   · rename_i hcond;simp only[Bool.and_eq_true] at hcond;obtain ⟨⟨⟨⟨⟨k1,k2⟩,k3⟩,k4⟩,k5⟩,k6⟩:=hcond;have k4':=Nat.le_of_ble_eq_true k4;have k5':=Nat.le_of_ble_eq_true k5;simp only[List.all_eq_true,Bool.and_eq_true] at k2 k3
     injection h with h
     injection h with e1 e2 e3 e4 e5 e6 e7 e8
     subst e1 e3 e4 e5;have hi:i' = j:=by omega
     subst hi;unfold symCall at hc
     dsimp only at hc
     split at hc
     · rename_i A' B hA hB;generalize hkeep:(!(!(ownIds avs).isEmpty&&(ownIds sg.args).isEmpty) && !(hasNil avs && !hasNil sg.args))=keep at hc;generalize hfz:(if keep=true then [] else ownIds avs)=fz at hc
       split at hc
       · rename_i hcc;simp only[Bool.and_eq_true,beq_iff_eq,Option.isNone_iff_eq_none] at hcc;obtain ⟨⟨⟨⟨⟨⟨⟨⟨q1,q2⟩,q3⟩,q4⟩,q5⟩,q6⟩,q7⟩,q8⟩,q9⟩:=hcc;simp only[Option.some.injEq] at hc;subst hc;simp only at *
         have hins:e2Of e 0 A' = A'.map (·.val e):=qiq e A';have hsame:=qsrb (id:=id) hS q6 q3 (fun p hp=>List.all_eq_true.1 q8 p hp)
         obtain ⟨hB1,hsl0,hblk⟩:=hsame;obtain ⟨a1,a2,a3,a4⟩:=qjlb hS (n:=sg.Hin.length) (m:=fun i=>B.getD i id) hB1 q5 (qyb q7)
         have hlx:=qie avs a1 hl;rw[← hlx] at a2 a3 a4;rw[hfz] at a4;have hcc:=hsig _ sg hsg;obtain ⟨hwo,hCC,hKP⟩:=hcc (e2Of e 0 A') outs (by rw[hins];exact hS.wf.map q2) (by rw[hins,List.length_map];exact q1) hsl0 (by rw[hins];exact hr) hn.1
         rw[hf] at hCC;have hHin:(hIn (e2Of e 0 A') sg.Hin).length=sg.Hin.length:=by simp[hIn]
         have hHout:(hIn outs sg.Hout).length=sg.Hout.length:=by simp[hIn]
         have hnd:=qgjb q4
         have hinj:∀ i j,i<sg.Hout.length→j<sg.Hout.length→B.getD i id=B.getD j id→i=j:=by
          intro i j hi hj hij
          have hg:∀ i,i<sg.Hout.length→(B++[id])[i]? = some (B.getD i id):=by
           intro i hi;rw[List.getD_eq_getElem?_getD]
           by_cases hib:i<B.length
           · rw[List.getElem?_append_left hib,List.getElem?_eq_getElem hib];rfl
           · rw[List.getElem?_append_right (by omega),List.getElem?_eq_none (show B.length≤i by omega)]
             have:i-B.length=0:=by omega
             rw[this];rfl
          have h1:=hg i hi;have h2:=hg j hj;have l1:i<(B++[id]).length:=by simp;omega
          have l2:j<(B++[id]).length:=by simp;omega
          rw[List.getElem?_eq_getElem l1] at h1;rw[List.getElem?_eq_getElem l2] at h2;exact (List.getElem_inj hnd).1 (by rw[Option.some.inj h1,Option.some.inj h2,hij])
         have hid0:s.H id=none:=hS.none q9
         have hCO:CallOK (fun i=>B.getD i id) (hIn (e2Of e 0 A') sg.Hin) (hIn outs sg.Hout) (pinH (avIds keep s.H l) s.H):=by
          refine ⟨fun i j hi hj=>hinj i j (by rwa [hHout] at hi) (by rwa [hHout] at hj),by rw[hHin,hHout];exact k4',fun i hi=>?_,fun i hi hi'=>?_,fun i hi row hrow=>?_⟩
          · obtain ⟨k,_,_,_,_,_,_,hp⟩:=hblk i (by rwa [hHin] at hi)
            rw[a4];simp only[hIn,List.getElem_map];exact hp
          · have : B.getD i id = id := by
             rw[List.getD_eq_getElem?_getD,List.getElem?_eq_none (by rw[hHin] at hi;omega)];rfl
            rw[this];unfold pinH
            split<;>simp[hid0]
          · rw[hHin];simp only[hIn,List.getElem_map] at hrow;exact qqo (fun r hr=>qyb (List.all_eq_true.1 (List.all_eq_true.1 q8 _ (List.getElem_mem _)) r hr)) row hrow
         refine ⟨⟨(sg.res.inst outs (lnL outs sg.Hout)).ren fun i=>B.getD i id,(if !(sg.Hin.isEmpty&&sg.Hout.isEmpty&&(sg.res.flat && !sg.ns) && !fz.isEmpty) then pinHs (avIds keep s.H l) s.H else [])++outHs (fun i=>B.getD i id) (hIn outs sg.Hout),avIds keep s.H l++(List.range (hIn (e2Of e 0 A') sg.Hin).length).map fun i=>B.getD i id⟩,
          keep,!(sg.Hin.isEmpty&&sg.Hout.isEmpty&&(sg.res.flat && !sg.ns) && !fz.isEmpty),false,fun i=>B.getD i id,hIn (e2Of e 0 A') sg.Hin,_,hIn outs sg.Hout,_,⟨hCC,a3,a2,?_,hCO,fun i hi hi'=>?_,?_,by simp,rfl,by simp,rfl⟩,?_⟩
         · have:=qde (e:=e2Of e 0 A') (ln:=lnL (e2Of e 0 A') sg.Hin) (qyb q7)
           rwa [qtf,← hHin] at this
         · show B.getD i id=id
           rw[List.getD_eq_getElem?_getD,List.getElem?_eq_none (by rw[hHin] at hi;omega)];rfl
         · cases hsc:(sg.Hin.isEmpty&&sg.Hout.isEmpty&&(sg.res.flat && !sg.ns) && !fz.isEmpty) with
           | false=>exact .inl rfl
           | true=>
            have hsc1:sc=true:=by rw[← e2,hsc]
            simp only[Bool.and_eq_true,List.isEmpty_iff] at hsc;refine .inr (.inr ⟨by simp[hIn,hsc.1.1.1],by simp[hIn,hsc.1.1.2],qrib (hn.2.1 hsc1) hsc.1.2.1⟩)
         ·
          have hidsS:∀ b∈fz,(s.H b).isSome=true:=by
           intro b hb;rw[← hfz] at hb
           split at hb
           · simp at hb
           · rename_i hk0;have hkf:keep=false:=by simpa using hk0
             rw[hkf] at q5;exact qunb hS q5 b hb
          have hpk:=qdbb hidsS;rw[e2] at e6 e7 e8 k6 ⊢
          have hSp:Sat e { σ with H:=if sc=true then σ.H else pinS (inL fz) 0 σ.H } { s with H:=if sc=true then s.H else pinH fz s.H }:=by
           cases sc with
           | true=>exact hS
           | false=>exact hS.pinD fz
          have hlenp:∀ b,lnOf e (if sc=true then σ.H else pinS (inL fz) 0 σ.H) b=lnOf e σ.H b:=by
           intro b;cases sc with
           | true=>rfl
           | false=>exact qlh (inL fz) σ.H b
          have hm:e.length+sg.nout=e.length+outs.length:=by rw[hn.1]
          have hkeys:=qbmb (e:=e++outs) (H:=if sc=true then σ.H else pinS (inL fz) 0 σ.H) (key:=fun i=>B.getD i id) (blk:=fun i=>(sg.Hout.getD i ⟨true,false,0,0,lit0,[]⟩).shift e.length fun i=>B.getD i id) (l:=List.range sg.Hout.length)
           fun i hi j hj=>hinj i j (List.mem_range.1 hi) (List.mem_range.1 hj)
          obtain ⟨hkey1,hkey2⟩:=hkeys
          have hlnm:∀ b,b<sg.Hout.length→lnU (e++outs) { σ with H:=if sc=true then σ.H else pinS (inL fz) 0 σ.H } ((List.range sg.Hout.length).map fun i=>(B.getD i id,(sg.Hout.getD i ⟨true,false,0,0,lit0,[]⟩).shift e.length fun i=>B.getD i id)) (B.getD b id)=lnL outs sg.Hout b:=by
           intro b hb;have:=hkey1 b (List.mem_range.2 hb);unfold lnU;rw[this,qqdb,qxv (List.getElem?_eq_getElem hb),List.getD_eq_getElem?_getD,List.getElem?_eq_getElem hb];rfl
          have hwfo:EWF outs:=hwo
          have hup:=hSp.updV (r:=(callState sg { A:=A',B:=B,fz:=fz,keep:=keep } sc σ e.length id).1) (rv:=(sg.res.inst outs (lnL outs sg.Hout)).ren fun i=>B.getD i id) (hs:=outHs (fun i=>B.getD i id) (hIn outs sg.Hout)) (o:=outs) hwfo
           (by rw[← hm];exact k6)
           (by
            simp only[callState];rw[← qlo (e:=e) (m:=fun i=>B.getD i id) (n:=sg.Hout.length) hlnm (by have:=qyb k1;simpa [SV.hasL] using this)]
            exact .refl _)
           (by
            simp only[callState];rw[qjt];refine qxob fun i hi=>⟨rfl,?_⟩
            have hi':=List.mem_range.1 hi;have hg:sg.Hout.getD i ⟨true,false,0,0,lit0,[]⟩ = sg.Hout[i]:=by rw[List.getD_eq_getElem?_getD,List.getElem?_eq_getElem hi'];rfl
            show WkB ((SB.inst _ _ (sg.Hout.getD i _)).ren _) ((SB.shift _ _ (sg.Hout.getD i _)).inst _ _)
            rw[qmdb (e:=e) (m:=fun i=>B.getD i id) (n:=sg.Hout.length) hlnm (by rw[hg];exact (k2 _ (List.getElem_mem hi')).1)]
            exact ⟨rfl,rfl,rfl,rfl,.refl _⟩)
           (by
            intro b hb;simp only[callState] at hb ⊢
            show lnU _ _ _ _=lnOf e (if sc=true then σ.H else pinS (inL fz) 0 σ.H) b
            by_cases hex:∃ i,i<sg.Hout.length∧B.getD i id=b
            · obtain ⟨i,hi,rfl⟩:=hex;rw[hlnm i hi]
              have hib:i<B.length:=by
               refine Nat.lt_of_not_le fun hle=>?_
               have:B.getD i id=id:=by rw[List.getD_eq_getElem?_getD,List.getElem?_eq_none hle];rfl
               rw[this] at hb;simp[inL] at hb
              have hsl1:keepsLen sg i=true:=by
               cases hsl2:keepsLen sg i with
               | true=>rfl
               | false=>
                have:inL (id::((List.range B.length).filter fun i=>!keepsLen sg i).map fun i=>B.getD i id) (B.getD i id)=true:=
                 qdg.2 (List.mem_cons_of_mem _ (List.mem_map.2 ⟨i,List.mem_filter.2 ⟨List.mem_range.2 hib,by simp[hsl2]⟩,rfl⟩))
                rw[this] at hb;simp at hb
              have hiH:i<sg.Hin.length:=by omega
              unfold keepsLen at hsl1;rcases Bool.or_eq_true_iff.1 hsl1 with hsl1|hsl1
              · rw[hKP i hsl1,(hB1 i hiH).2,(hB1 i hiH).1,hlenp]
              unfold sameLen at hsl1;rw[List.getElem?_eq_getElem hiH,List.getElem?_eq_getElem hi] at hsl1;simp only[Bool.and_eq_true,beq_iff_eq] at hsl1;obtain ⟨k,hk,_,_,hkd,hktl,hkm,_⟩:=hblk i hiH;rw[qxv (List.getElem?_eq_getElem hi),qfe hsl1.1.2,hlenp,qk hk]
              have hkd2:sNil k.d=true:=by
               have:=qfh hsl1.1.1;rw[this] at hkm;simp only[mtA] at hkm;rw[← SA.beq_eq hkm];rfl
              rw[qfe hkd2,← hktl,hsl1.2]
            · unfold lnU;rw[hkey2 b fun i hi he=>hex ⟨i,List.mem_range.1 hi,he⟩]
              exact qmi outs hSp.H b)
           (by
            intro p hp;simp only[callState] at hp;obtain ⟨i,hi,rfl⟩:=List.mem_map.1 hp;have hi':=List.mem_range.1 hi;have hg:sg.Hout.getD i ⟨true,false,0,0,lit0,[]⟩ = sg.Hout[i]:=by rw[List.getD_eq_getElem?_getD,List.getElem?_eq_getElem hi'];rfl
            show ∃ xs,(SA.shift _ (sg.Hout.getD i _).d).val _=_
            rw[hg,qxe];have hk3:=(k2 _ (List.getElem_mem hi')).2;cases hd:(sg.Hout[i]).d with
            | v x=>
             have hx:x∈slOuts sg:=by
              unfold slOuts;refine List.mem_filterMap.2 ⟨sg.Hout[i],List.getElem_mem hi',?_⟩;rw[hd]
             have:=List.all_eq_true.1 hn.2.2 x hx;simp only[SA.val]
             revert this
             cases outs.getD x dfl<;>simp[D.isSl]
            | c dd=>
             rw[hd] at hk3;have:=qfh hk3;rw[this];exact ⟨[],rfl⟩) d
          have hst:{ ({ s with H:=if sc=true then s.H else pinH fz s.H }:Sta) with tm:=putO s.tm d ((sg.res.inst outs (lnL outs sg.Hout)).ren fun i=>B.getD i id),H:=updsH (if sc=true then s.H else pinH fz s.H) (outHs (fun i=>B.getD i id) (hIn outs sg.Hout)) } =
           s.appD d ⟨(sg.res.inst outs (lnL outs sg.Hout)).ren fun i=>B.getD i id,(if (!sc)=true then pinHs (avIds keep s.H l) s.H else [])++outHs (fun i=>B.getD i id) (hIn outs sg.Hout),avIds keep s.H l++(List.range (hIn (e2Of e 0 A') sg.Hin).length).map fun i=>B.getD i id⟩:=by
           unfold Sta.appD;simp only;rw[qjk,a4];cases sc with
           | true=>rfl
           | false=>simp only[Bool.not_false,if_true,Bool.false_eq_true,if_false];rw[qtm]
          refine hK _ ?_ ?_ ?_ ?_
          · rw[← hst];rw[← e6,← e7];exact hup
          · simp only[Res.log,List.map_append];rw[a4,hHin,← e8,← e6];simp only[callState]
            have h1:(outHs (fun i=>B.getD i id) (hIn outs sg.Hout)).map (·.1)=((List.range sg.Hout.length).map fun i=>(B.getD i id,(sg.Hout.getD i ⟨true,false,0,0,lit0,[]⟩).shift e.length fun i=>B.getD i id)).map (·.1):=by
             rw[qjt,List.map_map,List.map_map];rfl
            have h2:(List.range sg.Hin.length).map (fun i=>B.getD i id)=B:=by
             refine List.ext_getElem (by simp[q3]) fun i hi hi'=>?_
             simp[List.getD_eq_getElem?_getD,List.getElem?_eq_getElem hi']
            rw[h1,h2];cases sc with
            | true=>rfl
            | false=>simp only[Bool.not_false,if_true,hpk,Bool.false_eq_true,if_false]
          · intro b hb;rw[← e8] at hb
            split at hb
            · simp at hb
            · exact qdh.1 (k3 b hb)
          · rw[← e7];rfl
       · simp at hc
     · simp at hc
   · simp at h
 · simp at h
end
end Am

namespace Am
open Go
variable {P:Program} {G:Glob}
section
variable {σ σ1:SS} {e e':Env} {s:Sta} {kk id:Nat}
mutual
theorem qdqb {m:Nat→Nat} {n:Nat} {ln:Nat→Nat} (hm:∀ b,b<n→m b=b):∀ {v:SV},v.has (fun b=>Nat.ble n b)=false→(v.inst e ln).ren m=v.inst e ln
 | .atm _,_=>rfl
 | .nils,_=>rfl
 | .agg cs,h=>by simp only[SV.inst,AV.ren,qgc];rw[qle hm (l:=cs) h]
 | .tup cs,h=>by simp only[SV.inst,AV.ren,qgc];rw[qle hm (l:=cs) h]
 | .own b,h=>by simp only[SV.inst,AV.ren];rw[hm b (qmb h)]
 | .ptr b _ _,h=>by simp only[SV.inst,AV.ren];rw[hm b (qmb h)]
 | .px b _ _,h=>by simp only[SV.inst,AV.ren];rw[hm b (qmb h)]
 | .ep _,_=>rfl
 | .clo _ a b,h=>by
  simp only[SV.has,Bool.or_eq_false_iff] at h;simp only[SV.inst,AV.ren,qgc];rw[qle hm h.1,qle hm h.2]
 | .junk,_=>rfl
theorem qle {m:Nat→Nat} {n:Nat} {ln:Nat→Nat} (hm:∀ b,b<n→m b=b):∀ {l:List SV},SV.hasL (fun b=>Nat.ble n b) l=false→(SV.instL e ln l).map (AV.ren m)=SV.instL e ln l
 | [],_=>rfl
 | c::cs,h=>by
  simp only[SV.hasL,Bool.or_eq_false_iff] at h;simp only[SV.instL,List.map_cons];rw[qdqb hm h.1,qle hm h.2]
end
theorem qqvb {m:Nat→Nat} {n:Nat} {ln:Nat→Nat} (hm:∀ b,b<n→m b=b) {k:SB} (h:rowsBelow n k=true):(k.inst e ln).ren m=k.inst e ln:=by
 simp only[SB.inst,Blk.ren]
 congr 1
 simp only[SB.rows,List.map_append,List.map_map]
 congr 1
 · refine List.map_congr_left fun r _=>?_
   simp only[Function.comp,List.map_map];exact List.map_congr_left fun d _=>rfl
 · refine List.map_congr_left fun r hr=>?_
   simp only[Function.comp];exact qle hm (qyb (List.all_eq_true.1 h r hr))
theorem qbcb (hS:Sat e σ s) {T:Tab} (hT:TOK P T) {x:ResultVar} {v:SV} (h:sResult T σ e.length x=some v):∃ a,resA P s x=some a∧Wk a (v.inst e (lnOf e σ.H)):=by
 cases x with
 | tmp t=>simp only[sResult] at h;cases h;exact ⟨_,rfl,hS.get t⟩
 | cell a ty=>
  simp only[sResult] at h
  split at h
  · rename_i tf htf;have ht:=hT _ _ htf
    split at h
    · rename_i hc;simp only[Bool.and_eq_true] at hc
      split at h
      · rename_i r hr
        split at h
        · rename_i hem;cases h;obtain ⟨av,h1,h2,_⟩:=qwz (e':=e) hS (hS.get a) (hS.tm a) hr (by rw[List.isEmpty_iff.1 hem];rfl)
          refine ⟨av,?_,h2⟩;simp only[resA,ht.ti,ht.tu,hc.1,hc.2,and_self,if_true,ht.agg,ht.sz,h1]
        · simp at h
      · simp at h
    · simp at h
  · simp at h
theorem qrw (hS:Sat e σ s) {T:Tab} (hT:TOK P T):∀ {l:List ResultVar} {vs:List SV},sResults T σ e.length l=some vs→∃ as,resAll P s l=some as∧WkL as (SV.instL e (lnOf e σ.H) vs):=by
 intro l
 induction l with
 | nil=>intro vs h;simp only[sResults] at h;cases h;exact ⟨[],rfl,.nil⟩
 | cons x l ih=>
  intro vs h;simp only[sResults] at h
  split at h
  · rename_i a l' h1 h2;cases h;obtain ⟨av,g1,g2⟩:=qbcb hS hT h1;obtain ⟨as,g3,g4⟩:=ih h2;exact ⟨av::as,by simp only[resAll,g1,g3],.cons g2 g4⟩
  · simp at h
theorem qnzb {ln:Nat→Nat} {as:List AV} {vs:List SV} (h:WkL as (SV.instL e ln vs)):Wk (tupA as) ((tupS vs).inst e ln):=by
 match vs,as,h with
 | [],as,h=>rw[h.inv_nil];exact .refl _
 | [v],as,h=>
  obtain ⟨a,as',rfl,h1,h2⟩:=h.inv_cons;rw[h2.inv_nil];exact h1
 | v::w::vs,as,h=>
  obtain ⟨a,as',rfl,h1,h2⟩:=h.inv_cons;obtain ⟨b,as'',rfl,h3,h4⟩:=h2.inv_cons;exact .tup _ _ h.1 h.2
theorem qwf {ln:Nat→Nat} (v:SV):resList (v.inst e ln)=SV.instL e ln (resLS v):=by
 cases v<;>rfl
theorem qot (hS:Sat e σ s) {gi:GI} (hT:TOK P gi.T) {A:List SA} (h:finish gi σ e.length=some A):A.length=gi.sig.nout∧EWF (A.map (·.val e))∧
 ∀ ex,(ex = .normal∨ex = .ret)→Fin P gi.fn gi.sig.Hin.length (hIn (A.map (·.val e)) gi.sig.Hout) (gi.sig.res.inst (A.map (·.val e)) (lnL (A.map (·.val e)) gi.sig.Hout)) ex s:=by
 unfold finish at h
 split at h
 · simp at h
 · rename_i vs hvs
   dsimp only at h
   split at h
   · simp at h
   · rename_i A' hA;generalize hkeep:(!(!(ownIds (resLS (tupS vs))).isEmpty&&(ownIds (resLS gi.sig.res)).isEmpty) && !(hasNil (resLS (tupS vs)) && !hasNil (resLS gi.sig.res)))=keep at h;generalize hfz:(if keep=true then [] else ownIds (resLS (tupS vs)))=fz at h
     split at h
     · rename_i hc;simp only[Bool.and_eq_true,beq_iff_eq] at hc;obtain ⟨⟨⟨⟨⟨⟨⟨q1,q2⟩,q3⟩,q4⟩,q5⟩,q6⟩,q7⟩,q8⟩:=hc;cases h;refine ⟨q1,hS.wf.map q2,fun ex hex=>⟨hex,?_⟩⟩
       obtain ⟨as,g1,g2⟩:=qrw hS hT hvs;have hB:=qsrb (id:=0) hS q5 (by simp) (fun p hp=>List.all_eq_true.1 q7 p hp)
       obtain ⟨hB1,_,hblk⟩:=hB;rw[qiq] at hB1
       obtain ⟨a1,a2,a3,a4⟩:=qjlb hS (n:=gi.sig.Hout.length) (lnI:=lnL (A.map (·.val e)) gi.sig.Hout) (m:=fun i=>(List.range gi.sig.Hout.length).getD i 0) (fun i hi=>⟨rfl,(hB1 i hi).2⟩) q4 (qyb q6)
       rw[qiq] at a2
       have hm:∀ b,b<gi.sig.Hout.length→(fun i=>(List.range gi.sig.Hout.length).getD i 0) b=b:=fun b hb=>by
        simp[List.getD_eq_getElem?_getD,hb]
       rw[qle hm (qyb q6)] at a2
       have hnj:(tupS vs).nj=true:=by
        revert a1
        cases tupS vs<;>simp[resLS,SV.njL,SV.nj]
       have hr0:tupA as=(tupS vs).inst e (lnOf e σ.H):=qjz _ hnj (qnzb g2);refine ⟨keep,(tupS vs).inst e (lnOf e σ.H),?_,?_,?_,?_,?_,?_,?_⟩
       · simp only[finA,g1,hr0]
       · rw[qwf];exact a3
       · rw[qwf,← a2]
         revert q3
         cases hv:tupS vs with
         | tup l=>
          cases hr:gi.sig.res with
          | tup ps=>intro _;rfl
          | _=>intro h;simp[isTup] at h
         | _=>
          cases hr:gi.sig.res with
          | tup ps=>intro h;simp[isTup] at h
          | _=>intro _;rfl
       · simp only[hIn,List.length_map];exact Nat.le_of_ble_eq_true q8
       · intro i hi;have hi':i<gi.sig.Hout.length:=by simpa [hIn] using hi
         obtain ⟨k,_,_,_,_,_,_,hp⟩:=hblk i hi';rw[qwf,a4,hfz];have hgi:(List.range gi.sig.Hout.length).getD i 0=i:=hm i hi';rw[hgi] at hp;rw[hp,qqvb hm (List.all_eq_true.1 q7 _ (List.getElem_mem hi')),qiq];simp[hIn]
       · intro b hb row hrow;obtain ⟨p,hp,rfl⟩:=List.mem_map.1 hb
         rw[show (hIn (A.map (·.val e)) gi.sig.Hout).length=gi.sig.Hout.length by simp[hIn]]
         exact qqo (fun r hr=>qyb (List.all_eq_true.1 (List.all_eq_true.1 q7 p hp) r hr)) row hrow
       · rw[show (hIn (A.map (·.val e)) gi.sig.Hout).length=gi.sig.Hout.length by simp[hIn]]
         refine qdp ?_;have:=qyb q6
         revert this
         cases gi.sig.res<;>simp[resLS,SV.hasL,SV.has]
     · simp at h
end
end Am
