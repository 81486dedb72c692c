/- Lemmas. -/
import Derived.Test.YtefjlhhicgepfaaGreatDoorSe4
set_option linter.unusedSimpArgs false
set_option linter.unusedVariables false
set_option linter.unusedSectionVars false
open Option (bind_some map_eq_some_iff map_some)
open Nat (succ_mul zero_add)
open List (getElem_map getElem_mem map_cons)
open Bool (and_eq_true)
namespace Am
open Go
section
variable {σ:SS}{e e':Env}{s:Sta}{kk:Nat}
theorem Sat.exact(hS:Sat e σ s):Ent kk s (σ.inst e):=.wk hS.wk
theorem Sat.of_inst(jb:EWF e)(h1:∀ t,(bo σ.tm t).ok e.length=true)(h2:∀ b k,am σ.H b=some k→k.ok e.length=true)(h3:∀ b k,am σ.H b=some k→∃ xs,k.d.val e = .sl xs):Sat e σ (σ.inst e):=
 ⟨jb,h1,h2,h3,.refl _⟩
theorem qxd(p:Nat→Bool):∀ (H:List (Option SB)) (i b:Nat),am (jj p i H) b=(am H b).map fun k=>{ k with fz:=k.fz || p (i+b) }:=by
 intro H
 induction H with
 | nil=>intro i b;simp[jj,am]
 | cons a H ih=>
  intro i b;cases a with
  | none=>cases b with
   | zero=>simp[jj,am]
   | succ b=>simp only[jj,am];rw[ih,Nat.add_right_comm];rfl
  | some k=>cases b with
   | zero=>simp[jj,am]
   | succ b=>simp only[jj,am];rw[ih,Nat.add_right_comm];rfl
theorem qsg{l:List Nat}{b:Nat}:inL l b=true↔b∈l:=by
 simp[inL,List.any_eq_true]
theorem qjz(ps:List Nat)(ln:Nat→Nat)(b:Nat):dl ps (fun b=>(am σ.H b).map (·.inst e ln)) b=(am (jj (inL ps) 0 σ.H) b).map (·.inst e ln):=by
 rw[qxd];unfold dl
 dsimp only
 by_cases h:b∈ps
 · rw[if_pos h];cases am σ.H b with
   | none=>rfl
   | some k=>
    simp only[map_some,zero_add,qsg.2 h,Bool.or_true];rfl
 · rw[if_neg h]
   have h0:inL ps b=false:=by
    cases hb:inL ps b with
    | false=>rfl
    | true=>exact absurd (qsg.1 hb) h
   cases am σ.H b with
   | none=>rfl
   | some k=>simp only[map_some,zero_add,h0,Bool.or_false]
theorem qci(p:Nat→Bool)(H:List (Option SB))(b:Nat):ae e (jj p 0 H) b=ae e H b:=by
 unfold ae;rw[qxd];cases am H b<;>rfl
def SS.pin(σ:SS)(ps:List Nat):SS:={ σ with H:=jj (inL ps) 0 σ.H }
theorem Sat.pin(hS:Sat e σ s)(ps:List Nat):∃ s',Ent kk s s'∧s' = (σ.pin ps).inst e∧Sat e (σ.pin ps) s':=by
 have h0:({ σ.inst e with H:=dl ps (σ.inst e).H }:Sta)=(σ.pin ps).inst e:=by
  have hl:ae e (σ.pin ps).H=ae e σ.H:=funext fun b=>qci (inL ps) σ.H b
  unfold SS.inst;rw[hl];simp only[SS.pin]
  congr 1
  exact funext fun b=>qjz ps (ae e σ.H) b
 have hg:∀ b k,am (σ.pin ps).H b=some k→∃ k0,am σ.H b=some k0∧k.d=k0.d∧k.tl=k0.tl:=by
  intro b k hk;simp only[SS.pin] at hk;rw[qxd] at hk;simp only[map_eq_some_iff] at hk;obtain ⟨k0,h1,rfl⟩:=hk;exact ⟨k0,h1,rfl,rfl⟩
 refine ⟨(σ.pin ps).inst e,hS.exact.trans (by rw[← h0];exact Ent.pin ps),rfl,Sat.of_inst hS.wf hS.tm (fun b k hk=>?_) fun b k hk=>?_⟩
 · obtain ⟨k0,h1,h2,h3⟩:=hg b k hk;have:=hS.H b k0 h1;simp only[SB.ok,h2,h3] at this ⊢;exact this
 · obtain ⟨k0,h1,h2,h3⟩:=hg b k hk;rw[h2];exact hS.sl b k0 h1
theorem qrv{σ:SS}{b:Nat}{k:SB}(hk:am σ.H b=some k)(fo:k.tl.isEmpty=true)(hf:k.fz=true)(m9:∃ xs,k.d.val e = .sl xs):Wh (σ.inst e).H (.own b (ae e σ.H b) 0 (ae e σ.H b)) (.d (k.d.val e)):=by
 obtain ⟨xs,l4⟩:=m9;have hb:(σ.inst e).H b=some (k.inst e (ae e σ.H)):=by simp only[SS.inst,hk,map_some]
 rw[qr hk,qpc fo l4,l4];exact Wh.frz hb hf (qyb fo l4)
theorem Wh.ep{H:ba}{b:Nat}{blk:Blk}{row:List D}(hb:H b=some blk)(hf:blk.fz=true)(hr:blk.rows=[row.map .d]):Wh H (.ptr b 1 0 0) (.eptr row):=by
 intro w C ρ v hR h;cases h with
 | ptr _ _ _ _ _ blk' et hn h1 h=>
  rw[hb] at et;cases et;obtain ⟨r,s,hρ,rfl⟩:=h (by rw[hr];rfl)
  have hk:=hR.blk b blk hb;unfold cw at hk;rw[hρ] at hk;obtain ⟨⟨cs,lo,hi,m1,m2,m3,m4,m5,m6,m7⟩,n1,n2⟩:=hk;have de:blk.sz=row.length:=by have:=m6 0 (by rw[hr];simp);simpa [hr] using this.symm
  have key:∀ j (hj:j<row.length),∃ x,cs[j]? = some x∧x.oneCell' = true∧eb w C row[j] x:=fun j hj=>by
   obtain ⟨x,v1,v2,v3⟩:=m7 0 j (by rw[hr];simp) (by simpa [hr] using hj)
   simp only[hr,List.getElem_cons_zero,Nat.zero_mul,zero_add,getElem_map] at v1 v3;refine ⟨x,v1,v2,?_⟩;cases v3
   assumption
  have e:0*blk.sz+0=0:=by omega
  rw[e];refine .eptr row r 0 (fun j=>(cs[j]?).getD undef) (fun j hj=>?_) (fun j hj=>?_) fun j hj=>?_
  · rw[zero_add];exact n2 hf j (by rw[hr,de];simpa using hj)
  · obtain ⟨x,a,b,_⟩:=key j hj;rw[zero_add,qrb,m1];exact ⟨by simp[a],by simpa [a] using b⟩
  · obtain ⟨x,a,_,c⟩:=key j hj
    simpa [a] using c
theorem aps{H:List (Option SB)}{b i j:Nat}{as:List SA}(h:ab4 H b i j=some as):∃ k,am H b=some k∧i=0∧j=0∧im k.d=true∧k.tl=[as.map .atm]∧as.all alo=true:=by
 unfold ab4 at h
 split at h
 · rename_i k hk
   split at h
   · rename_i hc;simp only[and_eq_true,beq_iff_eq] at hc;unfold acy at h
     split at h
     · rename_i row fo
       split at h
       · rename_i as' ha
         split at h
         · rename_i h1;cases h;exact ⟨k,hk,hc.1.1,hc.1.2,hc.2,by rw[fo,qxi ha],h1⟩
         · cases h
       · cases h
     · cases h
   · cases h
 · cases h
theorem qwv{σ1 σ2:SS}{e2:Env}(hn:σ2.n=σ1.n)(oq:σ2.nx=σ1.nx)(ht:∀ t,Wh (σ1.inst e).H ((bo σ1.tm t).inst e (ae e σ1.H)) ((bo σ2.tm t).inst e2 (ae e2 σ2.H)))
 (hb:∀ b,(am σ1.H b=none∧am σ2.H b=none)∨∃ k1 k2,am σ1.H b=some k1∧am σ2.H b=some k2∧WhB (σ1.inst e).H (k1.inst e (ae e σ1.H)) (k2.inst e2 (ae e2 σ2.H))):WhS (σ1.inst e) (σ2.inst e2):=by
 refine ⟨hn,oq,ht,fun b=>?_⟩
 rcases hb b with ⟨h1,h2⟩|⟨k1,k2,h1,h2,h3⟩
 · exact .inl ⟨by simp[SS.inst,h1],by simp[SS.inst,h2]⟩
 · exact .inr ⟨_,_,by simp only[SS.inst,h1,map_some],by simp only[SS.inst,h2,map_some],h3⟩
theorem WhB.refl{H:ba}(b:Blk):WhB H b b:=⟨rfl,rfl,rfl,rfl,rfl,fun _ _ _=>rfl,fun _ _ _ _ _ _=>.refl _⟩
theorem qjy(σ:SS)(b:Nat):jj (· == b) 0 σ.H=(σ.pin [b]).H:=by
 have:(fun x=>x == b)=inL [b]:=by
  funext x
  simp only[inL,List.any_cons,List.any_nil,Bool.or_false];rw[Bool.eq_iff_iff,beq_iff_eq,beq_iff_eq];exact ⟨Eq.symm,Eq.symm⟩
 simp only[SS.pin];rw[← this]
theorem Sat.frz(hS:Sat e σ s)(t:Nat):∃ s',Ent kk s s'∧Sat e (σ.frz t) s':=by
 unfold SS.frz
 split
 · rename_i b ht
   split
   · rename_i k hk
     split
     · rename_i fo;obtain ⟨s1,e1,rfl,hS1⟩:=hS.pin (kk:=kk) [b]
       have yb:am (σ.pin [b]).H b=some { k with fz:=true }:=by
        simp only[SS.pin];rw[qxd,hk];simp[inL]
       rw[qjy];have lx:ae e ({ σ with tm:=jc σ.tm t (.atm k.d),H:=(σ.pin [b]).H }:SS).H=ae e (σ.pin [b]).H:=rfl;refine ⟨({ σ with tm:=jc σ.tm t (.atm k.d),H:=(σ.pin [b]).H }:SS).inst e,e1.trans (Ent.wh (qwv rfl rfl (fun t'=>?_) fun x=>?_)),Sat.of_inst hS.wf (fun t'=>?_) hS1.H hS1.sl⟩
       · show Wh _ _ ((bo (jc σ.tm t (.atm k.d)) t').inst e _)
         rw[qee]
         split
         · rename_i h;subst h;have:bo (σ.pin [b]).tm t' = .own b:=ht;rw[this];exact qrv (k:={ k with fz:=true }) yb fo rfl (hS.sl b k hk)
         · exact .refl _
       · cases hx:am (σ.pin [b]).H x with
         | none=>exact .inl ⟨rfl,hx ▸ rfl⟩
         | some k2=>exact .inr ⟨k2,k2,rfl,hx ▸ rfl,.refl _⟩
       · show (bo (jc σ.tm t (.atm k.d)) t').ok _=true
         rw[qee]
         split
         · have:=hS.H b k hk;simp only[SB.ok,and_eq_true] at this;have h1:=this.1;cases hd:k.d with
           | v x=>rw[hd] at h1;exact h1
           | c d=>rfl
         · exact hS.tm t'
     · exact ⟨s,.refl _ _,hS⟩
   · exact ⟨s,.refl _ _,hS⟩
 · rename_i b i j ht
   split
   · rename_i as hbx;obtain ⟨k,hk,rfl,rfl,hnl,fo,kv⟩:=aps hbx;obtain ⟨s1,e1,rfl,hS1⟩:=hS.pin (kk:=kk) [b]
     have yb:am (σ.pin [b]).H b=some { k with fz:=true }:=by
      simp only[SS.pin];rw[qxd,hk];simp[inL]
     rw[qjy];refine ⟨({ σ with tm:=jc σ.tm t (.ep as),H:=(σ.pin [b]).H }:SS).inst e,e1.trans (Ent.wh (qwv rfl rfl (fun t'=>?_) fun x=>?_)),Sat.of_inst hS.wf (fun t'=>?_) hS1.H hS1.sl⟩
     · show Wh _ _ ((bo (jc σ.tm t (.ep as)) t').inst e _)
       rw[qee]
       split
       · rename_i h;subst h;have:bo (σ.pin [b]).tm t' = .ptr b 0 0:=ht;rw[this]
         have lx:ae e (σ.pin [b]).H b=1:=by
          rw[qr yb]
          show SB.len e { k with fz:=true } = 1
          rw[qve (by exact hnl)]
          show k.tl.length=1
          rw[fo];rfl
         show Wh _ (.ptr b (ae e (σ.pin [b]).H b) 0 0) (.eptr (as.map (·.val e)))
         rw[lx];have hb:((σ.pin [b]).inst e).H b=some (({ k with fz:=true }:SB).inst e (ae e (σ.pin [b]).H)):=by simp only[SS.inst,yb,map_some]
         refine Wh.ep hb rfl ?_
         show SB.rows e _ { k with fz:=true } = _
         unfold SB.rows
         show ((k.d.val e).rows.map (·.map .d)++k.tl.map (SV.instL e _))=_
         have hd:(k.d.val e).rows=[]:=by
          have:=qsh hnl;rw[this];rfl
         rw[hd,fo];simp only[List.map_nil,List.nil_append,map_cons,qod]
       · exact .refl _
     · cases hx:am (σ.pin [b]).H x with
       | none=>exact .inl ⟨rfl,hx ▸ rfl⟩
       | some k2=>exact .inr ⟨k2,k2,rfl,hx ▸ rfl,.refl _⟩
     · show (bo (jc σ.tm t (.ep as)) t').ok _=true
       rw[qee]
       split
       · have h1:=hS.H b k hk;simp only[SB.ok,and_eq_true,fo,List.all_cons,List.all_nil,Bool.and_true] at h1;have h2:=h1.2
         show as.all (SA.ok e.length)=true
         clear fo hbx h1
         induction as with
         | nil=>rfl
         | cons a as ih=>
          simp only[map_cons,SV.okL,and_eq_true,List.all_cons] at h2 kv ⊢;refine ⟨?_,ih kv.2 h2.2⟩;cases a with
          | v x=>exact h2.1
          | c d=>exact kv.1
       · exact hS.tm t'
   · exact ⟨s,.refl _ _,hS⟩
 · exact ⟨s,.refl _ _,hS⟩
theorem Sat.frzs:∀ (l:List Nat) {σ:SS} {s:Sta},Sat e σ s→∃ s',Ent kk s s'∧Sat e (l.foldl SS.frz σ) s'
 | [],_,s,hS=>⟨s,.refl _ _,hS⟩
 | t::l,_,_,hS=>by
  obtain ⟨s1,h1,hS1⟩:=hS.frz (kk:=kk) t;obtain ⟨s2,h2,hS2⟩:=Sat.frzs l hS1;exact ⟨s2,h1.trans h2,hS2⟩
theorem Sat.preFrz(hS:Sat e σ s)(op:Op):∃ s',Ent kk s s'∧Sat e (preFrz σ op) s':=by
 unfold Am.preFrz
 split
 · split
   · exact hS.frz _
   · exact ⟨s,.refl _ _,hS⟩
 · exact ⟨s,.refl _ _,hS⟩
theorem qwy(hS:Sat e σ s){b:Nat}:∀ {l:List SV} {as:List SA} {ps:List Nat},dv σ.H b l=some (as,ps)→as.length=l.length∧(b ∉ ps)∧∀ (ps':List Nat),(∀ x∈ps,x∈ps')→
 ∀ (i:Nat) (v:SV) (q:SA),l[i]? = some v→as[i]? = some q→Wh ((σ.pin ps').inst e).H (v.inst e (ae e σ.H)) (.d (q.val e)):=by
 intro l
 induction l with
 | nil=>intro as ps h;simp only[dv] at h;cases h;exact ⟨rfl,by simp,fun _ _ i v q hv=>by simp at hv⟩
 | cons c l ih=>
  intro as ps h
  have step:∀ (q0:SA) (ps0:List Nat) (as1:List SA) (ps1:List Nat),dv σ.H b l=some (as1,ps1)→as=q0::as1→ps=ps0++ps1→b ∉ ps0→
   (∀ (ps':List Nat),(∀ x∈ps,x∈ps')→Wh ((σ.pin ps').inst e).H (c.inst e (ae e σ.H)) (.d (q0.val e)))→as.length=(c::l).length∧(b ∉ ps)∧∀ (ps':List Nat),(∀ x∈ps,x∈ps')→
   ∀ (i:Nat) (v:SV) (q:SA),(c::l)[i]? = some v→as[i]? = some q→Wh ((σ.pin ps').inst e).H (v.inst e (ae e σ.H)) (.d (q.val e)):=by
   intro q0 ps0 as1 ps1 h1 h2 h3 h4 h5;obtain ⟨g1,g2,g3⟩:=ih h1;subst h2;refine ⟨by simp[g1],by rw[h3];simp[h4,g2],fun ps' hps i v q hv hq=>?_⟩
   cases i with
   | zero=>simp at hv hq;subst hv;subst hq;exact h5 ps' hps
   | succ i=>exact g3 ps' (fun x hx=>hps x (by rw[h3];simp[hx])) i v q (by simpa using hv) (by simpa using hq)
  cases c with
  | atm q0=>
   simp only[dv] at h
   split at h
   · rename_i r hr;cases h;exact step q0 [] r.1 r.2 hr rfl rfl (by simp) fun _ _=>.refl _
   · simp at h
  | nils=>
   simp only[dv] at h
   split at h
   · rename_i r hr;cases h;exact step gm [] r.1 r.2 hr rfl rfl (by simp) fun _ _=>Wh.nils
   · simp at h
  | clo f x y=>
   cases x with
   | cons=>simp[dv] at h
   | nil=>cases y with
    | cons=>simp[dv] at h
    | nil=>
     simp only[dv] at h
     split at h
     · rename_i r hr;cases h;exact step _ [] r.1 r.2 hr rfl rfl (by simp) fun _ _=>Wh.fn f
     · simp at h
  | own c=>
   simp only[dv] at h
   split at h
   · simp at h
   · rename_i dc
     split at h
     · rename_i k r hk hr
       split at h
       · rename_i fo;cases h;refine step k.d [c] r.1 r.2 hr rfl rfl (by simpa using fun h=>dc (by simpa using h.symm)) fun ps' hps=>?_
         have yb:am (σ.pin ps').H c=some { k with fz:=true }:=by
          simp only[SS.pin];rw[qxd,hk];simp[qsg.2 (hps c (by simp))]
         have:=qrv (e:=e) (k:={ k with fz:=true }) yb fo rfl (hS.sl c k hk);have hl:ae e (σ.pin ps').H c=ae e σ.H c:=qci (inL ps') σ.H c;rw[hl] at this;exact this
       · simp at h
     · simp at h
  | _=>simp[dv] at h
theorem a6s{α:Type}{sz:Nat}:∀ {rows:List (List α)},(∀ r∈rows,r.length=sz)→∀ (i j:Nat) (hi:i<rows.length) (hj:j<(rows[i]).length),rows.flatten[i*sz+j]? = some (rows[i])[j]:=by
 intro rows
 induction rows with
 | nil=>intro _ i j hi;simp at hi
 | cons r rows ih=>
  intro h i j hi hj;have hr:=h r (by simp)
  cases i with
  | zero=>
   simp only[List.flatten_cons,Nat.zero_mul,zero_add,List.getElem_cons_zero] at hj ⊢;rw[List.getElem?_append_left hj];exact List.getElem?_eq_getElem hj
  | succ i=>
   simp only[List.getElem_cons_succ] at hj ⊢;have bn:i<rows.length:=by simpa using hi
   rw[List.flatten_cons,List.getElem?_append_right (by rw[hr,succ_mul];omega),hr]
   have:(i+1)*sz+j-sz=i*sz+j:=by rw[succ_mul];omega
   rw[this];exact ih (fun r hr=>h r (by simp[hr])) i j bn hj
theorem avy{sz:Nat}:∀ {n:Nat} {l:List D},l.length=n*sz→∀ (i j:Nat),i<n→j<sz→((dp sz n l)[i]?).bind (·[j]?)=l[i*sz+j]?:=by
 intro n
 induction n with
 | zero=>intro l _ i j hi;omega
 | succ n ih=>
  intro l hl i j hi hj;rw[succ_mul] at hl;cases i with
  | zero=>simp[dp,hj]
  | succ i=>
   simp only[dp,List.getElem?_cons_succ];rw[ih (l:=l.drop sz) (by simp;omega) i j (by omega) hj,List.getElem?_drop]
   congr 1
   rw[succ_mul];omega
theorem aub{sz:Nat}:∀ {n:Nat} {l:List D},l.length=n*sz→∀ r∈dp sz n l,r.length=sz:=by
 intro n
 induction n with
 | zero=>intro l _ r hr;simp[dp] at hr
 | succ n ih=>
  intro l hl r hr;rw[succ_mul] at hl;simp only[dp,List.mem_cons] at hr;rcases hr with rfl|hr
  · simp;omega
  · exact ih (by simp;omega) r hr
theorem aqt(hS:Sat e σ s){b:Nat}{em:List (PO × List SA)}{σ':SS}(h:aaf σ e.length b=some (em,σ'))(hr:db em e=some e'):∃ s',Ent kk s s'∧Sat e' σ' s':=by
 unfold aaf at h
 split at h
 · rename_i k hk
   split at h
   · rename_i hc;simp only[and_eq_true,Bool.not_eq_true',List.all_eq_true,beq_iff_eq] at hc
     split at h
     · rename_i as ps f9
       split at h
       · rename_i hok;obtain ⟨g1,g2,g3⟩:=qwy hS f9;obtain ⟨xs,l4⟩:=hS.sl b k hk;have hkk:=hS.H b k hk;simp only[SB.ok,and_eq_true] at hkk;obtain ⟨s1,e1,rfl,hS1⟩:=hS.pin (kk:=kk) ps
         have yb:am (σ.pin ps).H b=some k:=by
          simp only[SS.pin];rw[qxd,hk]
          have:inL ps b=false:=by
           cases hb:inL ps b with
           | false=>rfl
           | true=>exact absurd (qsg.1 hb) g2
          simp[this]
         have fin:∀ (o:Env) (q:SA) (ys:List (List D)),EWF o→q.ok (e.length+o.length)=true→as.length=k.tl.length*k.sz→ys=dp k.sz k.tl.length (as.map (·.val e))→q.val (e++o) = .sl (xs++ys)→
          ∃ s',Ent kk s s'∧Sat (e++o) { σ with H:=g9 (jj (inL ps) 0 σ.H) b { k with d:=q,tl:=[] } } s':=by
          intro o q ys jb hq an xu hqv
          let σ2:SS:={ σ with H:=g9 (jj (inL ps) 0 σ.H) b { k with d:=q,tl:=[] } }
          have aa4:(as.map (·.val e)).length=k.tl.length*k.sz:=by simpa using an
          have hg2:∀ x,am σ2.H x=if x=b then some { k with d:=q,tl:=[] } else am (σ.pin ps).H x:=fun x=>qbc _ _ _ _
          have hkl:({ k with d:=q,tl:=[] }:SB).len (e++o)=k.len e:=by
           rw[qpc (k:={ k with d:=q,tl:=[] }) rfl hqv];simp[SB.len,l4,D.rows,xu,qxj]
          have lx:ae (e++o) σ2.H=ae e (σ.pin ps).H:=by
           funext x
           show ae (e++o) (g9 (jj (inL ps) 0 σ.H) b _) x=_
           rw[qge]
           split
           · rename_i hx;subst hx;rw[hkl,qr yb]
           · exact qoj o hS1.H x
          have awk:ae e (σ.pin ps).H=ae e σ.H:=funext fun x=>qci (inL ps) σ.H x
          have hm:e.length≤(e++o).length:=by simp
          refine ⟨σ2.inst (e++o),e1.trans (Ent.wh (qwv rfl rfl (fun t=>?_) fun x=>?_)),Sat.of_inst (hS.wf.append jb) (fun t=>SV.ok_mono hm (hS.tm t)) (fun x k' lu=>?_) fun x k' lu=>?_⟩
          · rw[lx]
            show Wh _ ((bo σ.tm t).inst e _) ((bo σ.tm t).inst (e++o) _)
            rw[SV.inst_ext o _ (hS.tm t)];exact .refl _
          · rw[lx]
            by_cases hx:x=b
            · subst hx;refine .inr ⟨k,({ k with d:=q,tl:=[] }:SB),yb,by rw[hg2,if_pos rfl],⟨rfl,rfl,rfl,rfl,?_,?_,?_⟩⟩
              · show (SB.rows _ _ _).length=(SB.rows _ _ _).length
                rw[SB.rows_len,SB.rows_len,hkl]
              all_goals
               have um:(({ k with d:=q,tl:=[] }:SB).inst (e++o) (ae e (σ.pin ps).H)).rows=xs.map (·.map .d)++ys.map (·.map .d):=by
                show SB.rows _ _ _=_
                rw[qyb (k:={ k with d:=q,tl:=[] }) rfl hqv,List.map_append]
               have py:(k.inst e (ae e (σ.pin ps).H)).rows=xs.map (·.map .d)++k.tl.map (SV.instL e (ae e σ.H)):=by
                show SB.rows _ _ _=_
                rw[SB.rows,l4,awk];rfl
               simp only[py,um]
              · intro i hi bn
                by_cases hxl:i<(xs.map (·.map AV.d)).length
                · rw[List.getElem_append_left hxl,List.getElem_append_left hxl]
                · rw[List.getElem_append_right (by omega),List.getElem_append_right (by omega)]
                  simp only[getElem_map,List.length_map,qgb];have hj:i-xs.length<k.tl.length:=by simp at hi hxl;omega
                  have hj2:i-xs.length<ys.length:=by rw[xu,qxj];exact hj
                  have a1:=aub aa4 (ys[i-xs.length]'hj2) (by rw[← xu];exact getElem_mem _)
                  have a2:=hc.2 (k.tl[i-xs.length]'hj) (getElem_mem _);rw[a1,a2]
              · intro i hi bn j hj gb
                by_cases hxl:i<(xs.map (·.map AV.d)).length
                · have h1:(xs.map (·.map AV.d)++k.tl.map (SV.instL e (ae e σ.H)))[i]=(xs.map (·.map AV.d))[i]:=List.getElem_append_left hxl
                  have h2:(xs.map (·.map AV.d)++ys.map (·.map AV.d))[i]=(xs.map (·.map AV.d))[i]:=List.getElem_append_left hxl
                  simp only[h1,h2];exact .refl _
                · have zo:(xs.map (·.map AV.d)).length≤i:=by omega
                  have h1:(xs.map (·.map AV.d)++k.tl.map (SV.instL e (ae e σ.H)))[i]=SV.instL e (ae e σ.H) (k.tl[i-xs.length]'(by simp at hi zo;omega)):=by
                   rw[List.getElem_append_right zo];simp
                  have h2:(xs.map (·.map AV.d)++ys.map (·.map AV.d))[i]=(ys[i-xs.length]'(by simp at bn zo;omega)).map .d:=by
                   rw[List.getElem_append_right zo];simp
                  simp only[h1] at hj ⊢;simp only[h2] at gb ⊢;have s9:i-xs.length<k.tl.length:=by simp at hi zo;omega
                  rw[qgb] at hj;have hjs:j<k.sz:=by rw[← hc.2 _ (getElem_mem s9)];exact hj
                  have f1:=a6s (fun r hr=>hc.2 r hr) (i-xs.length) j s9 hj
                  have f2:=avy aa4 (i-xs.length) j s9 hjs;rw[← xu,List.getElem?_eq_getElem (show i-xs.length<ys.length by simp at bn zo;omega),bind_some,List.getElem?_eq_getElem (show j<(ys[i-xs.length]'(by simp at bn zo;omega)).length by simpa using gb),List.getElem?_map] at f2
                  have f2:=f2.symm;rw[map_eq_some_iff] at f2;obtain ⟨q0,hq0,hq1⟩:=f2;have:=g3 ps (fun _ h=>h) _ _ _ f1 hq0
                  simp only[SV.instL_map,getElem_map];rw[← hq1];exact this
            · cases hxx:am (σ.pin ps).H x with
              | none=>exact .inl ⟨rfl,by rw[hg2,if_neg hx,hxx]⟩
              | some k2=>
               refine .inr ⟨k2,k2,rfl,by rw[hg2,if_neg hx,hxx],?_⟩
               rw[SB.inst_ext o (hS1.H x k2 hxx)];exact .refl _
          · rw[hg2] at lu
            split at lu
            · cases lu;simp only[SB.ok,and_eq_true,List.all_nil,and_true,List.length_append];exact hq
            · exact SB.ok_mono hm (hS1.H x k' lu)
          · rw[hg2] at lu
            split at lu
            · cases lu;exact ⟨_,hqv⟩
            · obtain ⟨zs,hzs⟩:=hS1.sl x k' lu;have:=hS1.H x k' lu;simp only[SB.ok,and_eq_true] at this;exact ⟨zs,by rw[SA.val_ext o this.1];exact hzs⟩
         have aet:EWF (as.map (·.val e)):=hS.wf.map hok
         split at h
         · rename_i hn;cases h;obtain ⟨o,ho,rfl⟩:=qrc hr;obtain ⟨h1,rfl⟩:=adv ho;have hx0:xs=[]:=by rw[qsh hn] at l4;simpa [SA.val] using l4.symm
           refine fin _ (.v e.length) _ (fun d hd=>?_) (by simp[SA.ok]) (by simpa using h1) rfl ?_
           · simp at hd;subst hd;exact .sl _ fun r hr c ly=>aet c (qmk hr c ly)
           · rw[hx0];exact qbb e _ []
         · cases h;obtain ⟨o,o',ho,u5,rfl⟩:=adx hr;obtain ⟨h1,rfl⟩:=adv ho;simp only[map_cons,List.map_nil] at u5;rw[SA.val_ext _ hkk.1,qbb] at u5;obtain ⟨xs',ys,h2,h3,rfl⟩:=a1j u5;rw[l4] at h2;cases h2;cases h3
           have hch:D.WF (.sl (dp k.sz k.tl.length (as.map (·.val e)))):=.sl _ fun r hr c ly=>aet c (qmk hr c ly)
           have hxw:D.WF (.sl xs):=by have:=SA.val_wf hS.wf hkk.1;rwa [l4] at this
           refine fin _ (.v (e.length+1)) _ (fun d hd=>?_) (by simp[SA.ok]) (by simpa using h1) rfl (by simp[SA.val])
           simp at hd;rcases hd with rfl|rfl
           · exact hch
           · exact .sl _ fun r hr=>(List.mem_append.1 hr).elim (hxw.rows r) (hch.rows r)
       · simp at h
     · simp at h
   · simp at h
 · simp at h
theorem qle:∀ {l:List Nat} {σ:SS} {e e':Env} {s:Sta} {em:List (PO × List SA)} {σ':SS} {m:Nat},Sat e σ s→gk σ e.length l=some (em,σ',m)→db em e=some e'→e'.length=m∧∃ s',Ent kk s s'∧Sat e' σ' s':=by
 intro l
 induction l with
 | nil=>
  intro σ e e' s em σ' m hS h hr;simp only[gk] at h;cases h;obtain rfl:=qdd hr;exact ⟨rfl,s,.refl _ _,hS⟩
 | cons b l ih=>
  intro σ e e' s em σ' m hS h hr;simp only[gk] at h
  split at h
  · rename_i em1 σ1 h1
    split at h
    · rename_i em2 r h2;cases h
      have s6:∀ (a b:List (PO × List SA)) (e:Env),db (a++b) e=(db a e).bind (db b):=by
       intro a
       induction a with
       | nil=>intro b e;rfl
       | cons p a ih=>
        intro b e;simp only[List.cons_append,db]
        split
        · exact ih b _
        · rfl
      rw[s6] at hr;cases py:db em1 e with
      | none=>rw[py] at hr;simp at hr
      | some e1=>
       rw[py] at hr;simp only[bind_some] at hr;obtain ⟨s1,g1,hS1⟩:=aqt (kk:=kk) hS h1 py;obtain ⟨o,rfl,hl⟩:=qje py;have h2':gk σ1 (e++o).length l=some (em2,σ',m):=by simpa [hl] using h2
       obtain ⟨h3,s2,g2,hS2⟩:=ih hS1 h2' hr;exact ⟨h3,s2,g1.trans g2,hS2⟩
    · simp at h
  · simp at h
end
end Am

namespace Am
open Go
section
variable {σ:SS}{e e':Env}{s:Sta}{kk:Nat}
theorem Sat.kill(hS:Sat e σ s)(p:Nat→Bool):Sat e (σ.kill p) s:=by
 have lx:ae e (σ.kill p).H=ae e σ.H:=funext fun b=>qzl e σ p b
 refine ⟨hS.wf,fun t=>?_,fun b k hk=>?_,fun b k hk=>?_,⟨hS.wk.n,hS.wk.nx,fun t=>?_,fun b=>?_⟩⟩
 · rw[qoe];exact SV.kill_ok p (hS.tm t)
 · rw[qsc] at hk;simp only[map_eq_some_iff] at hk;obtain ⟨k',lu,rfl⟩:=hk;exact SB.kill_ok p (hS.H b k' lu)
 · rw[qsc] at hk;simp only[map_eq_some_iff] at hk;obtain ⟨k',lu,rfl⟩:=hk;exact hS.sl b k' lu
 · show Wk _ ((bo (σ.kill p).tm t).inst e (ae e (σ.kill p).H))
   rw[lx,qoe];exact SV.kill_wk (fun _ _=>rfl) _ (hS.get t)
 · show WkO _ ((am (σ.kill p).H b).map (·.inst e (ae e (σ.kill p).H)))
   rw[lx,qsc];have:=hS.wk.H b;simp only[SS.inst] at this;cases hb:am σ.H b with
   | none=>rw[hb] at this;exact this
   | some k=>
    rw[hb] at this;cases hx:s.H b with
    | none=>rw[hx] at this;exact this.elim
    | some x=>
     rw[hx] at this;obtain ⟨h1,h2,h3,h4,h5⟩:WkB x (k.inst e (ae e σ.H)):=this;exact ⟨h1,h2,h3,h4,qst (fun _ _=>rfl) h5⟩
theorem qup(p:Nat→Bool)(v:SV):(v.kill p).has p=false:=by
 unfold SV.kill
 split
 · rfl
 · rename_i h;simpa using h
theorem qav{ln ln':Nat→Nat}{p:Nat→Bool}(hp:∀ b,p b=false→ln b=ln' b){l:List SV}(h:∀ v∈l,v.has p=false):SV.instL e ln l=SV.instL e ln' l:=by
 rw[SV.instL_map,SV.instL_map];exact List.map_congr_left fun v hv=>SV.inst_ln hp (h v hv)
theorem qsy(p:Nat→Bool)(k:SB):∀ r∈(k.kill p).tl,∀ v∈r,v.has p=false:=by
 intro r hr v hv;simp only[SB.kill] at hr;obtain ⟨r',_,rfl⟩:=List.mem_map.1 hr;obtain ⟨v',_,rfl⟩:=List.mem_map.1 hv;exact qup p v'
theorem qrr{ln ln':Nat→Nat}{p:Nat→Bool}(hp:∀ b,p b=false→ln b=ln' b){k:SB}(h:∀ r∈k.tl,∀ v∈r,v.has p=false):k.inst e ln=k.inst e ln':=by
 simp only[SB.inst,SB.rows]
 congr 2
 exact List.map_congr_left fun r hr=>qav hp (h r hr)
theorem ask(hS0:Sat e σ s){g:Gh}{σ':SS}(h:aae σ g=some σ'):∃ s',Ent kk s s'∧Sat e σ' s':=by
 have hp:∀ x,((· == σ.nx):Nat→Bool) x=false→∀ n,ae e σ.H x=(if x=σ.nx then n else ae e σ.H x):=fun x hx n=>by rw[if_neg (by simpa using hx)]
 have hS:=hS0.kill (· == σ.nx)
 have lx:ae e (σ.kill (· == σ.nx)).H=ae e σ.H:=funext fun b=>qzl e σ _ b
 unfold aae at h
 dsimp only at h
 split at h
 · split at h
   · rename_i m9;cases h
     have hk:bo (σ.kill (· == σ.nx)).tm g.slot = .nils:=by rw[qoe,m9];rfl
     have e1:=hS.exact (kk:=kk)
     have ht:((σ.kill (· == σ.nx)).inst e).tm g.slot = .nils:=by simp only[SS.inst,hk];rfl
     have e2:=Ent.ghost (k:=kk) g.ty g.sz ht
     have hl2:ae e (g9 (σ.kill (· == σ.nx)).H σ.nx { fz:=false,ap:=true,ty:=g.ty,sz:=g.sz,d:=gm,tl:=[] })=fun x=>if x=σ.nx then 0 else ae e σ.H x:=by
      funext x
      rw[qge,lx];rfl
     refine ⟨_,(e1.trans e2).trans (Ent.wk (s0:=SS.inst e { σ.kill (· == σ.nx) with tm:=jc (σ.kill (· == σ.nx)).tm g.slot (.own σ.nx),H:=g9 (σ.kill (· == σ.nx)).H σ.nx { fz:=false,ap:=true,ty:=g.ty,sz:=g.sz,d:=gm,tl:=[] },nx:=σ.nx+1 }) ⟨rfl,rfl,fun t=>?_,fun b=>?_⟩),Sat.of_inst hS.wf (fun t=>?_) (fun b k hk=>?_) fun b k hk=>?_⟩
     · show Wk (nr _ g.slot _ t) ((bo (jc _ g.slot (.own σ.nx)) t).inst e (ae e (g9 _ σ.nx _)))
       rw[hl2,qee];simp only[nr]
       split
       · simp only[SV.inst,if_true];exact .refl _
       · have : (bo (σ.kill (· == σ.nx)).tm t).inst e (ae e (σ.kill (· == σ.nx)).H) = (bo (σ.kill (· == σ.nx)).tm t).inst e fun x => if x = σ.nx then 0 else ae e σ.H x := by
          rw[lx,qoe]
          exact SV.inst_ln (p:=(· == σ.nx)) (fun b hb=>hp b hb 0) (qup _ _)
         simp only[SS.inst,this];exact .refl _
     · dsimp only[SS.inst]
       rw[hl2,qbc];unfold co;have oq:(SS.kill (fun x=>x == σ.nx) σ).nx=σ.nx:=rfl
       rw[oq]
       split
       · exact ⟨rfl,rfl,rfl,rfl,.refl _⟩
       · simp only[];rw[lx,qsc];cases hb:am σ.H b with
         | none=>trivial
         | some k0=>
          simp only[map_some]
          rw[qrr (p:=(· == σ.nx)) (fun b hb=>hp b hb 0) (qsy _ k0)]
          exact ⟨rfl,rfl,rfl,rfl,.refl _⟩
     · show (bo (jc _ g.slot (.own σ.nx)) t).ok _=true
       rw[qee]
       split
       · rfl
       · exact hS.tm t
     · rw[qbc] at hk
       split at hk
       · cases hk;rfl
       · exact hS.H b k hk
     · rw[qbc] at hk
       split at hk
       · cases hk;exact ⟨[],rfl⟩
       · exact hS.sl b k hk
   · simp at h
 · rename_i b i j bp
   split at h
   · simp at h
   · rename_i hbn;have a2j:b≠σ.nx:=by simpa using hbn
     split at h
     · rename_i q hq
       split at h
       · rename_i ob
         split at h
         · rename_i r hr
           split at h
           · rename_i hnl;cases h;have e1:=hS.exact (kk:=kk);obtain ⟨hi,hri⟩:=List.getElem?_eq_some_iff.1 hr;obtain ⟨hj,hrj⟩:=List.getElem?_eq_some_iff.1 hnl
             have cx:(q.inst e (ae e (σ.kill (· == σ.nx)).H)).rows=q.tl.map (SV.instL e (ae e (σ.kill (· == σ.nx)).H)):=qfe ob
             have hb:((σ.kill (· == σ.nx)).inst e).H b=some (q.inst e (ae e (σ.kill (· == σ.nx)).H)):=by simp only[SS.inst,hq,map_some]
             have bn:i<(q.inst e (ae e (σ.kill (· == σ.nx)).H)).rows.length:=by rw[cx];simpa using hi
             have ak:(q.inst e (ae e (σ.kill (· == σ.nx)).H)).rows[i]=SV.instL e (ae e (σ.kill (· == σ.nx)).H) r:=by
              simp only[cx,getElem_map,hri]
             have gb:j<((q.inst e (ae e (σ.kill (· == σ.nx)).H)).rows[i]).length:=by rw[ak,qgb];exact hj
             have hc:((q.inst e (ae e (σ.kill (· == σ.nx)).H)).rows[i])[j] = .nils:=by
              simp only[ak,SV.instL_map,getElem_map,hrj];rfl
             have e2:=Ent.ghostH (k:=kk) b i j g.ty g.sz hb bn gb hc
             obtain ⟨q0,hq0,hqq⟩:∃ q0,am σ.H b=some q0∧q=q0.kill (· == σ.nx):=by
              rw[qsc] at hq;simp only[map_eq_some_iff] at hq;obtain ⟨q0,h1,h2⟩:=hq;exact ⟨q0,h1,h2.symm⟩
             have hqt:∀ r∈q.tl,∀ v∈r,v.has (· == σ.nx)=false:=by rw[hqq];exact qsy _ q0
             have akg:im ({ q with tl:=q.tl.set i (r.set j (.own σ.nx)) }:SB).d=true:=ob
             have hl2:ae e (g9 (g9 (σ.kill (· == σ.nx)).H σ.nx { fz:=false,ap:=true,ty:=g.ty,sz:=g.sz,d:=gm,tl:=[] }) b { q with tl:=q.tl.set i (r.set j (.own σ.nx)) })=fun x=>if x=σ.nx then 0 else ae e σ.H x:=by
              funext x
              rw[qge,qge,lx]
              by_cases hx:x=b
              · subst hx;rw[if_pos rfl,if_neg a2j,← lx,qr hq,qve akg,qve ob];simp
              · rw[if_neg hx];rfl
             have a61:q.inst e (ae e (σ.kill (· == σ.nx)).H)=q.inst e fun x=>if x=σ.nx then 0 else ae e σ.H x:=by
              rw[lx];exact qrr (p:=(· == σ.nx)) (fun b hb=>hp b hb 0) hqt
             have abj:({ q with tl:=q.tl.set i (r.set j (.own σ.nx)) }:SB).inst e (fun x=>if x=σ.nx then 0 else ae e σ.H x) =
              { q.inst e (ae e (σ.kill (· == σ.nx)).H) with rows:=(q.inst e (ae e (σ.kill (· == σ.nx)).H)).rows.set i (((q.inst e (ae e (σ.kill (· == σ.nx)).H)).rows[i]).set j (.own σ.nx 0 0 0)) }:=by
              simp only[SB.inst]
              congr 1
              show SB.rows _ _ _=(SB.rows _ _ _).set i (((SB.rows _ _ _)[i]).set j _)
              have h1:q.rows e (ae e (σ.kill (· == σ.nx)).H)=q.tl.map (SV.instL e fun x=>if x=σ.nx then 0 else ae e σ.H x):=by
               rw[qfe ob,lx]
               exact List.map_congr_left fun r hr=>qav (p:=(· == σ.nx)) (fun b hb=>hp b hb 0) (hqt r hr)
              rw[qfe akg];simp only[h1,List.map_set,getElem_map,hri]
              congr 1
              simp only[SV.instL_map,List.map_set]
              congr 1
              simp only[SV.inst,if_true]
             refine ⟨_,(e1.trans e2).trans (Ent.wk (s0:=SS.inst e { σ.kill (· == σ.nx) with H:=g9 (g9 (σ.kill (· == σ.nx)).H σ.nx { fz:=false,ap:=true,ty:=g.ty,sz:=g.sz,d:=gm,tl:=[] }) b { q with tl:=q.tl.set i (r.set j (.own σ.nx)) },nx:=σ.nx+1 }) ⟨rfl,rfl,fun t=>?_,fun b'=>?_⟩),Sat.of_inst hS.wf hS.tm (fun b' k hk=>?_) fun b' k hk=>?_⟩
             · show Wk (((σ.kill (· == σ.nx)).inst e).tm t) ((bo (σ.kill (· == σ.nx)).tm t).inst e (ae e (g9 (g9 _ σ.nx _) b _)))
               rw[hl2]
               have:(bo (σ.kill (· == σ.nx)).tm t).inst e (ae e (σ.kill (· == σ.nx)).H)=(bo (σ.kill (· == σ.nx)).tm t).inst e fun x=>if x=σ.nx then 0 else ae e σ.H x:=by
                rw[lx,qoe]
                exact SV.inst_ln (p:=(· == σ.nx)) (fun b hb=>hp b hb 0) (qup _ _)
               simp only[SS.inst,this];exact .refl _
             · have oq:(SS.kill (fun x=>x == σ.nx) σ).nx=σ.nx:=rfl
               dsimp only[SS.inst]
               rw[hl2,qbc,qbc];unfold co;rw[oq]
               split
               · simp only[map_some];rw[abj];exact ⟨rfl,rfl,rfl,rfl,.refl _⟩
               · split
                 · exact ⟨rfl,rfl,rfl,rfl,.refl _⟩
                 · simp only[];rw[lx,qsc];cases hb:am σ.H b' with
                   | none=>trivial
                   | some k0=>
                    simp only[map_some]
                    rw[qrr (p:=(· == σ.nx)) (fun b hb=>hp b hb 0) (qsy _ k0)]
                    exact ⟨rfl,rfl,rfl,rfl,.refl _⟩
             · rw[qbc] at hk
               split at hk
               · cases hk;have:=hS.H b q hq;simp only[SB.ok,and_eq_true,List.all_eq_true] at this ⊢;refine ⟨this.1,fun r' ei=>?_⟩
                 rcases List.mem_or_eq_of_mem_set ei with h|rfl
                 · exact this.2 r' h
                 · rw[SV.okL_all];intro v hv;rcases List.mem_or_eq_of_mem_set hv with h|rfl
                   · exact SV.okL_all.1 (this.2 r (List.mem_of_getElem? hr)) v h
                   · rfl
               · rw[qbc] at hk
                 split at hk
                 · cases hk;rfl
                 · exact hS.H b' k hk
             · rw[qbc] at hk
               split at hk
               · cases hk;exact hS.sl b q hq
               · rw[qbc] at hk
                 split at hk
                 · cases hk;exact ⟨[],rfl⟩
                 · exact hS.sl b' k hk
           · simp at h
         · simp at h
       · simp at h
     · simp at h
theorem a5u:∀ {l:List Gh} {σ:SS} {s:Sta} {σ':SS},Sat e σ s→t6 σ l=some σ'→∃ s',Ent kk s s'∧Sat e σ' s':=by
 intro l
 induction l with
 | nil=>intro σ s σ' hS h;simp only[t6] at h;cases h;exact ⟨s,.refl _ _,hS⟩
 | cons g l ih=>
  intro σ s σ' hS h;simp only[t6] at h
  split at h
  · rename_i σ1 h1;obtain ⟨s1,e1,hS1⟩:=ask (kk:=kk) hS h1;obtain ⟨s2,e2,hS2⟩:=ih hS1 h;exact ⟨s2,e1.trans e2,hS2⟩
  · simp at h
end
end Am
