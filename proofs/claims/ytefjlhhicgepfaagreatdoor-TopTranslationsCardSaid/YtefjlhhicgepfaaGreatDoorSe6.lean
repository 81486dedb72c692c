/- Lemmas. -/
import Derived.Test.YtefjlhhicgepfaaGreatDoorSe5
set_option linter.unusedSimpArgs false
set_option linter.unusedVariables false
set_option linter.unusedSectionVars false
open List (all_cons all_eq_true drop_zero ext_getElem getElem_map getElem_mem map map_congr_left map_cons map_map mem_map)
open Bool (and_eq_true or_eq_false_iff)
open Nat (ble lt_of_not_le zero_le)
namespace Am
open Go
section
variable {σ σ1 σ2:SS}{e e':Env}{s:Sta}{kk:Nat}
theorem qwa{p:SV→Bool}(hj:p .junk=true):∀ {l:List SV},l.all p=true→∀ t,p (bo l t)=true:=by
 intro l
 induction l with
 | nil=>intro _ t;cases t<;>exact hj
 | cons a l ih=>
  intro h t;simp only[all_cons,and_eq_true] at h;cases t with
  | zero=>exact h.1
  | succ t=>exact ih h.2 t
theorem ah0:∀ {H:List (Option SB)} {b:Nat} {k:SB},am H b=some k→some k∈H:=by
 intro H
 induction H with
 | nil=>intro b k h;cases b<;>simp[am] at h
 | cons a H ih=>
  intro b k h;cases b with
  | zero=>simp only[am] at h;simp[h]
  | succ b=>simp[ih (by simpa [am] using h)]
theorem qdv:∀ {H:List (Option SB)} {b:Nat},H.length≤b→am H b=none:=by
 intro H
 induction H with
 | nil=>intro b _;cases b<;>rfl
 | cons a H ih=>
  intro b h;cases b with
  | zero=>simp at h
  | succ b=>exact ih (by simpa using h)
theorem afl{m:Nat}(h:σ.okB m=true)(t:Nat):(bo σ.tm t).ok m=true:=by
 simp only[SS.okB,and_eq_true] at h;exact qwa (p:=SV.ok m) rfl h.1 t
theorem aoh{m:Nat}(h:σ.okB m=true){b:Nat}{k:SB}(hk:am σ.H b=some k):k.ok m=true:=by
 simp only[SS.okB,and_eq_true,all_eq_true] at h;exact h.2 _ (ah0 hk)
mutual
theorem qqq{ln:Nat→Nat}{n:Nat}:∀ {v:SV},v.has (fun b=>ble n b)=false→(v.inst e ln).inK n=true
 | .atm _,_=>rfl
 | .nils,_=>rfl
 | .agg cs,h=>by simp only[SV.inst,AV.inK];exact qte (l:=cs) h
 | .tup cs,h=>by simp only[SV.inst,AV.inK];exact qte (l:=cs) h
 | .own b,h=>by
  simp only[SV.has] at h;simp only[SV.inst,AV.inK,decide_eq_true_eq];exact lt_of_not_le fun j7=>by rw[Nat.ble_eq_true_of_le j7] at h;simp at h
 | .ptr b _ _,h=>by
  simp only[SV.has] at h;simp only[SV.inst,AV.inK,decide_eq_true_eq];exact lt_of_not_le fun j7=>by rw[Nat.ble_eq_true_of_le j7] at h;simp at h
 | .px b _ _,h=>by
  simp only[SV.has] at h;simp only[SV.inst,AV.inK,decide_eq_true_eq];exact lt_of_not_le fun j7=>by rw[Nat.ble_eq_true_of_le j7] at h;simp at h
 | .ep _,_=>rfl
 | .clo _ a b,h=>by
  simp only[SV.has,or_eq_false_iff] at h;simp only[SV.inst,AV.inK,and_eq_true];exact ⟨qte h.1,qte h.2⟩
 | .junk,_=>rfl
theorem qte{ln:Nat→Nat}{n:Nat}:∀ {l:List SV},SV.hasL (fun b=>ble n b) l=false→AV.inKL n (SV.instL e ln l)=true
 | [],_=>rfl
 | c::cs,h=>by
  simp only[SV.hasL,or_eq_false_iff] at h;simp only[SV.instL,AV.inKL,and_eq_true];exact ⟨qqq h.1,qte h.2⟩
end
theorem qor{ln:Nat→Nat}{n:Nat}{k:SB}(h:∀ r∈k.tl,SV.hasL (fun b=>ble n b) r=false):∀ row∈(k.inst e ln).rows,row.all (AV.inK n)=true:=by
 intro row ak;simp only[SB.inst,SB.rows,List.mem_append] at ak;rcases ak with ak|ak
 · obtain ⟨r,_,rfl⟩:=List.mem_map.1 ak;rw[all_eq_true];intro a ha;obtain ⟨d,_,rfl⟩:=List.mem_map.1 ha;rfl
 · obtain ⟨r,hr,rfl⟩:=List.mem_map.1 ak;have:=qte (e:=e) (ln:=ln) (h r hr)
   rwa [qig] at this
section mt
variable {base:Nat}{A:List SA}
def b7(e:Env)(base:Nat)(A:List SA):Env:=e.take base++A.map (·.val e)
theorem qcf(hb:base≤e.length){p q:SA}(h:mtA base A p q=true):p.val (b7 e base A)=q.val e:=by
 have hl:(e.take base).length=base:=by simp;omega
 cases p with
 | v x=>
  simp only[mtA] at h
  split at h
  · rename_i hx;rw[qrh] at hx;rw[← SA.beq_eq h];simp only[SA.val,b7,List.getD_eq_getElem?_getD];rw[List.getElem?_append_left (by omega),List.getElem?_take,if_pos hx]
  · rename_i hx;have na:base≤x:=by rw[qrh] at hx;omega
    split at h
    · rename_i p hp;rw[← SA.beq_eq h];simp only[SA.val,b7,List.getD_eq_getElem?_getD];rw[List.getElem?_append_right (by omega),hl,List.getElem?_map,hp]
      rfl
    · simp at h
 | c d=>simp only[mtA] at h;rw[← SA.beq_eq h];rfl
theorem ao1(hb:base≤e.length):∀ {p q:List SA},abp base A p q=true→p.map (·.val (b7 e base A))=q.map (·.val e):=by
 intro p
 induction p with
 | nil=>intro q h;cases q with
  | nil=>rfl
  | cons=>simp[abp] at h
 | cons a p ih=>intro q h;cases q with
  | nil=>simp[abp] at h
  | cons b q=>
   simp only[abp,and_eq_true] at h;simp only[map_cons,qcf hb h.1,ih h.2]
variable {ps:List Nat}
def abz(e:Env)(base:Nat)(A:List SA)(σ1:SS)(ps:List Nat)(n2:Nat)(ln2:Nat→Nat):Prop:=
 base≤e.length∧(∀ b,b<n2→ln2 b=ae e σ1.H b)∧∀ b k,am σ1.H b=some k→∃ xs,k.d.val e = .sl xs
theorem qub{n b:Nat}(h:ble n b=false):b<n:=lt_of_not_le fun j7=>by rw[Nat.ble_eq_true_of_le j7] at h;simp at h
mutual
theorem akp{n2:Nat}{ln2:Nat→Nat}(hh:abz e base A σ1 ps n2 ln2):∀ (p:SV) {q:SV},mt base A id σ1.H true true (inL ps) p q=true→p.has (fun b=>ble n2 b)=false→
 Wh ((σ1.pin ps).inst e).H (q.inst e (ae e σ1.H)) (p.inst (b7 e base A) ln2)
 | .atm p,q,h,_=>by
  cases q with
  | atm q=>simp only[mt] at h;simp only[SV.inst];rw[qcf hh.1 h];exact .refl _
  | nils=>simp only[mt,Bool.true_and] at h;simp only[SV.inst];rw[qcf hh.1 h];exact Wh.nils
  | own b=>
   simp only[mt,and_eq_true] at h;obtain ⟨hb,hm⟩:=h;unfold yu at hm
   split at hm
   · rename_i k hk;simp only[and_eq_true] at hm;simp only[SV.inst];rw[qcf hh.1 hm.2]
     have yb:am (σ1.pin ps).H b=some { k with fz:=true }:=by
      simp only[SS.pin];rw[qxd,hk];simp[hb]
     have:=qrv (e:=e) (k:={ k with fz:=true }) yb hm.1 rfl (hh.2.2 b k hk);have hl:ae e (σ1.pin ps).H b=ae e σ1.H b:=qci (inL ps) σ1.H b;rw[hl] at this;exact this
   · simp at hm
  | clo f x y=>
   cases x with
   | cons=>simp[mt] at h
   | nil=>cases y with
    | cons=>simp[mt] at h
    | nil=>
     simp only[mt,Bool.true_and] at h;simp only[SV.inst,SV.instL];rw[qcf hh.1 h];exact Wh.fn f
  | _=>simp[mt] at h
 | .nils,q,h,_=>by
  cases q with
  | nils=>exact .refl _
  | _=>simp[mt] at h
 | .agg ps',q,h,hb=>by
  cases q with
  | agg qs=>
   simp only[mt] at h;obtain ⟨h1,h2⟩:=qyo hh ps' h hb;exact Wh.agg h1 h2
  | _=>simp[mt] at h
 | .tup ps',q,h,hb=>by
  cases q with
  | tup qs=>
   simp only[mt] at h;obtain ⟨h1,h2⟩:=qyo hh ps' h hb;exact Wh.tup h1 h2
  | _=>simp[mt] at h
 | .own b,q,h,hb=>by
  cases q with
  | own c=>
   have hbc:b=c:=by simpa [mt] using h
   subst hbc;simp only[SV.inst];rw[hh.2.1 b (qub hb)];exact .refl _
  | _=>simp[mt] at h
 | .ptr b i j,q,h,hb=>by
  cases q with
  | ptr c k l=>
   simp only[mt,and_eq_true,beq_iff_eq,id] at h;obtain ⟨⟨rfl,rfl⟩,rfl⟩:=h;simp only[SV.inst];rw[hh.2.1 b (qub hb)];exact .refl _
  | _=>simp[mt] at h
 | .px b x j,q,h,hb=>by
  cases q with
  | px c y l=>
   simp only[mt,and_eq_true,beq_iff_eq,id] at h;obtain ⟨⟨rfl,hx⟩,rfl⟩:=h;simp only[SV.inst];rw[hh.2.1 b (qub hb),qcf hh.1 hx];exact .refl _
  | _=>simp[mt] at h
 | .ep as,q,h,_=>by
  cases q with
  | ep bs=>
   simp only[mt] at h;simp only[SV.inst];rw[ao1 hh.1 h];exact .refl _
  | _=>simp[mt] at h
 | .clo f a b,q,h,hb=>by
  cases q with
  | clo g c d=>
   simp only[mt,and_eq_true,beq_iff_eq] at h;obtain ⟨⟨rfl,h1⟩,h2⟩:=h;simp only[SV.has,or_eq_false_iff] at hb;obtain ⟨g1,g2⟩:=qyo hh a h1 hb.1;obtain ⟨g3,g4⟩:=qyo hh b h2 hb.2;exact Wh.clo g1 g2 g3 g4
  | _=>simp[mt] at h
 | .junk,q,_,_=>.junk _
theorem qyo{n2:Nat}{ln2:Nat→Nat}(hh:abz e base A σ1 ps n2 ln2):∀ (l:List SV) {l':List SV},mtL base A id σ1.H true true (inL ps) l l' = true→SV.hasL (fun b=>ble n2 b) l=false→
 (SV.instL e (ae e σ1.H) l').length=(SV.instL (b7 e base A) ln2 l).length∧∀ i (h:i<(SV.instL e (ae e σ1.H) l').length) (h':i<(SV.instL (b7 e base A) ln2 l).length),Wh ((σ1.pin ps).inst e).H (SV.instL e (ae e σ1.H) l')[i] (SV.instL (b7 e base A) ln2 l)[i]
 | [],l',h,_=>by
  cases l' with
  | nil=>exact ⟨rfl,fun i hi=>by simp[SV.instL] at hi⟩
  | cons=>simp[mtL] at h
 | a::l,l',h,hb=>by
  cases l' with
  | nil=>simp[mtL] at h
  | cons b l'=>
   simp only[mtL,and_eq_true] at h;simp only[SV.hasL,or_eq_false_iff] at hb;obtain ⟨g1,g2⟩:=qyo hh l h.2 hb.2;have g0:=akp hh a h.1 hb.1;refine ⟨by simp[SV.instL,g1],fun i hi bn=>?_⟩
   cases i with
   | zero=>exact g0
   | succ i=>exact g2 i (by simpa [SV.instL] using hi) (by simpa [SV.instL] using bn)
end
theorem qfk{H:List (Option SB)}{B:Nat→Nat}{jk nl:Bool}{fz:Nat→Bool}:∀ {l l':List (List SV)},mtR base A B H jk nl fz l l' = true→l.length=l'.length:=by
 intro l
 induction l with
 | nil=>intro l' h;cases l' with
  | nil=>rfl
  | cons=>simp[mtR] at h
 | cons a l ih=>intro l' h;cases l' with
  | nil=>simp[mtR] at h
  | cons b l'=>
   simp only[mtR,and_eq_true] at h;simp[ih h.2]
theorem quw{H:List (Option SB)}{B:Nat→Nat}{jk nl:Bool}{fz:Nat→Bool}:∀ {l l':List (List SV)},mtR base A B H jk nl fz l l' = true→∀ i (h:i<l.length) (h':i<l'.length),mtL base A B H jk nl fz l[i] l'[i]=true:=by
 intro l
 induction l with
 | nil=>intro l' _ i h;simp at h
 | cons a l ih=>intro l' h i hi bn;cases l' with
  | nil=>simp[mtR] at h
  | cons b l'=>
   simp only[mtR,and_eq_true] at h;cases i with
   | zero=>exact h.1
   | succ i=>exact ih h.2 i (by simpa using hi) (by simpa using bn)
theorem qpx{H:List (Option SB)}:∀ {l l':List SV},ky base A H ps l l' = true→∀ t,mt base A id H true true (inL ps) (bo l t) (bo l' t)=true:=by
 intro l
 induction l with
 | nil=>intro l' _ t;cases t<;>rfl
 | cons a l ih=>
  intro l' h t;cases l' with
  | nil=>
   have ha:a = .junk∧ky base A H ps l []=true:=by
    cases a<;>first|exact ⟨rfl,h⟩|simp[ky] at h
   obtain ⟨rfl,h2⟩:=ha;cases t with
   | zero=>rfl
   | succ t=>
    have:=ih h2 t;have e0:bo [] t=SV.junk:=by cases t<;>rfl
    rw[e0] at this
    simpa [bo] using this
  | cons b l'=>
   have h2:mt base A id H true true (inL ps) a b=true∧ky base A H ps l l' = true:=by
    cases a<;>(simp only[ky,and_eq_true] at h;exact h)
   cases t with
   | zero=>exact h2.1
   | succ t=>exact ih h2.2 t
end mt
theorem qrl(hS:Sat e σ1 s){base n:Nat}{A:List SA}(hok:σ2.okB (base+n)=true)(h:enter kk base n σ2 e.length σ1=some A) :
 A.length=n∧base≤e.length∧A.all (SA.ok e.length)=true∧∃ s',Ent kk s s'∧Sat (b7 e base A) σ2 s':=by
 unfold enter at h
 dsimp only at h
 split at h
 · simp at h
 · rename_i A' hA'
   split at h
   · rename_i hc;cases h;simp only[and_eq_true,beq_iff_eq,Bool.not_eq_true',List.any_eq_false] at hc;obtain ⟨⟨⟨⟨⟨⟨⟨⟨⟨⟨c1,c2⟩,c3⟩,c4⟩,c5⟩,c6⟩,c7⟩,c8⟩,c9⟩,c10⟩,c11⟩:=hc;have c3':=Nat.le_of_ble_eq_true c3;have hb:=Nat.le_of_ble_eq_true c5;have c8':=Nat.le_of_ble_eq_true c8;have c11':=Nat.le_of_ble_eq_true c11;generalize hps:aa3 σ2 σ1=ps at c6 c7;refine ⟨c1,hb,c2,?_⟩;have hl2:(b7 e base A).length=base+n:=by simp[b7,c1];omega
     have lr:∀ b,b<σ2.nx→(am σ2.H b=none∧am σ1.H b=none)∨∃ p k,am σ2.H b=some p∧am σ1.H b=some k∧p.like k=true∧p.fz=(k.fz || inL ps b)∧p.d.val (b7 e base A)=k.d.val e∧mtR base A id σ1.H true true (inL ps) p.tl k.tl=true:=by
      intro b et;have:=List.all_eq_true.1 c7 b (List.mem_range.2 et);cases h2:am σ2.H b with
      | none=>cases h1:am σ1.H b with
       | none=>exact .inl ⟨rfl,rfl⟩
       | some k=>rw[h1,h2] at this;simp[aay] at this
      | some p=>cases h1:am σ1.H b with
       | none=>rw[h1,h2] at this;simp[aay] at this
       | some k=>
        rw[h1,h2] at this;simp only[aay,and_eq_true,beq_iff_eq] at this;exact .inr ⟨p,k,rfl,rfl,this.1.1.1,this.1.1.2,qcf hb this.1.2,this.2⟩
     have awc:∀ b,b<σ2.nx→ae (b7 e base A) σ2.H b=ae e σ1.H b:=by
      intro b et;rcases lr b et with ⟨h2,h1⟩|⟨p,k,h2,h1,_,_,hd,fo⟩
      · simp[ae,h1,h2]
      · rw[qr h2,qr h1];simp only[SB.len,hd,qfk fo]
     have hh:abz e base A σ1 ps σ2.nx (ae (b7 e base A) σ2.H):=⟨hb,awc,hS.sl⟩
     have ug:∀ t,(bo σ2.tm t).has (fun b=>ble σ2.nx b)=false:=by
      intro t;have:=qwa (p:=fun v=>!(v.has fun b=>ble σ2.nx b)) rfl (l:=σ2.tm) (by rw[all_eq_true];intro v hv;simpa using c9 v hv) t
      simpa using this
     have aem:∀ b p,am σ2.H b=some p→∀ r∈p.tl,SV.hasL (fun b=>ble σ2.nx b) r=false:=by
      intro b p hp r hr;have:=List.all_eq_true.1 c10 _ (ah0 hp);simp only[all_eq_true,Bool.not_eq_true'] at this;exact this r hr
     obtain ⟨s1,e1,rfl,hS1⟩:=hS.pin (kk:=kk) ps;have wj:ae e (σ1.pin ps).H=ae e σ1.H:=funext fun b=>qci (inL ps) σ1.H b
     let sQ:Sta:=⟨fun t=>(bo σ2.tm t).inst (b7 e base A) (ae (b7 e base A) σ2.H),fun b=>if b<σ2.nx then (am σ2.H b).map (·.inst (b7 e base A) (ae (b7 e base A) σ2.H)) else ((σ1.pin ps).inst e).H b,σ1.nx,σ1.n⟩
     have hw:WhS ((σ1.pin ps).inst e) sQ:=by
      refine ⟨rfl,rfl,fun t=>?_,fun b=>?_⟩
      · show Wh _ ((bo σ1.tm t).inst e (ae e (σ1.pin ps).H)) _
        rw[wj];exact akp hh _ (qpx c6 t) (ug t)
      · by_cases et:b<σ2.nx
        · have hq:sQ.H b=(am σ2.H b).map (·.inst (b7 e base A) (ae (b7 e base A) σ2.H)):=if_pos et
          rw[hq]
          have hp1:((σ1.pin ps).inst e).H b=(am σ1.H b).map fun k=>({ k with fz:=k.fz || inL ps b }:SB).inst e (ae e σ1.H):=by
           simp only[SS.inst];rw[wj];simp only[SS.pin];rw[qxd,Option.map_map];simp only[Nat.zero_add];rfl
          rcases lr b et with ⟨h2,h1⟩|⟨p,k,h2,h1,hlk,hf,hd,fo⟩
          · exact .inl ⟨by rw[hp1,h1];rfl,by rw[h2];rfl⟩
          · refine .inr ⟨_,_,by rw[hp1,h1];rfl,by rw[h2];rfl,?_⟩
            simp only[SB.like,and_eq_true,beq_iff_eq] at hlk
            have py:(({ k with fz:=k.fz || inL ps b }:SB).inst e (ae e σ1.H)).rows=(k.d.val e).rows.map (·.map .d)++k.tl.map (SV.instL e (ae e σ1.H)):=rfl
            have um:(p.inst (b7 e base A) (ae (b7 e base A) σ2.H)).rows=(k.d.val e).rows.map (·.map .d)++p.tl.map (SV.instL (b7 e base A) (ae (b7 e base A) σ2.H)):=by
             show SB.rows _ _ _=_
             simp only[SB.rows,hd]
            have an:=qfk fo
            have ak:∀ i (h:i<k.tl.length) (h':i<p.tl.length),(SV.instL e (ae e σ1.H) k.tl[i]).length=(SV.instL (b7 e base A) (ae (b7 e base A) σ2.H) p.tl[i]).length∧
             ∀ j (hj:j<(SV.instL e (ae e σ1.H) k.tl[i]).length) (gb:j<(SV.instL (b7 e base A) (ae (b7 e base A) σ2.H) p.tl[i]).length),Wh ((σ1.pin ps).inst e).H (SV.instL e (ae e σ1.H) k.tl[i])[j] (SV.instL (b7 e base A) (ae (b7 e base A) σ2.H) p.tl[i])[j]:=
             fun i h h'=>qyo hh _ (quw fo i h' h) (aem b p h2 _ (getElem_mem h'))
            refine ⟨hf,hlk.1.1,hlk.1.2,hlk.2,?_,?_,?_⟩
            · rw[py,um];simp[an]
            all_goals simp only[py,um]
            · intro i hi bn
              by_cases hx:i<((k.d.val e).rows.map (·.map AV.d)).length
              · rw[List.getElem_append_left hx,List.getElem_append_left hx]
              · rw[List.getElem_append_right (by omega),List.getElem_append_right (by omega)]
                simp only[getElem_map];exact (ak _ (by simp at hi hx ⊢;omega) (by simp at bn hx ⊢;omega)).1.symm
            · intro i hi bn j hj gb
              by_cases hx:i<((k.d.val e).rows.map (·.map AV.d)).length
              · have h3:((k.d.val e).rows.map (·.map AV.d)++k.tl.map (SV.instL e (ae e σ1.H)))[i]=((k.d.val e).rows.map (·.map AV.d))[i]:=List.getElem_append_left hx
                have h4:((k.d.val e).rows.map (·.map AV.d)++p.tl.map (SV.instL (b7 e base A) (ae (b7 e base A) σ2.H)))[i]=((k.d.val e).rows.map (·.map AV.d))[i]:=List.getElem_append_left hx
                simp only[h3,h4];exact .refl _
              · have na:((k.d.val e).rows.map (·.map AV.d)).length≤i:=by omega
                have h3:((k.d.val e).rows.map (·.map AV.d)++k.tl.map (SV.instL e (ae e σ1.H)))[i]=SV.instL e (ae e σ1.H) (k.tl[i-(k.d.val e).rows.length]'(by simp at hi na;omega)):=by
                 rw[List.getElem_append_right na];simp
                have h4:((k.d.val e).rows.map (·.map AV.d)++p.tl.map (SV.instL (b7 e base A) (ae (b7 e base A) σ2.H)))[i]=SV.instL (b7 e base A) (ae (b7 e base A) σ2.H) (p.tl[i-(k.d.val e).rows.length]'(by simp at bn na;omega)):=by
                 rw[List.getElem_append_right na];simp
                simp only[h3] at hj ⊢;simp only[h4] at gb ⊢;exact (ak _ (by simp at hi na;omega) (by simp at bn na;omega)).2 j hj gb
        · have hq:sQ.H b=((σ1.pin ps).inst e).H b:=if_neg et;rw[hq];cases hx:((σ1.pin ps).inst e).H b with
          | none=>exact .inl ⟨rfl,rfl⟩
          | some x=>exact .inr ⟨x,x,rfl,rfl,.refl _⟩
     have j7:Sta.Le kk sQ (σ2.inst (b7 e base A)):=by
      refine ⟨c4,c3',c11',fun t=>.inr ⟨rfl,qqq (ug t)⟩,?_,fun b blk et yc=>?_⟩
      · funext b
        show (am σ2.H b).map _=m8 σ2.nx sQ.H b
        unfold m8
        split
        · rename_i et
          have hq:sQ.H b=(am σ2.H b).map (·.inst (b7 e base A) (ae (b7 e base A) σ2.H)):=if_pos et
          rw[hq]
        · rename_i et;rw[qdv (by omega)];rfl
      · have o9:b<σ2.nx:=et
        have hq:sQ.H b=(am σ2.H b).map (·.inst (b7 e base A) (ae (b7 e base A) σ2.H)):=if_pos o9
        rw[hq] at yc;simp only[Option.map_eq_some_iff] at yc;obtain ⟨p,hp,rfl⟩:=yc;exact qor (aem b p hp)
     refine ⟨σ2.inst (b7 e base A),(e1.trans (Ent.wh hw)).trans (Ent.le j7),Sat.of_inst ?_ (fun t=>by rw[hl2];exact afl hok t) (fun b k hk=>by rw[hl2];exact aoh hok hk) fun b p hp=>?_⟩
     · exact EWF.append (fun d hd=>hS.wf d (List.mem_of_mem_take hd)) (hS.wf.map c2)
     · by_cases et:b<σ2.nx
       · rcases lr b et with ⟨h2,_⟩|⟨p',k,h2,h1,_,_,hd,_⟩
         · rw[h2] at hp;simp at hp
         · rw[h2] at hp;cases hp;rw[hd];exact hS.sl b k h1
       · rw[qdv (by omega)] at hp;simp at hp
   · simp at h
end
end Am

namespace Am
open Go
variable {P:Program}{G:bl}
section
variable {σ:SS}{e e':Env}{s:Sta}{kk id:Nat}
mutual
def SV.nj:SV→Bool
 | .junk=>false
 | .agg cs=>SV.njL cs
 | .tup cs=>SV.njL cs
 | .clo _ a b=>SV.njL a&&SV.njL b
 | _=>true
def SV.njL:List SV→Bool
 | []=>true
 | c::cs=>c.nj&&SV.njL cs
end
theorem air{a:AV}{x:D}(h:Wk a (.d x)):a = .d x:=by cases h;rfl
theorem al9{l:List AV}(h:WkL l []):l=[]:=h.inv_nil
mutual
theorem ail{ln:Nat→Nat}:∀ (v:SV) {a:AV},v.nj=true→Wk a (v.inst e ln)→a=v.inst e ln
 | .atm x,a,_,h=>air h
 | .nils,a,_,h=>qjk h
 | .agg cs,a,hn,h=>by
  obtain ⟨l,rfl,hl⟩:=qqa h;simp only[SV.inst];rw[qze cs hn hl]
 | .tup cs,a,hn,h=>by
  obtain ⟨l,rfl,hl⟩:=ahv h;simp only[SV.inst];rw[qze cs hn hl]
 | .own b,a,_,h=>qri h
 | .ptr b i j,a,_,h=>qde h
 | .px b x j,a,_,h=>qde h
 | .ep cs,a,_,h=>qgi h
 | .clo f x y,a,hn,h=>by
  obtain ⟨l,l',rfl,h1,h2⟩:=qwr h;simp only[SV.nj,and_eq_true] at hn;simp only[SV.inst];rw[qze x hn.1 h1,qze y hn.2 h2]
 | .junk,a,hn,_=>by simp[SV.nj] at hn
theorem qze{ln:Nat→Nat}:∀ (l:List SV) {as:List AV},SV.njL l=true→WkL as (SV.instL e ln l)→as=SV.instL e ln l
 | [],as,_,h=>al9 h
 | c::l,as,hn,h=>by
  obtain ⟨a,as',rfl,h1,h2⟩:=h.inv_cons;simp only[SV.njL,and_eq_true] at hn;simp only[SV.instL];rw[ail c hn.1 h1,qze l hn.2 h2]
end
mutual
theorem al2{base:Nat}{A:List SA}{B:Nat→Nat}{H:List (Option SB)}{nl:Bool}{fz:Nat→Bool}:∀ (p:SV) {q:SV},mt base A B H false nl fz p q=true→q.nj=true
 | .atm p,q,h=>by
  cases q with
  | clo f x y=>cases x with
   | cons=>simp[mt] at h
   | nil=>cases y with
    | cons=>simp[mt] at h
    | nil=>rfl
  | junk=>simp[mt] at h
  | agg=>simp[mt] at h
  | tup=>simp[mt] at h
  | _=>rfl
 | .nils,q,h=>by cases q<;>first|rfl|simp[mt] at h
 | .agg ps,q,h=>by
  cases q with
  | agg qs=>simp only[mt] at h;exact qzo ps h
  | _=>simp[mt] at h
 | .tup ps,q,h=>by
  cases q with
  | tup qs=>simp only[mt] at h;exact qzo ps h
  | _=>simp[mt] at h
 | .own b,q,h=>by cases q<;>first|rfl|simp[mt] at h
 | .ptr b i j,q,h=>by cases q<;>first|rfl|simp[mt] at h
 | .px b x j,q,h=>by cases q<;>first|rfl|simp[mt] at h
 | .ep as,q,h=>by cases q<;>first|rfl|simp[mt] at h
 | .clo f a b,q,h=>by
  cases q with
  | clo g c d=>
   simp only[mt,and_eq_true] at h;simp only[SV.nj,and_eq_true];exact ⟨qzo a h.1.2,qzo b h.2⟩
  | _=>simp[mt] at h
 | .junk,q,h=>by simp[mt] at h
theorem qzo{base:Nat}{A:List SA}{B:Nat→Nat}{H:List (Option SB)}{nl:Bool}{fz:Nat→Bool}:∀ (l:List SV) {l':List SV},mtL base A B H false nl fz l l' = true→SV.njL l' = true
 | [],l',h=>by cases l' with
  | nil=>rfl
  | cons=>simp[mtL] at h
 | a::l,l',h=>by cases l' with
  | nil=>simp[mtL] at h
  | cons b l'=>
   simp only[mtL,and_eq_true] at h;simp only[SV.njL,and_eq_true];exact ⟨al2 a h.1,qzo l h.2⟩
end
mutual
theorem adu{A:List SA}{B m:Nat→Nat}{H:List (Option SB)}{n:Nat}{lnI ln:Nat→Nat}(hB:∀ i,i<n→B i=m i∧lnI i=ln (B i)) :
 ∀ (p:SV) {q:SV},mt 0 A B H false false (fun _=>false) p q=true→p.has (fun b=>ble n b)=false→(p.inst (b7 e 0 A) lnI).ren m=q.inst e ln
 | .atm p,q,h,_=>by
  cases q with
  | atm q=>simp only[mt] at h;simp only[SV.inst,AV.ren];rw[qcf (zero_le _) h]
  | clo f x y=>cases x with
   | cons=>simp[mt] at h
   | nil=>cases y with
    | cons=>simp[mt] at h
    | nil=>simp[mt] at h
  | _=>simp[mt] at h
 | .nils,q,h,_=>by
  cases q with
  | nils=>rfl
  | _=>simp[mt] at h
 | .agg ps',q,h,hb=>by
  cases q with
  | agg qs=>
   simp only[mt] at h;simp only[SV.inst,AV.ren,qoc];rw[qtj hB ps' h hb]
  | _=>simp[mt] at h
 | .tup ps',q,h,hb=>by
  cases q with
  | tup qs=>
   simp only[mt] at h;simp only[SV.inst,AV.ren,qoc];rw[qtj hB ps' h hb]
  | _=>simp[mt] at h
 | .own b,q,h,hb=>by
  cases q with
  | own c=>
   have hbc:B b=c:=by simpa [mt] using h
   have et:=hB b (qub hb);simp only[SV.inst,AV.ren];rw[← et.1,et.2,hbc]
  | _=>simp[mt] at h
 | .ptr b i j,q,h,hb=>by
  cases q with
  | ptr c k l=>
   simp only[mt,and_eq_true,beq_iff_eq] at h;obtain ⟨⟨hbc,rfl⟩,rfl⟩:=h;have et:=hB b (qub hb);simp only[SV.inst,AV.ren];rw[← et.1,et.2,hbc]
  | _=>simp[mt] at h
 | .px b x j,q,h,hb=>by
  cases q with
  | px c y l=>
   simp only[mt,and_eq_true,beq_iff_eq] at h;obtain ⟨⟨hbc,hx⟩,rfl⟩:=h;have et:=hB b (qub hb);simp only[SV.inst,AV.ren];rw[← et.1,et.2,hbc,qcf (zero_le _) hx]
  | _=>simp[mt] at h
 | .ep as,q,h,_=>by
  cases q with
  | ep bs=>
   simp only[mt] at h;simp only[SV.inst,AV.ren];rw[ao1 (zero_le _) h]
  | _=>simp[mt] at h
 | .clo f a b,q,h,hb=>by
  cases q with
  | clo g c d=>
   simp only[mt,and_eq_true,beq_iff_eq] at h;obtain ⟨⟨rfl,h1⟩,h2⟩:=h;simp only[SV.has,or_eq_false_iff] at hb;simp only[SV.inst,AV.ren,qoc];rw[qtj hB a h1 hb.1,qtj hB b h2 hb.2]
  | _=>simp[mt] at h
 | .junk,q,h,_=>by simp[mt] at h
theorem qtj{A:List SA}{B m:Nat→Nat}{H:List (Option SB)}{n:Nat}{lnI ln:Nat→Nat}(hB:∀ i,i<n→B i=m i∧lnI i=ln (B i)) :
 ∀ (l:List SV) {l':List SV},mtL 0 A B H false false (fun _=>false) l l' = true→SV.hasL (fun b=>ble n b) l=false→(SV.instL (b7 e 0 A) lnI l).map (AV.ren m)=SV.instL e ln l'
 | [],l',h,_=>by
  cases l' with
  | nil=>rfl
  | cons=>simp[mtL] at h
 | a::l,l',h,hb=>by
  cases l' with
  | nil=>simp[mtL] at h
  | cons b l'=>
   simp only[mtL,and_eq_true] at h;simp only[SV.hasL,or_eq_false_iff] at hb;simp only[SV.instL,map_cons];rw[adu hB a h.1 hb.1,qtj hB l h.2 hb.2]
end
theorem qth{X:List (List AV)}{xs:List (List D)}(h:WkR X (xs.map (·.map .d))):X=xs.map (·.map .d):=by
 refine ext_getElem h.1 fun i hi bn=>?_
 obtain ⟨g1,g2⟩:=h.2 i hi bn;refine ext_getElem g1 fun j hj gb=>?_
 have:=g2 j hj gb;simp only[getElem_map] at this ⊢;rcases vl this with h0|⟨f,h0,_⟩
 · exact h0
 · rw[h0] at this;cases this
theorem apt(hS:Sat e σ s){b:Nat}{k:SB}(hk:am σ.H b=some k)(fo:k.tl.isEmpty=true) :
 rg s.H (.own b (ae e σ.H b) 0 (ae e σ.H b)) = .d (k.d.val e)∧jr s.H (.own b (ae e σ.H b) 0 (ae e σ.H b))=true∧e9 s.H (.own b (ae e σ.H b) 0 (ae e σ.H b))=[b]:=by
 obtain ⟨xs,l4⟩:=hS.sl b k hk;obtain ⟨x,hb,ml⟩:=hS.blk hk
 have cx:(k.inst e (ae e σ.H)).rows=xs.map (·.map .d):=qyb fo l4
 have hR:=ml.2.2.2.2;rw[cx] at hR;have hx:=qth hR;have hl:ae e σ.H b=xs.length:=by rw[qr hk,qpc fo l4]
 have ht:(xs.map (·.map AV.d)).take xs.length=xs.map (·.map AV.d):=List.take_of_length_le (by simp)
 have eu:∀ row∈xs.map (·.map AV.d),∃ y:List D,row=y.map .d:=fun row ak=>by
  obtain ⟨y,_,rfl⟩:=List.mem_map.1 ak;exact ⟨y,rfl⟩
 rw[hl];refine ⟨?_,?_,?_⟩
 · simp only[rg,lw,hb,hx,drop_zero,ht,map_map,l4]
   congr 2
   have e1:(lw 2 s.H∘AV.d)=fun z:D=>z:=by funext z;rfl
   have e2:((fun l=>map (lw 2 s.H) l)∘fun l=>map AV.d l)=fun y:List D=>y:=by
    funext y
    simp only[Function.comp,map_map];rw[e1];simp
   rw[e2];simp
 · simp only[jr,j8,hb,hx,List.length_map,decide_true,Bool.true_and,Nat.zero_add,Nat.le_refl,drop_zero,ht,all_eq_true];intro row ak;obtain ⟨y,rfl⟩:=eu row ak;intro c hc;obtain ⟨z,_,rfl⟩:=List.mem_map.1 hc;rfl
 · simp only[e9,fh,hb,hx,drop_zero,ht]
   congr 1
   rw[List.flatMap_eq_nil_iff];intro row ak;obtain ⟨y,rfl⟩:=eu row ak;rw[List.flatMap_eq_nil_iff];intro c hc;obtain ⟨z,_,rfl⟩:=List.mem_map.1 hc;rfl
theorem ala(hS:Sat e σ s){A:List SA}{B m:Nat→Nat}{keep:Bool}{n:Nat}{lnI:Nat→Nat}(hB:∀ i,i<n→B i=m i∧lnI i=ae e σ.H (B i)){p q:SV}(h:ne A B σ.H keep p q=true)(hb:p.has (fun b=>ble n b)=false) :
 q.nj=true∧(p.inst (b7 e 0 A) lnI).ren m=(if keep then q.inst e (ae e σ.H) else rg s.H (q.inst e (ae e σ.H)))∧(keep=false→jr s.H (q.inst e (ae e σ.H))=true∧e9 s.H (q.inst e (ae e σ.H))=ic q):=by
 have plain:mt 0 A B σ.H false false (fun _=>false) p q=true→(∀ b,q ≠ .own b)→q ≠ .nils→q.nj=true∧(p.inst (b7 e 0 A) lnI).ren m=(if keep then q.inst e (ae e σ.H) else rg s.H (q.inst e (ae e σ.H)))∧(keep=false→jr s.H (q.inst e (ae e σ.H))=true∧e9 s.H (q.inst e (ae e σ.H))=ic q):=by
  intro h h1 h2;refine ⟨al2 p h,?_,fun _=>?_⟩
  · rw[adu hB p h hb];cases q<;>first|(exact absurd rfl (h1 _))|(exact absurd rfl h2)|(cases keep<;>rfl)
  · cases q<;>first|(exact absurd rfl (h1 _))|exact ⟨rfl,rfl⟩
 unfold ne at h
 split at h
 · rename_i b
   split at h
   · rename_i hk;refine ⟨rfl,?_,fun h0=>by rw[hk] at h0;simp at h0⟩
     rw[if_pos hk];exact adu hB p h hb
   · rename_i hk
     split at h
     · rename_i p;unfold yu at h
       split at h
       · rename_i k hkb;simp only[and_eq_true] at h;obtain ⟨g1,g2,g3⟩:=apt hS hkb h.1;refine ⟨rfl,?_,fun _=>⟨g2,g3⟩⟩
         rw[if_neg hk];simp only[SV.inst,AV.ren];rw[g1,qcf (zero_le _) h.2]
       · simp at h
     · simp at h
 · split at h
   · rename_i hk;refine ⟨rfl,?_,fun h0=>by rw[hk] at h0;simp at h0⟩
     rw[if_pos hk];exact adu hB p h hb
   · rename_i hk
     split at h
     · rename_i p;refine ⟨rfl,?_,fun _=>⟨rfl,rfl⟩⟩
       rw[if_neg hk];simp only[SV.inst,AV.ren,rg];rw[qcf (zero_le _) h];rfl
     · simp at h
 · rename_i h1 h2;exact plain h (fun b hq=>h1 b hq) (fun hq=>h2 hq)
theorem avk(hS:Sat e σ s){A:List SA}{B m:Nat→Nat}{keep:Bool}{n:Nat}{lnI:Nat→Nat}(hB:∀ i,i<n→B i=m i∧lnI i=ae e σ.H (B i)):∀ {ps qs:List SV},ll A B σ.H keep ps qs=true→SV.hasL (fun b=>ble n b) ps=false→
 SV.njL qs=true∧(SV.instL (b7 e 0 A) lnI ps).map (AV.ren m)=(if keep then SV.instL e (ae e σ.H) qs else (SV.instL e (ae e σ.H) qs).map (rg s.H))∧
 (keep=false→(SV.instL e (ae e σ.H) qs).all (jr s.H)=true∧(SV.instL e (ae e σ.H) qs).flatMap (e9 s.H)=qs.flatMap ic):=by
 intro ps
 induction ps with
 | nil=>intro qs h _;cases qs with
  | nil=>exact ⟨rfl,by cases keep<;>rfl,fun _=>⟨rfl,rfl⟩⟩
  | cons=>simp[ll] at h
 | cons p ps ih=>intro qs h hb;cases qs with
  | nil=>simp[ll] at h
  | cons q qs=>
   simp only[ll,and_eq_true] at h;simp only[SV.hasL,or_eq_false_iff] at hb;obtain ⟨a1,a2,a3⟩:=ala hS hB h.1 hb.1;obtain ⟨b1,b2,b3⟩:=ih h.2 hb.2;refine ⟨by simp only[SV.njL,a1,b1,Bool.and_self],?_,fun hk=>?_⟩
   · simp only[SV.instL,map_cons,a2,b2];cases keep<;>rfl
   · obtain ⟨a4,a5⟩:=a3 hk;obtain ⟨b4,b5⟩:=b3 hk;simp only[SV.instL,all_cons,a4,b4,Bool.and_self,List.flatMap_cons,a5,b5,and_self]
theorem a2h(hS:Sat e σ s){A:List SA}{B m:Nat→Nat}{keep:Bool}{n:Nat}{lnI:Nat→Nat}(hB:∀ i,i<n→B i=m i∧lnI i=ae e σ.H (B i)){p q:SV}(h:aaw A B σ.H keep p q=true)(hb:p.has (fun b=>ble n b)=false) :
 q.nj=true∧(p.inst (b7 e 0 A) lnI).ren m=(if keep then q.inst e (ae e σ.H) else xl s.H (q.inst e (ae e σ.H)))∧(keep=false→nc s.H (q.inst e (ae e σ.H))=true∧gl s.H (q.inst e (ae e σ.H))=ct [q]):=by
 unfold aaw at h
 split at h
 · rename_i ps qs;obtain ⟨a1,a2,a3⟩:=avk hS hB h hb;refine ⟨a1,?_,fun hk=>?_⟩
   · simp only[SV.inst,AV.ren,qoc,a2];cases keep<;>rfl
   · obtain ⟨a4,a5⟩:=a3 hk;refine ⟨a4,?_⟩;simp only[SV.inst,gl,a5,ct,List.append_nil]
 · rename_i dc;obtain ⟨a1,a2,a3⟩:=ala hS hB h hb
   have aba:∀ cs,q ≠ .agg cs:=by
    intro cs hq;subst hq;unfold ne at h;cases p<;>first|(exact dc _ _ rfl rfl)|simp[mt] at h
   have e1:xl s.H (q.inst e (ae e σ.H))=rg s.H (q.inst e (ae e σ.H)):=by cases q<;>first|rfl|(exact absurd rfl (aba _))
   have e2:nc s.H (q.inst e (ae e σ.H))=jr s.H (q.inst e (ae e σ.H)):=by cases q<;>first|rfl|(exact absurd rfl (aba _))
   have e3:gl s.H (q.inst e (ae e σ.H))=e9 s.H (q.inst e (ae e σ.H)):=by cases q<;>first|rfl|(exact absurd rfl (aba _))
   have e4:ct [q]=ic q:=by cases q<;>first|rfl|(exact absurd rfl (aba _))
   rw[e1,e2,e3,e4];exact ⟨a1,a2,a3⟩
theorem aih(hS:Sat e σ s){A:List SA}{B m:Nat→Nat}{keep:Bool}{n:Nat}{lnI:Nat→Nat}(hB:∀ i,i<n→B i=m i∧lnI i=ae e σ.H (B i)):∀ {ps qs:List SV},kn A B σ.H keep ps qs=true→SV.hasL (fun b=>ble n b) ps=false→
 SV.njL qs=true∧(SV.instL (b7 e 0 A) lnI ps).map (AV.ren m)=n9 keep s.H (SV.instL e (ae e σ.H) qs)∧
 w9 keep s.H (SV.instL e (ae e σ.H) qs)=true∧cn keep s.H (SV.instL e (ae e σ.H) qs)=(if keep then [] else ct qs):=by
 have app:∀ (q:SV) (qs:List SV),ct (q::qs)=ct [q]++ct qs:=by
  intro q qs;cases q<;>simp[ct]
 intro ps
 induction ps with
 | nil=>intro qs h _;cases qs with
  | nil=>exact ⟨rfl,by cases keep<;>rfl,by cases keep<;>rfl,by cases keep<;>rfl⟩
  | cons=>simp[kn] at h
 | cons p ps ih=>intro qs h hb;cases qs with
  | nil=>simp[kn] at h
  | cons q qs=>
   simp only[kn,and_eq_true] at h;simp only[SV.hasL,or_eq_false_iff] at hb;obtain ⟨a1,a2,a3⟩:=a2h hS hB h.1 hb.1;obtain ⟨b1,b2,b3,b4⟩:=ih h.2 hb.2;refine ⟨by simp only[SV.njL,a1,b1,Bool.and_self],?_,?_,?_⟩
   · simp only[SV.instL,map_cons,a2,b2];cases keep<;>rfl
   · cases keep with
     | true=>rfl
     | false=>
      simp only[w9,Bool.false_or,SV.instL,all_cons,(a3 rfl).1,Bool.true_and] at b3 ⊢;exact b3
   · cases keep with
     | true=>rfl
     | false=>
      simp only[cn,Bool.false_eq_true,if_false,SV.instL,List.flatMap_cons,(a3 rfl).2] at b4 ⊢;rw[b4,app q qs]
def lnL(e:Env)(L:List SB):Nat→Nat:=ae e (L.map some)
def hIn(e:Env)(L:List SB):List Blk:=L.map (·.inst e (lnL e L))
theorem qxm:∀ (L:List SB) (i:Nat),am (L.map some) i=L[i]?:=by
 intro L
 induction L with
 | nil=>intro i;cases i<;>rfl
 | cons a L ih=>intro i;cases i with
  | zero=>rfl
  | succ i=>simpa [am] using ih i
theorem qty{e:Env}{L:List SB}{i:Nat}{k:SB}(h:L[i]? = some k):lnL e L i=k.len e:=by
 simp[lnL,ae,qxm,h]
theorem a4e(hS:Sat e σ s){b:Nat}{k:SB}(hk:am σ.H b=some k)(hn:∀ r∈k.tl,SV.njL r=true):s.H b=some (k.inst e (ae e σ.H)):=by
 obtain ⟨x,hb,h1,h2,h3,h4,h5⟩:=hS.blk hk;obtain ⟨xs,l4⟩:=hS.sl b k hk;rw[hb]
 have cx:x.rows=(k.inst e (ae e σ.H)).rows:=by
  have hr:(k.inst e (ae e σ.H)).rows=xs.map (·.map .d)++k.tl.map (SV.instL e (ae e σ.H)):=by
   show SB.rows _ _ _=_
   rw[SB.rows,l4];rfl
  rw[hr] at h5 ⊢;obtain ⟨x1,x2,hx,g1,g2⟩:=qgv h5;rw[hx,qth g1]
  congr 1
  refine ext_getElem g2.1 fun i hi bn=>?_
  have:=g2.2 i hi bn;simp only[getElem_map] at this ⊢;exact qze _ (hn _ (getElem_mem _)) this
 cases x;simp only[SB.inst] at h1 h2 h3 h4 cx ⊢;subst h1;subst h2;subst h3;subst h4;subst cx;rfl
theorem a0e{A:List SA}{B0:List Nat}{H:List (Option SB)}{fz:List Nat}:∀ {L:List SB} {B:List Nat},uz A B0 H fz L B=true→∀ (i:Nat) (p:SB) (b:Nat),L[i]? = some p→B[i]? = some b→
 ∃ k,am H b=some k∧p.like k=true∧p.fz=(k.fz || inL fz b)∧mtA 0 A p.d k.d=true∧mtR 0 A (fun i=>B0.getD i 0) H false false (fun _=>false) p.tl k.tl=true:=by
 intro L
 induction L with
 | nil=>intro B _ i p b hp;simp at hp
 | cons q L ih=>
  intro B h i p b hp hb;cases B with
  | nil=>simp[uz] at h
  | cons c B=>
   simp only[uz,and_eq_true] at h;cases i with
   | zero=>
    simp at hp hb;subst hp;subst hb;have h1:=h.1
    split at h1
    · rename_i k hk;simp only[and_eq_true,beq_iff_eq] at h1;exact ⟨k,hk,h1.1.1.1,h1.1.1.2,h1.1.2,h1.2⟩
    · simp at h1
   | succ i=>exact ih h.2 i p b (by simpa using hp) (by simpa using hb)
theorem a3r{base:Nat}{A:List SA}{B:Nat→Nat}{H:List (Option SB)}{nl:Bool}{fz:Nat→Bool}:∀ {l l':List (List SV)},mtR base A B H false nl fz l l' = true→∀ r∈l',SV.njL r=true:=by
 intro l l' h r hr;obtain ⟨i,hi,rfl⟩:=List.mem_iff_getElem.1 hr;have bn:i<l.length:=by rw[qfk h];exact hi
 exact qzo _ (quw h i bn hi)
theorem a0k:∀ {l:List Nat},xh l=true→l.Nodup:=by
 intro l
 induction l with
 | nil=>intro _;exact List.nodup_nil
 | cons b l ih=>
  intro h;simp only[xh,and_eq_true,Bool.not_eq_true'] at h;refine List.nodup_cons.2 ⟨fun hb=>?_,ih h.2⟩
  rw[qsg.2 hb] at h;simp at h
theorem qkc{n:Nat}{l:List SV}(h:below n l=true):SV.hasL (fun b=>ble n b) l=false:=by
 simpa [below] using h
theorem qnr(e:Env)(A:List SA):b7 e 0 A=A.map (·.val e):=by simp[b7]
theorem aie(hS:Sat e σ s){A:List SA}{B0:List Nat}{id:Nat}{fz:List Nat}{Hin:List SB}(h:uz A B0 σ.H fz Hin B0=true)(hl:B0.length=Hin.length)(hb:∀ p∈Hin,j6 Hin.length p=true) :
 (∀ i,i<Hin.length→B0.getD i 0=B0.getD i id∧lnL (b7 e 0 A) Hin i=ae e σ.H (B0.getD i 0))∧
 (∀ p∈Hin,∃ xs,p.d.val (b7 e 0 A) = .sl xs)∧
 ∀ i (hi:i<Hin.length),∃ k,am σ.H (B0.getD i id)=some k∧(Hin[i]).like k=true∧(Hin[i]).fz=(k.fz || inL fz (B0.getD i id))∧(Hin[i]).d.val (b7 e 0 A)=k.d.val e∧(Hin[i]).tl.length=k.tl.length∧mtA 0 A (Hin[i]).d k.d=true∧
  dl fz s.H (B0.getD i id)=some (((Hin[i]).inst (b7 e 0 A) (lnL (b7 e 0 A) Hin)).ren fun i=>B0.getD i id):=by
 have hgd:∀ i,i<Hin.length→∀ d,B0[i]? = some (B0.getD i d):=fun i hi d=>by
  rw[List.getD_eq_getElem?_getD,List.getElem?_eq_getElem (by omega)];rfl
 have rn:∀ i,i<Hin.length→B0.getD i 0=B0.getD i id:=fun i hi=>by
  have h1:=hgd i hi 0;have h2:=hgd i hi id;rw[h1] at h2;exact Option.some.inj h2
 have get:∀ i (hi:i<Hin.length),∃ k,am σ.H (B0.getD i id)=some k∧(Hin[i]).like k=true∧(Hin[i]).fz=(k.fz || inL fz (B0.getD i id))∧mtA 0 A (Hin[i]).d k.d=true∧mtR 0 A (fun i=>B0.getD i 0) σ.H false false (fun _=>false) (Hin[i]).tl k.tl=true:=
  fun i hi=>a0e h i _ _ (List.getElem?_eq_getElem hi) (hgd i hi id)
 have lx:∀ i,i<Hin.length→lnL (b7 e 0 A) Hin i=ae e σ.H (B0.getD i 0):=by
  intro i hi;obtain ⟨k,h1,_,_,h4,h5⟩:=get i hi;rw[rn i hi,qr h1,qty (List.getElem?_eq_getElem hi)];simp only[SB.len,qcf (zero_le _) h4,qfk h5]
 refine ⟨fun i hi=>⟨rn i hi,lx i hi⟩,fun p hp=>?_,fun i hi=>?_⟩
 · obtain ⟨i,hi,rfl⟩:=List.mem_iff_getElem.1 hp;obtain ⟨k,h1,_,_,h4,_⟩:=get i hi;rw[qcf (zero_le _) h4];exact hS.sl _ k h1
 · obtain ⟨k,h1,h2,h3,h4,h5⟩:=get i hi;have hd:=qcf (e:=e) (zero_le _) h4;refine ⟨k,h1,h2,h3,hd,qfk h5,h4,?_⟩;have hx:=a4e hS h1 (a3r h5)
   have cx:(k.inst e (ae e σ.H)).rows=(((Hin[i]).inst (b7 e 0 A) (lnL (b7 e 0 A) Hin)).ren fun i=>B0.getD i id).rows:=by
    show SB.rows _ _ _=(SB.rows _ _ _).map _
    simp only[SB.rows,List.map_append,map_map,hd]
    congr 1
    · refine map_congr_left fun r _=>?_
      simp only[Function.comp,map_map];exact map_congr_left fun d _=>rfl
    · refine ext_getElem (by simp[qfk h5]) fun j hj gb=>?_
      simp only[getElem_map,Function.comp]
      have hbl:SV.hasL (fun b=>ble Hin.length b) ((Hin[i]).tl[j]'(by simpa using gb))=false:=
       qkc (List.all_eq_true.1 (hb _ (getElem_mem hi)) _ (getElem_mem _))
      exact (qtj (m:=fun i=>B0.getD i id) (fun i hi=>⟨rn i hi,lx i hi⟩) _ (quw h5 j (by simpa using gb) (by simpa using hj)) hbl).symm
   simp only[SB.like,and_eq_true,beq_iff_eq] at h2;unfold dl
   by_cases jy:B0.getD i id∈fz
   · rw[if_pos jy,hx];rw[qsg.2 jy,Bool.or_true] at h3;simp only[Option.map_some,ux,Blk.ren]
     congr 1
     simp only[SB.inst,Blk.ren] at cx ⊢;rw[cx,h3,h2.1.1,h2.1.2,h2.2]
   · rw[if_neg jy,hx]
     have h0:inL fz (B0.getD i id)=false:=by
      cases hb:inL fz (B0.getD i id) with
      | false=>rfl
      | true=>exact absurd (qsg.1 hb) jy
     rw[h0,Bool.or_false] at h3
     congr 1
     simp only[SB.inst,Blk.ren] at cx ⊢;rw[cx,h3,h2.1.1,h2.1.2,h2.2]
theorem qmf(e o:Env)(x:SA):(x.shift e.length).val (e++o)=x.val o:=by
 cases x with
 | v x=>
  simp only[SA.shift,SA.val,List.getD_eq_getElem?_getD];rw[List.getElem?_append_right (by omega)]
  simp
 | c d=>rfl
mutual
theorem qno{o:Env}{m:Nat→Nat}{n:Nat}{lnO ln:Nat→Nat}(hm:∀ b,b<n→ln (m b)=lnO b):∀ {v:SV},v.has (fun b=>ble n b)=false→(v.inst o lnO).ren m=(v.shift e.length m).inst (e++o) ln
 | .atm (.v x),_=>by
  simp only[SV.inst,SV.shift,AV.ren];rw[show (SA.v (e.length+x))=(SA.v x).shift e.length from rfl,qmf]
 | .atm (.c d),_=>rfl
 | .nils,_=>rfl
 | .agg cs,h=>by
  simp only[SV.inst,SV.shift,AV.ren,qoc];rw[qtd hm (l:=cs) h]
 | .tup cs,h=>by
  simp only[SV.inst,SV.shift,AV.ren,qoc];rw[qtd hm (l:=cs) h]
 | .own b,h=>by simp only[SV.inst,SV.shift,AV.ren];rw[hm b (qub h)]
 | .ptr b _ _,h=>by simp only[SV.inst,SV.shift,AV.ren];rw[hm b (qub h)]
 | .px b (.v x) _,h=>by
  simp only[SV.inst,SV.shift,AV.ren];rw[hm b (qub h),show (SA.v (e.length+x))=(SA.v x).shift e.length from rfl,qmf]
 | .px b (.c d) _,h=>by simp only[SV.inst,SV.shift,AV.ren];rw[hm b (qub h)];rfl
 | .ep cs,_=>by
  simp only[SV.inst,SV.shift,AV.ren,map_map]
  congr 1
  refine map_congr_left fun x _=>?_
  cases x with
  | v x=>exact (qmf e o (.v x)).symm
  | c d=>rfl
 | .clo _ a b,h=>by
  simp only[SV.has,or_eq_false_iff] at h;simp only[SV.inst,SV.shift,AV.ren,qoc];rw[qtd hm h.1,qtd hm h.2]
 | .junk,_=>rfl
theorem qtd{o:Env}{m:Nat→Nat}{n:Nat}{lnO ln:Nat→Nat}(hm:∀ b,b<n→ln (m b)=lnO b):∀ {l:List SV},SV.hasL (fun b=>ble n b) l=false→(SV.instL o lnO l).map (AV.ren m)=SV.instL (e++o) ln (SV.shiftL e.length m l)
 | [],_=>rfl
 | c::cs,h=>by
  simp only[SV.hasL,or_eq_false_iff] at h;simp only[SV.instL,SV.shiftL,map_cons];rw[qno hm h.1,qtd hm h.2]
end
theorem a4s{o:Env}{m:Nat→Nat}{n:Nat}{lnO ln:Nat→Nat}(hm:∀ b,b<n→ln (m b)=lnO b){k:SB}(h:j6 n k=true):(k.inst o lnO).ren m=(k.shift e.length m).inst (e++o) ln:=by
 simp only[SB.inst,Blk.ren,SB.shift]
 congr 1
 simp only[SB.rows,List.map_append,map_map,qmf]
 congr 1
 · refine map_congr_left fun r _=>?_
   simp only[Function.comp,map_map];exact map_congr_left fun d _=>rfl
 · refine map_congr_left fun r hr=>?_
   simp only[Function.comp];exact qtd hm (qkc (List.all_eq_true.1 h r hr))
theorem asv{o:Env}{m:Nat→Nat}{k:SB}:(k.shift e.length m).len (e++o)=k.len o:=by
 simp only[SB.len,SB.shift,qmf,List.length_map]
end
end Am
