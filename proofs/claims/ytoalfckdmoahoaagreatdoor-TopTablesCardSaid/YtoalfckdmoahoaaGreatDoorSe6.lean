/- The abstract machine and its reader: lemmas. -/
import Derived.Test.YtoalfckdmoahoaaGreatDoorSe5
set_option linter.unusedSimpArgs false
set_option linter.unusedVariables false
set_option linter.unusedSectionVars false
namespace Am
open Go
section
variable {σ σ1 σ2:SS} {e e':Env} {s:Sta} {kk:Nat}
theorem qmx {p:SV→Bool} (hj:p .junk=true):∀ {l:List SV},l.all p=true→∀ t,p (getS l t)=true:=by
 intro l
 induction l with
 | nil=>intro _ t;cases t<;>exact hj
 | cons a l ih=>
  intro h t;simp only[List.all_cons,Bool.and_eq_true] at h;cases t with
  | zero=>exact h.1
  | succ t=>exact ih h.2 t
theorem qpy:∀ {H:List (Option SB)} {b:Nat} {k:SB},getB H b=some k→some k∈H:=by
 intro H
 induction H with
 | nil=>intro b k h;cases b<;>simp[getB] at h
 | cons a H ih=>
  intro b k h;cases b with
  | zero=>simp only[getB] at h;simp[h]
  | succ b=>simp[ih (by simpa [getB] using h)]
theorem qis:∀ {H:List (Option SB)} {b:Nat},H.length≤b→getB H b=none:=by
 intro H
 induction H with
 | nil=>intro b _;cases b<;>rfl
 | cons a H ih=>
  intro b h;cases b with
  | zero=>simp at h
  | succ b=>exact ih (by simpa using h)
theorem qqib {m:Nat} (h:σ.okB m=true) (t:Nat):(getS σ.tm t).ok m=true:=by
 simp only[SS.okB,Bool.and_eq_true] at h;exact qmx (p:=SV.ok m) rfl h.1 t
theorem qfac {m:Nat} (h:σ.okB m=true) {b:Nat} {k:SB} (hk:getB σ.H b=some k):k.ok m=true:=by
 simp only[SS.okB,Bool.and_eq_true,List.all_eq_true] at h;exact h.2 _ (qpy hk)
mutual
theorem qdp {ln:Nat→Nat} {n:Nat}:∀ {v:SV},v.has (fun b=>Nat.ble n b)=false→(v.inst e ln).inK n=true
 | .atm _,_=>rfl
 | .nils,_=>rfl
 | .agg cs,h=>by simp only[SV.inst,AV.inK];exact qde (l:=cs) h
 | .tup cs,h=>by simp only[SV.inst,AV.inK];exact qde (l:=cs) h
 | .own b,h=>by
  simp only[SV.has] at h;simp only[SV.inst,AV.inK,decide_eq_true_eq];exact Nat.lt_of_not_le fun hle=>by rw[Nat.ble_eq_true_of_le hle] at h;simp at h
 | .ptr b _ _,h=>by
  simp only[SV.has] at h;simp only[SV.inst,AV.inK,decide_eq_true_eq];exact Nat.lt_of_not_le fun hle=>by rw[Nat.ble_eq_true_of_le hle] at h;simp at h
 | .px b _ _,h=>by
  simp only[SV.has] at h;simp only[SV.inst,AV.inK,decide_eq_true_eq];exact Nat.lt_of_not_le fun hle=>by rw[Nat.ble_eq_true_of_le hle] at h;simp at h
 | .ep _,_=>rfl
 | .clo _ a b,h=>by
  simp only[SV.has,Bool.or_eq_false_iff] at h;simp only[SV.inst,AV.inK,Bool.and_eq_true];exact ⟨qde h.1,qde h.2⟩
 | .junk,_=>rfl
theorem qde {ln:Nat→Nat} {n:Nat}:∀ {l:List SV},SV.hasL (fun b=>Nat.ble n b) l=false→AV.inKL n (SV.instL e ln l)=true
 | [],_=>rfl
 | c::cs,h=>by
  simp only[SV.hasL,Bool.or_eq_false_iff] at h;simp only[SV.instL,AV.inKL,Bool.and_eq_true];exact ⟨qdp h.1,qde h.2⟩
end
theorem qqo {ln:Nat→Nat} {n:Nat} {k:SB} (h:∀ r∈k.tl,SV.hasL (fun b=>Nat.ble n b) r=false):∀ row∈(k.inst e ln).rows,row.all (AV.inK n)=true:=by
 intro row hrow;simp only[SB.inst,SB.rows,List.mem_append] at hrow;rcases hrow with hrow|hrow
 · obtain ⟨r,_,rfl⟩:=List.mem_map.1 hrow;rw[List.all_eq_true];intro a ha;obtain ⟨d,_,rfl⟩:=List.mem_map.1 ha;rfl
 · obtain ⟨r,hr,rfl⟩:=List.mem_map.1 hrow;have:=qde (e:=e) (ln:=ln) (h r hr)
   rwa [qtf] at this
section mt
variable {base:Nat} {A:List SA}
def e2Of (e:Env) (base:Nat) (A:List SA):Env:=e.take base++A.map (·.val e)
theorem qpe (hb:base≤e.length) {p q:SA} (h:mtA base A p q=true):p.val (e2Of e base A)=q.val e:=by
 have hl:(e.take base).length=base:=by simp;omega
 cases p with
 | v x=>
  simp only[mtA] at h
  split at h
  · rename_i hx;rw[qdh] at hx;rw[← SA.beq_eq h];simp only[SA.val,e2Of,List.getD_eq_getElem?_getD];rw[List.getElem?_append_left (by omega),List.getElem?_take,if_pos hx]
  · rename_i hx;have hx':base≤x:=by rw[qdh] at hx;omega
    split at h
    · rename_i p hp;rw[← SA.beq_eq h];simp only[SA.val,e2Of,List.getD_eq_getElem?_getD];rw[List.getElem?_append_right (by omega),hl,List.getElem?_map,hp]
      rfl
    · simp at h
 | c d=>simp only[mtA] at h;rw[← SA.beq_eq h];rfl
theorem qfgb (hb:base≤e.length):∀ {p q:List SA},mtAs base A p q=true→p.map (·.val (e2Of e base A))=q.map (·.val e):=by
 intro p
 induction p with
 | nil=>intro q h;cases q with
  | nil=>rfl
  | cons=>simp[mtAs] at h
 | cons a p ih=>intro q h;cases q with
  | nil=>simp[mtAs] at h
  | cons b q=>
   simp only[mtAs,Bool.and_eq_true] at h;simp only[List.map_cons,qpe hb h.1,ih h.2]
variable {ps:List Nat}
def mtHyp (e:Env) (base:Nat) (A:List SA) (σ1:SS) (ps:List Nat) (n2:Nat) (ln2:Nat→Nat):Prop:=
 base≤e.length∧(∀ b,b<n2→ln2 b=lnOf e σ1.H b)∧∀ b k,getB σ1.H b=some k→∃ xs,k.d.val e = .sl xs
theorem qmb {n b:Nat} (h:Nat.ble n b=false):b<n:=Nat.lt_of_not_le fun hle=>by rw[Nat.ble_eq_true_of_le hle] at h;simp at h
mutual
theorem qvyb {n2:Nat} {ln2:Nat→Nat} (hh:mtHyp e base A σ1 ps n2 ln2):∀ (p:SV) {q:SV},mt base A id σ1.H true true (inL ps) p q=true→p.has (fun b=>Nat.ble n2 b)=false→
 Wh ((σ1.pin ps).inst e).H (q.inst e (lnOf e σ1.H)) (p.inst (e2Of e base A) ln2)
 | .atm p,q,h,_=>by
  cases q with
  | atm q=>simp only[mt] at h;simp only[SV.inst];rw[qpe hh.1 h];exact .refl _
  | nils=>simp only[mt,Bool.true_and] at h;simp only[SV.inst];rw[qpe hh.1 h];exact Wh.nils
  | own b=>
   simp only[mt,Bool.and_eq_true] at h;obtain ⟨hb,hm⟩:=h;unfold mtOwn at hm
   split at hm
   · rename_i k hk;simp only[Bool.and_eq_true] at hm;simp only[SV.inst];rw[qpe hh.1 hm.2]
     have hk1:getB (σ1.pin ps).H b=some { k with fz:=true }:=by
      simp only[SS.pin];rw[qid,hk];simp[hb]
     have:=qqw (e:=e) (k:={ k with fz:=true }) hk1 hm.1 rfl (hh.2.2 b k hk);have hl:lnOf e (σ1.pin ps).H b=lnOf e σ1.H b:=qlh (inL ps) σ1.H b;rw[hl] at this;exact this
   · simp at hm
  | clo f x y=>
   cases x with
   | cons=>simp[mt] at h
   | nil=>cases y with
    | cons=>simp[mt] at h
    | nil=>
     simp only[mt,Bool.true_and] at h;simp only[SV.inst,SV.instL];rw[qpe hh.1 h];exact Wh.fn f
  | _=>simp[mt] at h
 | .nils,q,h,_=>by
  cases q with
  | nils=>exact .refl _
  | _=>simp[mt] at h
 | .agg ps',q,h,hb=>by
  cases q with
  | agg qs=>
   simp only[mt] at h;obtain ⟨h1,h2⟩:=qzn hh ps' h hb;exact Wh.agg h1 h2
  | _=>simp[mt] at h
 | .tup ps',q,h,hb=>by
  cases q with
  | tup qs=>
   simp only[mt] at h;obtain ⟨h1,h2⟩:=qzn hh ps' h hb;exact Wh.tup h1 h2
  | _=>simp[mt] at h
 | .own b,q,h,hb=>by
  cases q with
  | own c=>
   have hbc:b=c:=by simpa [mt] using h
   subst hbc;simp only[SV.inst];rw[hh.2.1 b (qmb hb)];exact .refl _
  | _=>simp[mt] at h
 | .ptr b i j,q,h,hb=>by
  cases q with
  | ptr c k l=>
   simp only[mt,Bool.and_eq_true,beq_iff_eq,id] at h;obtain ⟨⟨rfl,rfl⟩,rfl⟩:=h;simp only[SV.inst];rw[hh.2.1 b (qmb hb)];exact .refl _
  | _=>simp[mt] at h
 | .px b x j,q,h,hb=>by
  cases q with
  | px c y l=>
   simp only[mt,Bool.and_eq_true,beq_iff_eq,id] at h;obtain ⟨⟨rfl,hx⟩,rfl⟩:=h;simp only[SV.inst];rw[hh.2.1 b (qmb hb),qpe hh.1 hx];exact .refl _
  | _=>simp[mt] at h
 | .ep as,q,h,_=>by
  cases q with
  | ep bs=>
   simp only[mt] at h;simp only[SV.inst];rw[qfgb hh.1 h];exact .refl _
  | _=>simp[mt] at h
 | .clo f a b,q,h,hb=>by
  cases q with
  | clo g c d=>
   simp only[mt,Bool.and_eq_true,beq_iff_eq] at h;obtain ⟨⟨rfl,h1⟩,h2⟩:=h;simp only[SV.has,Bool.or_eq_false_iff] at hb;obtain ⟨g1,g2⟩:=qzn hh a h1 hb.1;obtain ⟨g3,g4⟩:=qzn hh b h2 hb.2;exact Wh.clo g1 g2 g3 g4
  | _=>simp[mt] at h
 | .junk,q,_,_=>.junk _
theorem qzn {n2:Nat} {ln2:Nat→Nat} (hh:mtHyp e base A σ1 ps n2 ln2):∀ (l:List SV) {l':List SV},mtL base A id σ1.H true true (inL ps) l l' = true→SV.hasL (fun b=>Nat.ble n2 b) l=false→
 (SV.instL e (lnOf e σ1.H) l').length=(SV.instL (e2Of e base A) ln2 l).length∧∀ i (h:i<(SV.instL e (lnOf e σ1.H) l').length) (h':i<(SV.instL (e2Of e base A) ln2 l).length),Wh ((σ1.pin ps).inst e).H (SV.instL e (lnOf e σ1.H) l')[i] (SV.instL (e2Of e base A) ln2 l)[i]
 | [],l',h,_=>by
  cases l' with
  | nil=>exact ⟨rfl,fun i hi=>by simp[SV.instL] at hi⟩
  | cons=>simp[mtL] at h
 | a::l,l',h,hb=>by
  cases l' with
  | nil=>simp[mtL] at h
  | cons b l'=>
   simp only[mtL,Bool.and_eq_true] at h;simp only[SV.hasL,Bool.or_eq_false_iff] at hb;obtain ⟨g1,g2⟩:=qzn hh l h.2 hb.2;have g0:=qvyb hh a h.1 hb.1;refine ⟨by simp[SV.instL,g1],fun i hi hi'=>?_⟩
   cases i with
   | zero=>exact g0
   | succ i=>exact g2 i (by simpa [SV.instL] using hi) (by simpa [SV.instL] using hi')
end
theorem qgj {H:List (Option SB)} {B:Nat→Nat} {jk nl:Bool} {fz:Nat→Bool}:∀ {l l':List (List SV)},mtR base A B H jk nl fz l l' = true→l.length=l'.length:=by
 intro l
 induction l with
 | nil=>intro l' h;cases l' with
  | nil=>rfl
  | cons=>simp[mtR] at h
 | cons a l ih=>intro l' h;cases l' with
  | nil=>simp[mtR] at h
  | cons b l'=>
   simp only[mtR,Bool.and_eq_true] at h;simp[ih h.2]
theorem qsv {H:List (Option SB)} {B:Nat→Nat} {jk nl:Bool} {fz:Nat→Bool}:∀ {l l':List (List SV)},mtR base A B H jk nl fz l l' = true→∀ i (h:i<l.length) (h':i<l'.length),mtL base A B H jk nl fz l[i] l'[i]=true:=by
 intro l
 induction l with
 | nil=>intro l' _ i h;simp at h
 | cons a l ih=>intro l' h i hi hi';cases l' with
  | nil=>simp[mtR] at h
  | cons b l'=>
   simp only[mtR,Bool.and_eq_true] at h;cases i with
   | zero=>exact h.1
   | succ i=>exact ih h.2 i (by simpa using hi) (by simpa using hi')
theorem qsw {H:List (Option SB)}:∀ {l l':List SV},mtSlots base A H ps l l' = true→∀ t,mt base A id H true true (inL ps) (getS l t) (getS l' t)=true:=by
 intro l
 induction l with
 | nil=>intro l' _ t;cases t<;>rfl
 | cons a l ih=>
  intro l' h t;cases l' with
  | nil=>
   have ha:a = .junk∧mtSlots base A H ps l []=true:=by
    cases a<;>first|exact ⟨rfl,h⟩|simp[mtSlots] at h
   obtain ⟨rfl,h2⟩:=ha;cases t with
   | zero=>rfl
   | succ t=>
    have:=ih h2 t;have e0:getS [] t=SV.junk:=by cases t<;>rfl
    rw[e0] at this
    simpa [getS] using this
  | cons b l'=>
   have h2:mt base A id H true true (inL ps) a b=true∧mtSlots base A H ps l l' = true:=by
    cases a<;>(simp only[mtSlots,Bool.and_eq_true] at h;exact h)
   cases t with
   | zero=>exact h2.1
   | succ t=>exact ih h2.2 t
end mt
theorem qtk (hS:Sat e σ1 s) {base n:Nat} {A:List SA} (hok:σ2.okB (base+n)=true) (h:enter kk base n σ2 e.length σ1=some A) :
 A.length=n∧base≤e.length∧A.all (SA.ok e.length)=true∧∃ s',Ent kk s s'∧Sat (e2Of e base A) σ2 s':=by
 unfold enter at h
 dsimp only at h
 split at h
 · simp at h
 · rename_i A' hA'
   split at h
   · rename_i hc;cases h;simp only[Bool.and_eq_true,beq_iff_eq,Bool.not_eq_true',List.any_eq_false] at hc;obtain ⟨⟨⟨⟨⟨⟨⟨⟨⟨⟨c1,c2⟩,c3⟩,c4⟩,c5⟩,c6⟩,c7⟩,c8⟩,c9⟩,c10⟩,c11⟩:=hc;have c3':=Nat.le_of_ble_eq_true c3;have hb:=Nat.le_of_ble_eq_true c5;have c8':=Nat.le_of_ble_eq_true c8;have c11':=Nat.le_of_ble_eq_true c11;generalize hps:pinsFor σ2 σ1=ps at c6 c7;refine ⟨c1,hb,c2,?_⟩;have hl2:(e2Of e base A).length=base+n:=by simp[e2Of,c1];omega
     have hblk:∀ b,b<σ2.nx→(getB σ2.H b=none∧getB σ1.H b=none)∨∃ p k,getB σ2.H b=some p∧getB σ1.H b=some k∧p.like k=true∧p.fz=(k.fz || inL ps b)∧p.d.val (e2Of e base A)=k.d.val e∧mtR base A id σ1.H true true (inL ps) p.tl k.tl=true:=by
      intro b hb';have:=List.all_eq_true.1 c7 b (List.mem_range.2 hb');cases h2:getB σ2.H b with
      | none=>cases h1:getB σ1.H b with
       | none=>exact .inl ⟨rfl,rfl⟩
       | some k=>rw[h1,h2] at this;simp[mtBlk] at this
      | some p=>cases h1:getB σ1.H b with
       | none=>rw[h1,h2] at this;simp[mtBlk] at this
       | some k=>
        rw[h1,h2] at this;simp only[mtBlk,Bool.and_eq_true,beq_iff_eq] at this;exact .inr ⟨p,k,rfl,rfl,this.1.1.1,this.1.1.2,qpe hb this.1.2,this.2⟩
     have hlnb:∀ b,b<σ2.nx→lnOf (e2Of e base A) σ2.H b=lnOf e σ1.H b:=by
      intro b hb';rcases hblk b hb' with ⟨h2,h1⟩|⟨p,k,h2,h1,_,_,hd,htl⟩
      · simp[lnOf,h1,h2]
      · rw[qk h2,qk h1];simp only[SB.len,hd,qgj htl]
     have hh:mtHyp e base A σ1 ps σ2.nx (lnOf (e2Of e base A) σ2.H):=⟨hb,hlnb,hS.sl⟩
     have hbel:∀ t,(getS σ2.tm t).has (fun b=>Nat.ble σ2.nx b)=false:=by
      intro t;have:=qmx (p:=fun v=>!(v.has fun b=>Nat.ble σ2.nx b)) rfl (l:=σ2.tm) (by rw[List.all_eq_true];intro v hv;simpa using c9 v hv) t
      simpa using this
     have hbelH:∀ b p,getB σ2.H b=some p→∀ r∈p.tl,SV.hasL (fun b=>Nat.ble σ2.nx b) r=false:=by
      intro b p hp r hr;have:=List.all_eq_true.1 c10 _ (qpy hp);simp only[List.all_eq_true,Bool.not_eq_true'] at this;exact this r hr
     obtain ⟨s1,e1,rfl,hS1⟩:=hS.pin (kk:=kk) ps;have hpl:lnOf e (σ1.pin ps).H=lnOf e σ1.H:=funext fun b=>qlh (inL ps) σ1.H b
     let sQ:Sta:=⟨fun t=>(getS σ2.tm t).inst (e2Of e base A) (lnOf (e2Of e base A) σ2.H),fun b=>if b<σ2.nx then (getB σ2.H b).map (·.inst (e2Of e base A) (lnOf (e2Of e base A) σ2.H)) else ((σ1.pin ps).inst e).H b,σ1.nx,σ1.n⟩
     have hw:WhS ((σ1.pin ps).inst e) sQ:=by
      refine ⟨rfl,rfl,fun t=>?_,fun b=>?_⟩
      · show Wh _ ((getS σ1.tm t).inst e (lnOf e (σ1.pin ps).H)) _
        rw[hpl];exact qvyb hh _ (qsw c6 t) (hbel t)
      · by_cases hb':b<σ2.nx
        · have hq:sQ.H b=(getB σ2.H b).map (·.inst (e2Of e base A) (lnOf (e2Of e base A) σ2.H)):=if_pos hb';rw[hq]
          have hp1:((σ1.pin ps).inst e).H b=(getB σ1.H b).map fun k=>({ k with fz:=k.fz || inL ps b }:SB).inst e (lnOf e σ1.H):=by
           simp only[SS.inst];rw[hpl];simp only[SS.pin];rw[qid,Option.map_map];simp only[Nat.zero_add];rfl
          rcases hblk b hb' with ⟨h2,h1⟩|⟨p,k,h2,h1,hlk,hf,hd,htl⟩
          · exact .inl ⟨by rw[hp1,h1];rfl,by rw[h2];rfl⟩
          · refine .inr ⟨_,_,by rw[hp1,h1];rfl,by rw[h2];rfl,?_⟩
            simp only[SB.like,Bool.and_eq_true,beq_iff_eq] at hlk
            have hr1:(({ k with fz:=k.fz || inL ps b }:SB).inst e (lnOf e σ1.H)).rows=(k.d.val e).rows.map (·.map .d)++k.tl.map (SV.instL e (lnOf e σ1.H)):=rfl
            have hr2:(p.inst (e2Of e base A) (lnOf (e2Of e base A) σ2.H)).rows=(k.d.val e).rows.map (·.map .d)++p.tl.map (SV.instL (e2Of e base A) (lnOf (e2Of e base A) σ2.H)):=by
             show SB.rows _ _ _=_
             simp only[SB.rows,hd]
            have hlen:=qgj htl
            have hrow:∀ i (h:i<k.tl.length) (h':i<p.tl.length),(SV.instL e (lnOf e σ1.H) k.tl[i]).length=(SV.instL (e2Of e base A) (lnOf (e2Of e base A) σ2.H) p.tl[i]).length∧
             ∀ j (hj:j<(SV.instL e (lnOf e σ1.H) k.tl[i]).length) (hj':j<(SV.instL (e2Of e base A) (lnOf (e2Of e base A) σ2.H) p.tl[i]).length),Wh ((σ1.pin ps).inst e).H (SV.instL e (lnOf e σ1.H) k.tl[i])[j] (SV.instL (e2Of e base A) (lnOf (e2Of e base A) σ2.H) p.tl[i])[j]:=
             fun i h h'=>qzn hh _ (qsv htl i h' h) (hbelH b p h2 _ (List.getElem_mem h'))
            refine ⟨hf,hlk.1.1,hlk.1.2,hlk.2,?_,?_,?_⟩
            · rw[hr1,hr2];simp[hlen]
            all_goals simp only[hr1,hr2]
            · intro i hi hi'
              by_cases hx:i<((k.d.val e).rows.map (·.map AV.d)).length
              · rw[List.getElem_append_left hx,List.getElem_append_left hx]
              · rw[List.getElem_append_right (by omega),List.getElem_append_right (by omega)]
                simp only[List.getElem_map];exact (hrow _ (by simp at hi hx ⊢;omega) (by simp at hi' hx ⊢;omega)).1.symm
            · intro i hi hi' j hj hj'
              by_cases hx:i<((k.d.val e).rows.map (·.map AV.d)).length
              · have h3:((k.d.val e).rows.map (·.map AV.d)++k.tl.map (SV.instL e (lnOf e σ1.H)))[i]=((k.d.val e).rows.map (·.map AV.d))[i]:=List.getElem_append_left hx
                have h4:((k.d.val e).rows.map (·.map AV.d)++p.tl.map (SV.instL (e2Of e base A) (lnOf (e2Of e base A) σ2.H)))[i]=((k.d.val e).rows.map (·.map AV.d))[i]:=List.getElem_append_left hx;simp only[h3,h4];exact .refl _
              · have hx':((k.d.val e).rows.map (·.map AV.d)).length≤i:=by omega
                have h3:((k.d.val e).rows.map (·.map AV.d)++k.tl.map (SV.instL e (lnOf e σ1.H)))[i]=SV.instL e (lnOf e σ1.H) (k.tl[i-(k.d.val e).rows.length]'(by simp at hi hx';omega)):=by
                 rw[List.getElem_append_right hx'];simp
                have h4:((k.d.val e).rows.map (·.map AV.d)++p.tl.map (SV.instL (e2Of e base A) (lnOf (e2Of e base A) σ2.H)))[i]=SV.instL (e2Of e base A) (lnOf (e2Of e base A) σ2.H) (p.tl[i-(k.d.val e).rows.length]'(by simp at hi' hx';omega)):=by
                 rw[List.getElem_append_right hx'];simp
                simp only[h3] at hj ⊢;simp only[h4] at hj' ⊢;exact (hrow _ (by simp at hi hx';omega) (by simp at hi' hx';omega)).2 j hj hj'
        · have hq:sQ.H b=((σ1.pin ps).inst e).H b:=if_neg hb';rw[hq];cases hx:((σ1.pin ps).inst e).H b with
          | none=>exact .inl ⟨rfl,rfl⟩
          | some x=>exact .inr ⟨x,x,rfl,rfl,.refl _⟩
     have hle:Sta.Le kk sQ (σ2.inst (e2Of e base A)):=by
      refine ⟨c4,c3',c11',fun t=>.inr ⟨rfl,qdp (hbel t)⟩,?_,fun b blk hb' hbb=>?_⟩
      · funext b
        show (getB σ2.H b).map _=cutH σ2.nx sQ.H b
        unfold cutH
        split
        · rename_i hb'
          have hq:sQ.H b=(getB σ2.H b).map (·.inst (e2Of e base A) (lnOf (e2Of e base A) σ2.H)):=if_pos hb';rw[hq]
        · rename_i hb';rw[qis (by omega)];rfl
      · have hb2:b<σ2.nx:=hb'
        have hq:sQ.H b=(getB σ2.H b).map (·.inst (e2Of e base A) (lnOf (e2Of e base A) σ2.H)):=if_pos hb2;rw[hq] at hbb;simp only[Option.map_eq_some_iff] at hbb;obtain ⟨p,hp,rfl⟩:=hbb;exact qqo (hbelH b p hp)
     refine ⟨σ2.inst (e2Of e base A),(e1.trans (Ent.wh hw)).trans (Ent.le hle),Sat.of_inst ?_ (fun t=>by rw[hl2];exact qqib hok t) (fun b k hk=>by rw[hl2];exact qfac hok hk) fun b p hp=>?_⟩
     · exact EWF.append (fun d hd=>hS.wf d (List.mem_of_mem_take hd)) (hS.wf.map c2)
     · by_cases hb':b<σ2.nx
       · rcases hblk b hb' with ⟨h2,_⟩|⟨p',k,h2,h1,_,_,hd,_⟩
         · rw[h2] at hp;simp at hp
         · rw[h2] at hp;cases hp;rw[hd];exact hS.sl b k h1
       · rw[qis (by omega)] at hp;simp at hp
   · simp at h
end
end Am

namespace Am
open Go
variable {P:Program} {G:Glob}
section
variable {σ:SS} {e e':Env} {s:Sta} {kk id:Nat}
mutual
def SV.nj:SV→Bool
 | .junk=>false
 | .agg cs=>SV.njL cs
 | .tup cs=>SV.njL cs
 | .clo _ a b=>SV.njL a&&SV.njL b
 | _=>true
def SV.njL:List SV→Bool
 | []=>true
 | c::cs=>c.nj&&SV.njL cs
end
theorem qjzb {a:AV} {x:D} (h:Wk a (.d x)):a = .d x:=by cases h;rfl
theorem qalb {l:List AV} (h:WkL l []):l=[]:=h.inv_nil
mutual
theorem qjz {ln:Nat→Nat}:∀ (v:SV) {a:AV},v.nj=true→Wk a (v.inst e ln)→a=v.inst e ln
 | .atm x,a,_,h=>qjzb h
 | .nils,a,_,h=>qwj h
 | .agg cs,a,hn,h=>by
  obtain ⟨l,rfl,hl⟩:=qmo h;simp only[SV.inst];rw[qie cs hn hl]
 | .tup cs,a,hn,h=>by
  obtain ⟨l,rfl,hl⟩:=qfsb h;simp only[SV.inst];rw[qie cs hn hl]
 | .own b,a,_,h=>qti h
 | .ptr b i j,a,_,h=>qqd h
 | .px b x j,a,_,h=>qqd h
 | .ep cs,a,_,h=>qkh h
 | .clo f x y,a,hn,h=>by
  obtain ⟨l,l',rfl,h1,h2⟩:=qos h;simp only[SV.nj,Bool.and_eq_true] at hn;simp only[SV.inst];rw[qie x hn.1 h1,qie y hn.2 h2]
 | .junk,a,hn,_=>by simp[SV.nj] at hn
theorem qie {ln:Nat→Nat}:∀ (l:List SV) {as:List AV},SV.njL l=true→WkL as (SV.instL e ln l)→as=SV.instL e ln l
 | [],as,_,h=>qalb h
 | c::l,as,hn,h=>by
  obtain ⟨a,as',rfl,h1,h2⟩:=h.inv_cons;simp only[SV.njL,Bool.and_eq_true] at hn;simp only[SV.instL];rw[qjz c hn.1 h1,qie l hn.2 h2]
end
mutual
theorem qiyb {base:Nat} {A:List SA} {B:Nat→Nat} {H:List (Option SB)} {nl:Bool} {fz:Nat→Bool}:∀ (p:SV) {q:SV},mt base A B H false nl fz p q=true→q.nj=true
 | .atm p,q,h=>by
  cases q with
  | clo f x y=>cases x with
   | cons=>simp[mt] at h
   | nil=>cases y with
    | cons=>simp[mt] at h
    | nil=>rfl
  | junk=>simp[mt] at h
  | agg=>simp[mt] at h
  | tup=>simp[mt] at h
  | _=>rfl
 | .nils,q,h=>by cases q<;>first|rfl|simp[mt] at h
 | .agg ps,q,h=>by
  cases q with
  | agg qs=>simp only[mt] at h;exact qsn ps h
  | _=>simp[mt] at h
 | .tup ps,q,h=>by
  cases q with
  | tup qs=>simp only[mt] at h;exact qsn ps h
  | _=>simp[mt] at h
 | .own b,q,h=>by cases q<;>first|rfl|simp[mt] at h
 | .ptr b i j,q,h=>by cases q<;>first|rfl|simp[mt] at h
 | .px b x j,q,h=>by cases q<;>first|rfl|simp[mt] at h
 | .ep as,q,h=>by cases q<;>first|rfl|simp[mt] at h
 | .clo f a b,q,h=>by
  cases q with
  | clo g c d=>
   simp only[mt,Bool.and_eq_true] at h;simp only[SV.nj,Bool.and_eq_true];exact ⟨qsn a h.1.2,qsn b h.2⟩
  | _=>simp[mt] at h
 | .junk,q,h=>by simp[mt] at h
theorem qsn {base:Nat} {A:List SA} {B:Nat→Nat} {H:List (Option SB)} {nl:Bool} {fz:Nat→Bool}:∀ (l:List SV) {l':List SV},mtL base A B H false nl fz l l' = true→SV.njL l' = true
 | [],l',h=>by cases l' with
  | nil=>rfl
  | cons=>simp[mtL] at h
 | a::l,l',h=>by cases l' with
  | nil=>simp[mtL] at h
  | cons b l'=>
   simp only[mtL,Bool.and_eq_true] at h;simp only[SV.njL,Bool.and_eq_true];exact ⟨qiyb a h.1,qsn l h.2⟩
end
mutual
theorem qrx {A:List SA} {B m:Nat→Nat} {H:List (Option SB)} {n:Nat} {lnI ln:Nat→Nat} (hB:∀ i,i<n→B i=m i∧lnI i=ln (B i)) :
 ∀ (p:SV) {q:SV},mt 0 A B H false false (fun _=>false) p q=true→p.has (fun b=>Nat.ble n b)=false→(p.inst (e2Of e 0 A) lnI).ren m=q.inst e ln
 | .atm p,q,h,_=>by
  cases q with
  | atm q=>simp only[mt] at h;simp only[SV.inst,AV.ren];rw[qpe (Nat.zero_le _) h]
  | clo f x y=>cases x with
   | cons=>simp[mt] at h
   | nil=>cases y with
    | cons=>simp[mt] at h
    | nil=>simp[mt] at h
  | _=>simp[mt] at h
 | .nils,q,h,_=>by
  cases q with
  | nils=>rfl
  | _=>simp[mt] at h
 | .agg ps',q,h,hb=>by
  cases q with
  | agg qs=>
   simp only[mt] at h;simp only[SV.inst,AV.ren,qgc];rw[qvj hB ps' h hb]
  | _=>simp[mt] at h
 | .tup ps',q,h,hb=>by
  cases q with
  | tup qs=>
   simp only[mt] at h;simp only[SV.inst,AV.ren,qgc];rw[qvj hB ps' h hb]
  | _=>simp[mt] at h
 | .own b,q,h,hb=>by
  cases q with
  | own c=>
   have hbc:B b=c:=by simpa [mt] using h
   have hb':=hB b (qmb hb);simp only[SV.inst,AV.ren];rw[← hb'.1,hb'.2,hbc]
  | _=>simp[mt] at h
 | .ptr b i j,q,h,hb=>by
  cases q with
  | ptr c k l=>
   simp only[mt,Bool.and_eq_true,beq_iff_eq] at h;obtain ⟨⟨hbc,rfl⟩,rfl⟩:=h;have hb':=hB b (qmb hb);simp only[SV.inst,AV.ren];rw[← hb'.1,hb'.2,hbc]
  | _=>simp[mt] at h
 | .px b x j,q,h,hb=>by
  cases q with
  | px c y l=>
   simp only[mt,Bool.and_eq_true,beq_iff_eq] at h;obtain ⟨⟨hbc,hx⟩,rfl⟩:=h;have hb':=hB b (qmb hb);simp only[SV.inst,AV.ren];rw[← hb'.1,hb'.2,hbc,qpe (Nat.zero_le _) hx]
  | _=>simp[mt] at h
 | .ep as,q,h,_=>by
  cases q with
  | ep bs=>
   simp only[mt] at h;simp only[SV.inst,AV.ren];rw[qfgb (Nat.zero_le _) h]
  | _=>simp[mt] at h
 | .clo f a b,q,h,hb=>by
  cases q with
  | clo g c d=>
   simp only[mt,Bool.and_eq_true,beq_iff_eq] at h;obtain ⟨⟨rfl,h1⟩,h2⟩:=h;simp only[SV.has,Bool.or_eq_false_iff] at hb;simp only[SV.inst,AV.ren,qgc];rw[qvj hB a h1 hb.1,qvj hB b h2 hb.2]
  | _=>simp[mt] at h
 | .junk,q,h,_=>by simp[mt] at h
theorem qvj {A:List SA} {B m:Nat→Nat} {H:List (Option SB)} {n:Nat} {lnI ln:Nat→Nat} (hB:∀ i,i<n→B i=m i∧lnI i=ln (B i)) :
 ∀ (l:List SV) {l':List SV},mtL 0 A B H false false (fun _=>false) l l' = true→SV.hasL (fun b=>Nat.ble n b) l=false→(SV.instL (e2Of e 0 A) lnI l).map (AV.ren m)=SV.instL e ln l'
 | [],l',h,_=>by
  cases l' with
  | nil=>rfl
  | cons=>simp[mtL] at h
 | a::l,l',h,hb=>by
  cases l' with
  | nil=>simp[mtL] at h
  | cons b l'=>
   simp only[mtL,Bool.and_eq_true] at h;simp only[SV.hasL,Bool.or_eq_false_iff] at hb;simp only[SV.instL,List.map_cons];rw[qrx hB a h.1 hb.1,qvj hB l h.2 hb.2]
end
theorem qjh {X:List (List AV)} {xs:List (List D)} (h:WkR X (xs.map (·.map .d))):X=xs.map (·.map .d):=by
 refine List.ext_getElem h.1 fun i hi hi'=>?_
 obtain ⟨g1,g2⟩:=h.2 i hi hi';refine List.ext_getElem g1 fun j hj hj'=>?_
 have:=g2 j hj hj';simp only[List.getElem_map] at this ⊢;rcases wk_d this with h0|⟨f,h0,_⟩
 · exact h0
 · rw[h0] at this;cases this
theorem qlvb (hS:Sat e σ s) {b:Nat} {k:SB} (hk:getB σ.H b=some k) (htl:k.tl.isEmpty=true) :
 frz1 s.H (.own b (lnOf e σ.H b) 0 (lnOf e σ.H b)) = .d (k.d.val e)∧frz1Ok s.H (.own b (lnOf e σ.H b) 0 (lnOf e σ.H b))=true∧frz1Ids s.H (.own b (lnOf e σ.H b) 0 (lnOf e σ.H b))=[b]:=by
 obtain ⟨xs,hxs⟩:=hS.sl b k hk;obtain ⟨x,hb,hwb⟩:=hS.blk hk
 have hrows:(k.inst e (lnOf e σ.H)).rows=xs.map (·.map .d):=qrb htl hxs;have hR:=hwb.2.2.2.2;rw[hrows] at hR;have hx:=qjh hR;have hl:lnOf e σ.H b=xs.length:=by rw[qk hk,qdc htl hxs]
 have ht:(xs.map (·.map AV.d)).take xs.length=xs.map (·.map AV.d):=List.take_of_length_le (by simp)
 have hall:∀ row∈xs.map (·.map AV.d),∃ y:List D,row=y.map .d:=fun row hrow=>by
  obtain ⟨y,_,rfl⟩:=List.mem_map.1 hrow;exact ⟨y,rfl⟩
 rw[hl];refine ⟨?_,?_,?_⟩
 · simp only[frz1,frzD,hb,hx,List.drop_zero,ht,List.map_map,hxs]
   congr 2
   have e1:(frzD 2 s.H∘AV.d)=fun z:D=>z:=by funext z;rfl
   have e2:((fun l=>List.map (frzD 2 s.H) l)∘fun l=>List.map AV.d l)=fun y:List D=>y:=by
    funext y
    simp only[Function.comp,List.map_map];rw[e1];simp
   rw[e2];simp
 · simp only[frz1Ok,frzOk,hb,hx,List.length_map,decide_true,Bool.true_and,Nat.zero_add,Nat.le_refl,List.drop_zero,ht,List.all_eq_true];intro row hrow;obtain ⟨y,rfl⟩:=hall row hrow;intro c hc;obtain ⟨z,_,rfl⟩:=List.mem_map.1 hc;rfl
 · simp only[frz1Ids,frzIds,hb,hx,List.drop_zero,ht]
   congr 1
   rw[List.flatMap_eq_nil_iff];intro row hrow;obtain ⟨y,rfl⟩:=hall row hrow;rw[List.flatMap_eq_nil_iff];intro c hc;obtain ⟨z,_,rfl⟩:=List.mem_map.1 hc;rfl
theorem qagb (hS:Sat e σ s) {A:List SA} {B m:Nat→Nat} {keep:Bool} {n:Nat} {lnI:Nat→Nat} (hB:∀ i,i<n→B i=m i∧lnI i=lnOf e σ.H (B i)) {p q:SV} (h:mtArg1 A B σ.H keep p q=true) (hb:p.has (fun b=>Nat.ble n b)=false) :
 q.nj=true∧(p.inst (e2Of e 0 A) lnI).ren m=(if keep then q.inst e (lnOf e σ.H) else frz1 s.H (q.inst e (lnOf e σ.H)))∧(keep=false→frz1Ok s.H (q.inst e (lnOf e σ.H))=true∧frz1Ids s.H (q.inst e (lnOf e σ.H))=ownIds1 q):=by
 have plain:mt 0 A B σ.H false false (fun _=>false) p q=true→(∀ b,q ≠ .own b)→q ≠ .nils→q.nj=true∧(p.inst (e2Of e 0 A) lnI).ren m=(if keep then q.inst e (lnOf e σ.H) else frz1 s.H (q.inst e (lnOf e σ.H)))∧(keep=false→frz1Ok s.H (q.inst e (lnOf e σ.H))=true∧frz1Ids s.H (q.inst e (lnOf e σ.H))=ownIds1 q):=by
  intro h h1 h2;refine ⟨qiyb p h,?_,fun _=>?_⟩
  · rw[qrx hB p h hb];cases q<;>first|(exact absurd rfl (h1 _))|(exact absurd rfl h2)|(cases keep<;>rfl)
  · cases q<;>first|(exact absurd rfl (h1 _))|exact ⟨rfl,rfl⟩
 unfold mtArg1 at h
 split at h
 · rename_i b
   split at h
   · rename_i hk;refine ⟨rfl,?_,fun h0=>by rw[hk] at h0;simp at h0⟩
     rw[if_pos hk];exact qrx hB p h hb
   · rename_i hk
     split at h
     · rename_i p;unfold mtOwn at h
       split at h
       · rename_i k hkb;simp only[Bool.and_eq_true] at h;obtain ⟨g1,g2,g3⟩:=qlvb hS hkb h.1;refine ⟨rfl,?_,fun _=>⟨g2,g3⟩⟩
         rw[if_neg hk];simp only[SV.inst,AV.ren];rw[g1,qpe (Nat.zero_le _) h.2]
       · simp at h
     · simp at h
 · split at h
   · rename_i hk;refine ⟨rfl,?_,fun h0=>by rw[hk] at h0;simp at h0⟩
     rw[if_pos hk];exact qrx hB p h hb
   · rename_i hk
     split at h
     · rename_i p;refine ⟨rfl,?_,fun _=>⟨rfl,rfl⟩⟩
       rw[if_neg hk];simp only[SV.inst,AV.ren,frz1];rw[qpe (Nat.zero_le _) h];rfl
     · simp at h
 · rename_i h1 h2;exact plain h (fun b hq=>h1 b hq) (fun hq=>h2 hq)
theorem qttb (hS:Sat e σ s) {A:List SA} {B m:Nat→Nat} {keep:Bool} {n:Nat} {lnI:Nat→Nat} (hB:∀ i,i<n→B i=m i∧lnI i=lnOf e σ.H (B i)):∀ {ps qs:List SV},mtArgL A B σ.H keep ps qs=true→SV.hasL (fun b=>Nat.ble n b) ps=false→
 SV.njL qs=true∧(SV.instL (e2Of e 0 A) lnI ps).map (AV.ren m)=(if keep then SV.instL e (lnOf e σ.H) qs else (SV.instL e (lnOf e σ.H) qs).map (frz1 s.H))∧
 (keep=false→(SV.instL e (lnOf e σ.H) qs).all (frz1Ok s.H)=true∧(SV.instL e (lnOf e σ.H) qs).flatMap (frz1Ids s.H)=qs.flatMap ownIds1):=by
 intro ps
 induction ps with
 | nil=>intro qs h _;cases qs with
  | nil=>exact ⟨rfl,by cases keep<;>rfl,fun _=>⟨rfl,rfl⟩⟩
  | cons=>simp[mtArgL] at h
 | cons p ps ih=>intro qs h hb;cases qs with
  | nil=>simp[mtArgL] at h
  | cons q qs=>
   simp only[mtArgL,Bool.and_eq_true] at h;simp only[SV.hasL,Bool.or_eq_false_iff] at hb;obtain ⟨a1,a2,a3⟩:=qagb hS hB h.1 hb.1;obtain ⟨b1,b2,b3⟩:=ih h.2 hb.2;refine ⟨by simp only[SV.njL,a1,b1,Bool.and_self],?_,fun hk=>?_⟩
   · simp only[SV.instL,List.map_cons,a2,b2];cases keep<;>rfl
   · obtain ⟨a4,a5⟩:=a3 hk;obtain ⟨b4,b5⟩:=b3 hk;simp only[SV.instL,List.all_cons,a4,b4,Bool.and_self,List.flatMap_cons,a5,b5,and_self]
theorem qwzb (hS:Sat e σ s) {A:List SA} {B m:Nat→Nat} {keep:Bool} {n:Nat} {lnI:Nat→Nat} (hB:∀ i,i<n→B i=m i∧lnI i=lnOf e σ.H (B i)) {p q:SV} (h:mtArg A B σ.H keep p q=true) (hb:p.has (fun b=>Nat.ble n b)=false) :
 q.nj=true∧(p.inst (e2Of e 0 A) lnI).ren m=(if keep then q.inst e (lnOf e σ.H) else frzA s.H (q.inst e (lnOf e σ.H)))∧(keep=false→frzAOk s.H (q.inst e (lnOf e σ.H))=true∧frzAIds s.H (q.inst e (lnOf e σ.H))=ownIds [q]):=by
 unfold mtArg at h
 split at h
 · rename_i ps qs;obtain ⟨a1,a2,a3⟩:=qttb hS hB h hb;refine ⟨a1,?_,fun hk=>?_⟩
   · simp only[SV.inst,AV.ren,qgc,a2];cases keep<;>rfl
   · obtain ⟨a4,a5⟩:=a3 hk;refine ⟨a4,?_⟩;simp only[SV.inst,frzAIds,a5,ownIds,List.append_nil]
 · rename_i hne;obtain ⟨a1,a2,a3⟩:=qagb hS hB h hb
   have hnagg:∀ cs,q ≠ .agg cs:=by
    intro cs hq;subst hq;unfold mtArg1 at h;cases p<;>first|(exact hne _ _ rfl rfl)|simp[mt] at h
   have e1:frzA s.H (q.inst e (lnOf e σ.H))=frz1 s.H (q.inst e (lnOf e σ.H)):=by cases q<;>first|rfl|(exact absurd rfl (hnagg _))
   have e2:frzAOk s.H (q.inst e (lnOf e σ.H))=frz1Ok s.H (q.inst e (lnOf e σ.H)):=by cases q<;>first|rfl|(exact absurd rfl (hnagg _))
   have e3:frzAIds s.H (q.inst e (lnOf e σ.H))=frz1Ids s.H (q.inst e (lnOf e σ.H)):=by cases q<;>first|rfl|(exact absurd rfl (hnagg _))
   have e4:ownIds [q]=ownIds1 q:=by cases q<;>first|rfl|(exact absurd rfl (hnagg _))
   rw[e1,e2,e3,e4];exact ⟨a1,a2,a3⟩
theorem qjlb (hS:Sat e σ s) {A:List SA} {B m:Nat→Nat} {keep:Bool} {n:Nat} {lnI:Nat→Nat} (hB:∀ i,i<n→B i=m i∧lnI i=lnOf e σ.H (B i)):∀ {ps qs:List SV},mtArgs A B σ.H keep ps qs=true→SV.hasL (fun b=>Nat.ble n b) ps=false→
 SV.njL qs=true∧(SV.instL (e2Of e 0 A) lnI ps).map (AV.ren m)=avs1 keep s.H (SV.instL e (lnOf e σ.H) qs)∧
 avOk keep s.H (SV.instL e (lnOf e σ.H) qs)=true∧avIds keep s.H (SV.instL e (lnOf e σ.H) qs)=(if keep then [] else ownIds qs):=by
 have app:∀ (q:SV) (qs:List SV),ownIds (q::qs)=ownIds [q]++ownIds qs:=by
  intro q qs;cases q<;>simp[ownIds]
 intro ps
 induction ps with
 | nil=>intro qs h _;cases qs with
  | nil=>exact ⟨rfl,by cases keep<;>rfl,by cases keep<;>rfl,by cases keep<;>rfl⟩
  | cons=>simp[mtArgs] at h
 | cons p ps ih=>intro qs h hb;cases qs with
  | nil=>simp[mtArgs] at h
  | cons q qs=>
   simp only[mtArgs,Bool.and_eq_true] at h;simp only[SV.hasL,Bool.or_eq_false_iff] at hb;obtain ⟨a1,a2,a3⟩:=qwzb hS hB h.1 hb.1;obtain ⟨b1,b2,b3,b4⟩:=ih h.2 hb.2;refine ⟨by simp only[SV.njL,a1,b1,Bool.and_self],?_,?_,?_⟩
   · simp only[SV.instL,List.map_cons,a2,b2];cases keep<;>rfl
   · cases keep with
     | true=>rfl
     | false=>
      simp only[avOk,Bool.false_or,SV.instL,List.all_cons,(a3 rfl).1,Bool.true_and] at b3 ⊢;exact b3
   · cases keep with
     | true=>rfl
     | false=>
      simp only[avIds,Bool.false_eq_true,if_false,SV.instL,List.flatMap_cons,(a3 rfl).2] at b4 ⊢;rw[b4,app q qs]
def lnL (e:Env) (L:List SB):Nat→Nat:=lnOf e (L.map some)
def hIn (e:Env) (L:List SB):List Blk:=L.map (·.inst e (lnL e L))
theorem qal:∀ (L:List SB) (i:Nat),getB (L.map some) i=L[i]?:=by
 intro L
 induction L with
 | nil=>intro i;cases i<;>rfl
 | cons a L ih=>intro i;cases i with
  | zero=>rfl
  | succ i=>simpa [getB] using ih i
theorem qxv {e:Env} {L:List SB} {i:Nat} {k:SB} (h:L[i]? = some k):lnL e L i=k.len e:=by
 simp[lnL,lnOf,qal,h]
theorem qodb (hS:Sat e σ s) {b:Nat} {k:SB} (hk:getB σ.H b=some k) (hn:∀ r∈k.tl,SV.njL r=true):s.H b=some (k.inst e (lnOf e σ.H)):=by
 obtain ⟨x,hb,h1,h2,h3,h4,h5⟩:=hS.blk hk;obtain ⟨xs,hxs⟩:=hS.sl b k hk;rw[hb]
 have hrows:x.rows=(k.inst e (lnOf e σ.H)).rows:=by
  have hr:(k.inst e (lnOf e σ.H)).rows=xs.map (·.map .d)++k.tl.map (SV.instL e (lnOf e σ.H)):=by
   show SB.rows _ _ _=_
   rw[SB.rows,hxs];rfl
  rw[hr] at h5 ⊢;obtain ⟨x1,x2,hx,g1,g2⟩:=qtt h5;rw[hx,qjh g1]
  congr 1
  refine List.ext_getElem g2.1 fun i hi hi'=>?_
  have:=g2.2 i hi hi';simp only[List.getElem_map] at this ⊢;exact qie _ (hn _ (List.getElem_mem _)) this
 cases x;simp only[SB.inst] at h1 h2 h3 h4 hrows ⊢;subst h1;subst h2;subst h3;subst h4;subst hrows;rfl
theorem qkfb {A:List SA} {B0:List Nat} {H:List (Option SB)} {fz:List Nat}:∀ {L:List SB} {B:List Nat},mtHin A B0 H fz L B=true→∀ (i:Nat) (p:SB) (b:Nat),L[i]? = some p→B[i]? = some b→
 ∃ k,getB H b=some k∧p.like k=true∧p.fz=(k.fz || inL fz b)∧mtA 0 A p.d k.d=true∧mtR 0 A (fun i=>B0.getD i 0) H false false (fun _=>false) p.tl k.tl=true:=by
 intro L
 induction L with
 | nil=>intro B _ i p b hp;simp at hp
 | cons q L ih=>
  intro B h i p b hp hb;cases B with
  | nil=>simp[mtHin] at h
  | cons c B=>
   simp only[mtHin,Bool.and_eq_true] at h;cases i with
   | zero=>
    simp at hp hb;subst hp;subst hb;have h1:=h.1
    split at h1
    · rename_i k hk;simp only[Bool.and_eq_true,beq_iff_eq] at h1;exact ⟨k,hk,h1.1.1.1,h1.1.1.2,h1.1.2,h1.2⟩
    · simp at h1
   | succ i=>exact ih h.2 i p b (by simpa using hp) (by simpa using hb)
theorem qxsb {base:Nat} {A:List SA} {B:Nat→Nat} {H:List (Option SB)} {nl:Bool} {fz:Nat→Bool}:∀ {l l':List (List SV)},mtR base A B H false nl fz l l' = true→∀ r∈l',SV.njL r=true:=by
 intro l l' h r hr;obtain ⟨i,hi,rfl⟩:=List.mem_iff_getElem.1 hr;have hi':i<l.length:=by rw[qgj h];exact hi
 exact qsn _ (qsv h i hi' hi)
theorem qgjb:∀ {l:List Nat},nodupB l=true→l.Nodup:=by
 intro l
 induction l with
 | nil=>intro _;exact List.nodup_nil
 | cons b l ih=>
  intro h;simp only[nodupB,Bool.and_eq_true,Bool.not_eq_true'] at h;refine List.nodup_cons.2 ⟨fun hb=>?_,ih h.2⟩
  rw[qdg.2 hb] at h;simp at h
theorem qyb {n:Nat} {l:List SV} (h:below n l=true):SV.hasL (fun b=>Nat.ble n b) l=false:=by
 simpa [below] using h
theorem qiq (e:Env) (A:List SA):e2Of e 0 A=A.map (·.val e):=by simp[e2Of]
theorem qsrb (hS:Sat e σ s) {A:List SA} {B0:List Nat} {id:Nat} {fz:List Nat} {Hin:List SB} (h:mtHin A B0 σ.H fz Hin B0=true) (hl:B0.length=Hin.length) (hb:∀ p∈Hin,rowsBelow Hin.length p=true) :
 (∀ i,i<Hin.length→B0.getD i 0=B0.getD i id∧lnL (e2Of e 0 A) Hin i=lnOf e σ.H (B0.getD i 0))∧
 (∀ p∈Hin,∃ xs,p.d.val (e2Of e 0 A) = .sl xs)∧
 ∀ i (hi:i<Hin.length),∃ k,getB σ.H (B0.getD i id)=some k∧(Hin[i]).like k=true∧(Hin[i]).fz=(k.fz || inL fz (B0.getD i id))∧(Hin[i]).d.val (e2Of e 0 A)=k.d.val e∧(Hin[i]).tl.length=k.tl.length∧mtA 0 A (Hin[i]).d k.d=true∧
  pinH fz s.H (B0.getD i id)=some (((Hin[i]).inst (e2Of e 0 A) (lnL (e2Of e 0 A) Hin)).ren fun i=>B0.getD i id):=by
 have hgd:∀ i,i<Hin.length→∀ d,B0[i]? = some (B0.getD i d):=fun i hi d=>by
  rw[List.getD_eq_getElem?_getD,List.getElem?_eq_getElem (by omega)];rfl
 have hsame:∀ i,i<Hin.length→B0.getD i 0=B0.getD i id:=fun i hi=>by
  have h1:=hgd i hi 0;have h2:=hgd i hi id;rw[h1] at h2;exact Option.some.inj h2
 have get:∀ i (hi:i<Hin.length),∃ k,getB σ.H (B0.getD i id)=some k∧(Hin[i]).like k=true∧(Hin[i]).fz=(k.fz || inL fz (B0.getD i id))∧mtA 0 A (Hin[i]).d k.d=true∧mtR 0 A (fun i=>B0.getD i 0) σ.H false false (fun _=>false) (Hin[i]).tl k.tl=true:=
  fun i hi=>qkfb h i _ _ (List.getElem?_eq_getElem hi) (hgd i hi id)
 have hln:∀ i,i<Hin.length→lnL (e2Of e 0 A) Hin i=lnOf e σ.H (B0.getD i 0):=by
  intro i hi;obtain ⟨k,h1,_,_,h4,h5⟩:=get i hi;rw[hsame i hi,qk h1,qxv (List.getElem?_eq_getElem hi)];simp only[SB.len,qpe (Nat.zero_le _) h4,qgj h5]
 refine ⟨fun i hi=>⟨hsame i hi,hln i hi⟩,fun p hp=>?_,fun i hi=>?_⟩
 · obtain ⟨i,hi,rfl⟩:=List.mem_iff_getElem.1 hp;obtain ⟨k,h1,_,_,h4,_⟩:=get i hi;rw[qpe (Nat.zero_le _) h4];exact hS.sl _ k h1
 · obtain ⟨k,h1,h2,h3,h4,h5⟩:=get i hi;have hd:=qpe (e:=e) (Nat.zero_le _) h4;refine ⟨k,h1,h2,h3,hd,qgj h5,h4,?_⟩;have hx:=qodb hS h1 (qxsb h5)
   have hrows:(k.inst e (lnOf e σ.H)).rows=(((Hin[i]).inst (e2Of e 0 A) (lnL (e2Of e 0 A) Hin)).ren fun i=>B0.getD i id).rows:=by
    show SB.rows _ _ _=(SB.rows _ _ _).map _
    simp only[SB.rows,List.map_append,List.map_map,hd]
    congr 1
    · refine List.map_congr_left fun r _=>?_
      simp only[Function.comp,List.map_map];exact List.map_congr_left fun d _=>rfl
    · refine List.ext_getElem (by simp[qgj h5]) fun j hj hj'=>?_
      simp only[List.getElem_map,Function.comp]
      have hbl:SV.hasL (fun b=>Nat.ble Hin.length b) ((Hin[i]).tl[j]'(by simpa using hj'))=false:=
       qyb (List.all_eq_true.1 (hb _ (List.getElem_mem hi)) _ (List.getElem_mem _))
      exact (qvj (m:=fun i=>B0.getD i id) (fun i hi=>⟨hsame i hi,hln i hi⟩) _ (qsv h5 j (by simpa using hj') (by simpa using hj)) hbl).symm
   simp only[SB.like,Bool.and_eq_true,beq_iff_eq] at h2;unfold pinH
   by_cases hin:B0.getD i id∈fz
   · rw[if_pos hin,hx];rw[qdg.2 hin,Bool.or_true] at h3;simp only[Option.map_some,pinB,Blk.ren]
     congr 1
     simp only[SB.inst,Blk.ren] at hrows ⊢;rw[hrows,h3,h2.1.1,h2.1.2,h2.2]
   · rw[if_neg hin,hx]
     have h0:inL fz (B0.getD i id)=false:=by
      cases hb:inL fz (B0.getD i id) with
      | false=>rfl
      | true=>exact absurd (qdg.1 hb) hin
     rw[h0,Bool.or_false] at h3
     congr 1
     simp only[SB.inst,Blk.ren] at hrows ⊢;rw[hrows,h3,h2.1.1,h2.1.2,h2.2]
theorem qxe (e o:Env) (x:SA):(x.shift e.length).val (e++o)=x.val o:=by
 cases x with
 | v x=>
  simp only[SA.shift,SA.val,List.getD_eq_getElem?_getD];rw[List.getElem?_append_right (by omega)]
  simp
 | c d=>rfl
mutual
theorem qlo {o:Env} {m:Nat→Nat} {n:Nat} {lnO ln:Nat→Nat} (hm:∀ b,b<n→ln (m b)=lnO b):∀ {v:SV},v.has (fun b=>Nat.ble n b)=false→(v.inst o lnO).ren m=(v.shift e.length m).inst (e++o) ln
 | .atm (.v x),_=>by
  simp only[SV.inst,SV.shift,AV.ren];rw[show (SA.v (e.length+x))=(SA.v x).shift e.length from rfl,qxe]
 | .atm (.c d),_=>rfl
 | .nils,_=>rfl
 | .agg cs,h=>by
  simp only[SV.inst,SV.shift,AV.ren,qgc];rw[qgd hm (l:=cs) h]
 | .tup cs,h=>by
  simp only[SV.inst,SV.shift,AV.ren,qgc];rw[qgd hm (l:=cs) h]
 | .own b,h=>by simp only[SV.inst,SV.shift,AV.ren];rw[hm b (qmb h)]
 | .ptr b _ _,h=>by simp only[SV.inst,SV.shift,AV.ren];rw[hm b (qmb h)]
 | .px b (.v x) _,h=>by
  simp only[SV.inst,SV.shift,AV.ren];rw[hm b (qmb h),show (SA.v (e.length+x))=(SA.v x).shift e.length from rfl,qxe]
 | .px b (.c d) _,h=>by simp only[SV.inst,SV.shift,AV.ren];rw[hm b (qmb h)];rfl
 | .ep cs,_=>by
  simp only[SV.inst,SV.shift,AV.ren,List.map_map]
  congr 1
  refine List.map_congr_left fun x _=>?_
  cases x with
  | v x=>exact (qxe e o (.v x)).symm
  | c d=>rfl
 | .clo _ a b,h=>by
  simp only[SV.has,Bool.or_eq_false_iff] at h;simp only[SV.inst,SV.shift,AV.ren,qgc];rw[qgd hm h.1,qgd hm h.2]
 | .junk,_=>rfl
theorem qgd {o:Env} {m:Nat→Nat} {n:Nat} {lnO ln:Nat→Nat} (hm:∀ b,b<n→ln (m b)=lnO b):∀ {l:List SV},SV.hasL (fun b=>Nat.ble n b) l=false→(SV.instL o lnO l).map (AV.ren m)=SV.instL (e++o) ln (SV.shiftL e.length m l)
 | [],_=>rfl
 | c::cs,h=>by
  simp only[SV.hasL,Bool.or_eq_false_iff] at h;simp only[SV.instL,SV.shiftL,List.map_cons];rw[qlo hm h.1,qgd hm h.2]
end
theorem qmdb {o:Env} {m:Nat→Nat} {n:Nat} {lnO ln:Nat→Nat} (hm:∀ b,b<n→ln (m b)=lnO b) {k:SB} (h:rowsBelow n k=true):(k.inst o lnO).ren m=(k.shift e.length m).inst (e++o) ln:=by
 simp only[SB.inst,Blk.ren,SB.shift]
 congr 1
 simp only[SB.rows,List.map_append,List.map_map,qxe]
 congr 1
 · refine List.map_congr_left fun r _=>?_
   simp only[Function.comp,List.map_map];exact List.map_congr_left fun d _=>rfl
 · refine List.map_congr_left fun r hr=>?_
   simp only[Function.comp];exact qgd hm (qyb (List.all_eq_true.1 h r hr))
theorem qqdb {o:Env} {m:Nat→Nat} {k:SB}:(k.shift e.length m).len (e++o)=k.len o:=by
 simp only[SB.len,SB.shift,qxe,List.length_map]
end
end Am
