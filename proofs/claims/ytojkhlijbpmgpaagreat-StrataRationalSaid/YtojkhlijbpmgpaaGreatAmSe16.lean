/- The abstract machine and its reader: lemmas. -/
import Derived.Test.YtojkhlijbpmgpaaGreatAmSe15
set_option linter.unusedSimpArgs false
set_option linter.unusedVariables false
set_option linter.unusedSectionVars false
namespace Am
open Go
section
variable {σ σ1 σ2 : SS} {e e' : Env} {s : Sta} {kk : Nat}
theorem getS_all {p : SV → Bool} (hj : p .junk = true) : ∀ {l : List SV},l.all p = true → ∀ t,p (getS l t) = true := by
 intro l
 induction l with
 | nil => intro _ t; cases t <;> exact hj
 | cons a l ih =>
  intro h t
  simp only [List.all_cons,Bool.and_eq_true] at h
  cases t with
  | zero => exact h.1
  | succ t => exact ih h.2 t
theorem getB_mem : ∀ {H : List (Option SB)} {b : Nat} {k : SB},getB H b = some k → some k ∈ H := by
 intro H
 induction H with
 | nil => intro b k h; cases b <;> simp [getB] at h
 | cons a H ih =>
  intro b k h
  cases b with
  | zero => simp only [getB] at h; simp [h]
  | succ b => simp [ih (by simpa [getB] using h)]
theorem getB_none : ∀ {H : List (Option SB)} {b : Nat},H.length ≤ b → getB H b = none := by
 intro H
 induction H with
 | nil => intro b _; cases b <;> rfl
 | cons a H ih =>
  intro b h
  cases b with
  | zero => simp at h
  | succ b => exact ih (by simpa using h)
theorem okB_tm {m : Nat} (h : σ.okB m = true) (t : Nat) : (getS σ.tm t).ok m = true := by
 simp only [SS.okB,Bool.and_eq_true] at h
 exact getS_all (p := SV.ok m) rfl h.1 t
theorem okB_H {m : Nat} (h : σ.okB m = true) {b : Nat} {k : SB} (hk : getB σ.H b = some k) : k.ok m = true := by
 simp only [SS.okB,Bool.and_eq_true,List.all_eq_true] at h
 exact h.2 _ (getB_mem hk)
mutual
theorem inst_inK {ln : Nat → Nat} {n : Nat} : ∀ {v : SV},v.has (fun b => Nat.ble n b) = false → (v.inst e ln).inK n = true
 | .atm _,_ => rfl
 | .nils,_ => rfl
 | .agg cs,h => by simp only [SV.inst,AV.inK]; exact instL_inK (l := cs) h
 | .tup cs,h => by simp only [SV.inst,AV.inK]; exact instL_inK (l := cs) h
 | .own b,h => by
  simp only [SV.has] at h
  simp only [SV.inst,AV.inK,decide_eq_true_eq]
  exact Nat.lt_of_not_le fun hle => by rw [Nat.ble_eq_true_of_le hle] at h; simp at h
 | .ptr b _ _,h => by
  simp only [SV.has] at h
  simp only [SV.inst,AV.inK,decide_eq_true_eq]
  exact Nat.lt_of_not_le fun hle => by rw [Nat.ble_eq_true_of_le hle] at h; simp at h
 | .px b _ _,h => by
  simp only [SV.has] at h
  simp only [SV.inst,AV.inK,decide_eq_true_eq]
  exact Nat.lt_of_not_le fun hle => by rw [Nat.ble_eq_true_of_le hle] at h; simp at h
 | .ep _,_ => rfl
 | .clo _ a b,h => by
  simp only [SV.has,Bool.or_eq_false_iff] at h
  simp only [SV.inst,AV.inK,Bool.and_eq_true]
  exact ⟨instL_inK h.1,instL_inK h.2⟩
 | .junk,_ => rfl
theorem instL_inK {ln : Nat → Nat} {n : Nat} : ∀ {l : List SV},SV.hasL (fun b => Nat.ble n b) l = false → AV.inKL n (SV.instL e ln l) = true
 | [],_ => rfl
 | c :: cs,h => by
  simp only [SV.hasL,Bool.or_eq_false_iff] at h
  simp only [SV.instL,AV.inKL,Bool.and_eq_true]
  exact ⟨inst_inK h.1,instL_inK h.2⟩
end
theorem rows_inK {ln : Nat → Nat} {n : Nat} {k : SB} (h : ∀ r ∈ k.tl,SV.hasL (fun b => Nat.ble n b) r = false) : ∀ row ∈ (k.inst e ln).rows,row.all (AV.inK n) = true := by
 intro row hrow
 simp only [SB.inst,SB.rows,List.mem_append] at hrow
 rcases hrow with hrow | hrow
 · obtain ⟨r,_,rfl⟩ := List.mem_map.1 hrow
   rw [List.all_eq_true]
   intro a ha
   obtain ⟨d,_,rfl⟩ := List.mem_map.1 ha
   rfl
 · obtain ⟨r,hr,rfl⟩ := List.mem_map.1 hrow
   have := instL_inK (e := e) (ln := ln) (h r hr)
   rwa [inKL_eq] at this
section mt
variable {base : Nat} {A : List SA}
def e2Of (e : Env) (base : Nat) (A : List SA) : Env := e.take base ++ A.map (·.val e)
theorem mtA_ok (hb : base ≤ e.length) {p q : SA} (h : mtA base A p q = true) : p.val (e2Of e base A) = q.val e := by
 have hl : (e.take base).length = base := by simp; omega
 cases p with
 | v x =>
  simp only [mtA] at h
  split at h
  · rename_i hx
    rw [blt_lt] at hx
    rw [← SA.beq_eq h]
    simp only [SA.val,e2Of,List.getD_eq_getElem?_getD]
    rw [List.getElem?_append_left (by omega),List.getElem?_take,if_pos hx]
  · rename_i hx
    have hx' : base ≤ x := by rw [blt_lt] at hx; omega
    split at h
    · rename_i p hp
      rw [← SA.beq_eq h]
      simp only [SA.val,e2Of,List.getD_eq_getElem?_getD]
      rw [List.getElem?_append_right (by omega),hl,List.getElem?_map,hp]
      rfl
    · simp at h
 | c d => simp only [mtA] at h; rw [← SA.beq_eq h]; rfl
theorem mtAs_ok (hb : base ≤ e.length) : ∀ {p q : List SA},mtAs base A p q = true → p.map (·.val (e2Of e base A)) = q.map (·.val e) := by
 intro p
 induction p with
 | nil => intro q h; cases q with
  | nil => rfl
  | cons => simp [mtAs] at h
 | cons a p ih => intro q h; cases q with
  | nil => simp [mtAs] at h
  | cons b q =>
   simp only [mtAs,Bool.and_eq_true] at h
   simp only [List.map_cons,mtA_ok hb h.1,ih h.2]
variable {ps : List Nat}
def mtHyp (e : Env) (base : Nat) (A : List SA) (σ1 : SS) (ps : List Nat) (n2 : Nat) (ln2 : Nat → Nat) : Prop :=
 base ≤ e.length ∧ (∀ b,b < n2 → ln2 b = lnOf e σ1.H b) ∧ ∀ b k,getB σ1.H b = some k → ∃ xs,k.d.val e = .sl xs
theorem ble_false {n b : Nat} (h : Nat.ble n b = false) : b < n := Nat.lt_of_not_le fun hle => by rw [Nat.ble_eq_true_of_le hle] at h; simp at h
mutual
theorem mt_ok {n2 : Nat} {ln2 : Nat → Nat} (hh : mtHyp e base A σ1 ps n2 ln2) : ∀ (p : SV) {q : SV},mt base A id σ1.H true true (inL ps) p q = true → p.has (fun b => Nat.ble n2 b) = false →
 Wh ((σ1.pin ps).inst e).H (q.inst e (lnOf e σ1.H)) (p.inst (e2Of e base A) ln2)
 | .atm p,q,h,_ => by
  cases q with
  | atm q => simp only [mt] at h; simp only [SV.inst]; rw [mtA_ok hh.1 h]; exact .refl _
  | nils => simp only [mt,Bool.true_and] at h; simp only [SV.inst]; rw [mtA_ok hh.1 h]; exact Wh.nils
  | own b =>
   simp only [mt,Bool.and_eq_true] at h
   obtain ⟨hb,hm⟩ := h
   unfold mtOwn at hm
   split at hm
   · rename_i k hk
     simp only [Bool.and_eq_true] at hm
     simp only [SV.inst]
     rw [mtA_ok hh.1 hm.2]
     have hk1 : getB (σ1.pin ps).H b = some { k with fz := true } := by
      simp only [SS.pin]; rw [getB_pin,hk]; simp [hb]
     have := frz_sym (e := e) (k := { k with fz := true }) hk1 hm.1 rfl (hh.2.2 b k hk)
     have hl : lnOf e (σ1.pin ps).H b = lnOf e σ1.H b := pin_len (inL ps) σ1.H b
     rw [hl] at this
     exact this
   · simp at hm
  | clo f x y =>
   cases x with
   | cons => simp [mt] at h
   | nil => cases y with
    | cons => simp [mt] at h
    | nil =>
     simp only [mt,Bool.true_and] at h
     simp only [SV.inst,SV.instL]
     rw [mtA_ok hh.1 h]
     exact Wh.fn f
  | _ => simp [mt] at h
 | .nils,q,h,_ => by
  cases q with
  | nils => exact .refl _
  | _ => simp [mt] at h
 | .agg ps',q,h,hb => by
  cases q with
  | agg qs =>
   simp only [mt] at h
   obtain ⟨h1,h2⟩ := mtL_ok hh ps' h hb
   exact Wh.agg h1 h2
  | _ => simp [mt] at h
 | .tup ps',q,h,hb => by
  cases q with
  | tup qs =>
   simp only [mt] at h
   obtain ⟨h1,h2⟩ := mtL_ok hh ps' h hb
   exact Wh.tup h1 h2
  | _ => simp [mt] at h
 | .own b,q,h,hb => by
  cases q with
  | own c =>
   have hbc : b = c := by simpa [mt] using h
   subst hbc
   simp only [SV.inst]
   rw [hh.2.1 b (ble_false hb)]
   exact .refl _
  | _ => simp [mt] at h
 | .ptr b i j,q,h,hb => by
  cases q with
  | ptr c k l =>
   simp only [mt,Bool.and_eq_true,beq_iff_eq,id] at h
   obtain ⟨⟨rfl,rfl⟩,rfl⟩ := h
   simp only [SV.inst]
   rw [hh.2.1 b (ble_false hb)]
   exact .refl _
  | _ => simp [mt] at h
 | .px b x j,q,h,hb => by
  cases q with
  | px c y l =>
   simp only [mt,Bool.and_eq_true,beq_iff_eq,id] at h
   obtain ⟨⟨rfl,hx⟩,rfl⟩ := h
   simp only [SV.inst]
   rw [hh.2.1 b (ble_false hb),mtA_ok hh.1 hx]
   exact .refl _
  | _ => simp [mt] at h
 | .ep as,q,h,_ => by
  cases q with
  | ep bs =>
   simp only [mt] at h
   simp only [SV.inst]
   rw [mtAs_ok hh.1 h]
   exact .refl _
  | _ => simp [mt] at h
 | .clo f a b,q,h,hb => by
  cases q with
  | clo g c d =>
   simp only [mt,Bool.and_eq_true,beq_iff_eq] at h
   obtain ⟨⟨rfl,h1⟩,h2⟩ := h
   simp only [SV.has,Bool.or_eq_false_iff] at hb
   obtain ⟨g1,g2⟩ := mtL_ok hh a h1 hb.1
   obtain ⟨g3,g4⟩ := mtL_ok hh b h2 hb.2
   exact Wh.clo g1 g2 g3 g4
  | _ => simp [mt] at h
 | .junk,q,_,_ => .junk _
theorem mtL_ok {n2 : Nat} {ln2 : Nat → Nat} (hh : mtHyp e base A σ1 ps n2 ln2) : ∀ (l : List SV) {l' : List SV},mtL base A id σ1.H true true (inL ps) l l' = true → SV.hasL (fun b => Nat.ble n2 b) l = false →
 (SV.instL e (lnOf e σ1.H) l').length = (SV.instL (e2Of e base A) ln2 l).length ∧ ∀ i (h : i < (SV.instL e (lnOf e σ1.H) l').length) (h' : i < (SV.instL (e2Of e base A) ln2 l).length),Wh ((σ1.pin ps).inst e).H (SV.instL e (lnOf e σ1.H) l')[i] (SV.instL (e2Of e base A) ln2 l)[i]
 | [],l',h,_ => by
  cases l' with
  | nil => exact ⟨rfl,fun i hi => by simp [SV.instL] at hi⟩
  | cons => simp [mtL] at h
 | a :: l,l',h,hb => by
  cases l' with
  | nil => simp [mtL] at h
  | cons b l' =>
   simp only [mtL,Bool.and_eq_true] at h
   simp only [SV.hasL,Bool.or_eq_false_iff] at hb
   obtain ⟨g1,g2⟩ := mtL_ok hh l h.2 hb.2
   have g0 := mt_ok hh a h.1 hb.1
   refine ⟨by simp [SV.instL,g1],fun i hi hi' => ?_⟩
   cases i with
   | zero => exact g0
   | succ i => exact g2 i (by simpa [SV.instL] using hi) (by simpa [SV.instL] using hi')
end
theorem mtR_len {H : List (Option SB)} {B : Nat → Nat} {jk nl : Bool} {fz : Nat → Bool} : ∀ {l l' : List (List SV)},mtR base A B H jk nl fz l l' = true → l.length = l'.length := by
 intro l
 induction l with
 | nil => intro l' h; cases l' with
  | nil => rfl
  | cons => simp [mtR] at h
 | cons a l ih => intro l' h; cases l' with
  | nil => simp [mtR] at h
  | cons b l' =>
   simp only [mtR,Bool.and_eq_true] at h
   simp [ih h.2]
theorem mtR_get {H : List (Option SB)} {B : Nat → Nat} {jk nl : Bool} {fz : Nat → Bool} : ∀ {l l' : List (List SV)},mtR base A B H jk nl fz l l' = true → ∀ i (h : i < l.length) (h' : i < l'.length),mtL base A B H jk nl fz l[i] l'[i] = true := by
 intro l
 induction l with
 | nil => intro l' _ i h; simp at h
 | cons a l ih => intro l' h i hi hi'; cases l' with
  | nil => simp [mtR] at h
  | cons b l' =>
   simp only [mtR,Bool.and_eq_true] at h
   cases i with
   | zero => exact h.1
   | succ i => exact ih h.2 i (by simpa using hi) (by simpa using hi')
theorem mtSlots_get {H : List (Option SB)} : ∀ {l l' : List SV},mtSlots base A H ps l l' = true → ∀ t,mt base A id H true true (inL ps) (getS l t) (getS l' t) = true := by
 intro l
 induction l with
 | nil => intro l' _ t; cases t <;> rfl
 | cons a l ih =>
  intro l' h t
  cases l' with
  | nil =>
   have ha : a = .junk ∧ mtSlots base A H ps l [] = true := by
    cases a <;> first | exact ⟨rfl,h⟩ | simp [mtSlots] at h
   obtain ⟨rfl,h2⟩ := ha
   cases t with
   | zero => rfl
   | succ t =>
    have := ih h2 t
    have e0 : getS [] t = SV.junk := by cases t <;> rfl
    rw [e0] at this
    simpa [getS] using this
  | cons b l' =>
   have h2 : mt base A id H true true (inL ps) a b = true ∧ mtSlots base A H ps l l' = true := by
    cases a <;> (simp only [mtSlots,Bool.and_eq_true] at h; exact h)
   cases t with
   | zero => exact h2.1
   | succ t => exact ih h2.2 t
end mt
theorem enter_ok (hS : Sat e σ1 s) {base n : Nat} {A : List SA} (hok : σ2.okB (base + n) = true) (h : enter kk base n σ2 e.length σ1 = some A) :
 A.length = n ∧ base ≤ e.length ∧ A.all (SA.ok e.length) = true ∧ ∃ s',Ent kk s s' ∧ Sat (e2Of e base A) σ2 s' := by
 unfold enter at h
 dsimp only at h
 split at h
 · simp at h
 · rename_i A' hA'
   split at h
   · rename_i hc
     cases h
     simp only [Bool.and_eq_true,beq_iff_eq,Bool.not_eq_true',List.any_eq_false] at hc
     obtain ⟨⟨⟨⟨⟨⟨⟨⟨⟨⟨c1,c2⟩,c3⟩,c4⟩,c5⟩,c6⟩,c7⟩,c8⟩,c9⟩,c10⟩,c11⟩ := hc
     have c3' := Nat.le_of_ble_eq_true c3
     have hb := Nat.le_of_ble_eq_true c5
     have c8' := Nat.le_of_ble_eq_true c8
     have c11' := Nat.le_of_ble_eq_true c11
     generalize hps : pinsFor σ2 σ1 = ps at c6 c7
     refine ⟨c1,hb,c2,?_⟩
     have hl2 : (e2Of e base A).length = base + n := by simp [e2Of,c1]; omega
     have hblk : ∀ b,b < σ2.nx → (getB σ2.H b = none ∧ getB σ1.H b = none) ∨ ∃ p k,getB σ2.H b = some p ∧ getB σ1.H b = some k ∧ p.like k = true ∧ p.fz = (k.fz || inL ps b) ∧ p.d.val (e2Of e base A) = k.d.val e ∧ mtR base A id σ1.H true true (inL ps) p.tl k.tl = true := by
      intro b hb'
      have := List.all_eq_true.1 c7 b (List.mem_range.2 hb')
      cases h2 : getB σ2.H b with
      | none => cases h1 : getB σ1.H b with
       | none => exact .inl ⟨rfl,rfl⟩
       | some k => rw [h1,h2] at this; simp [mtBlk] at this
      | some p => cases h1 : getB σ1.H b with
       | none => rw [h1,h2] at this; simp [mtBlk] at this
       | some k =>
        rw [h1,h2] at this
        simp only [mtBlk,Bool.and_eq_true,beq_iff_eq] at this
        exact .inr ⟨p,k,rfl,rfl,this.1.1.1,this.1.1.2,mtA_ok hb this.1.2,this.2⟩
     have hlnb : ∀ b,b < σ2.nx → lnOf (e2Of e base A) σ2.H b = lnOf e σ1.H b := by
      intro b hb'
      rcases hblk b hb' with ⟨h2,h1⟩ | ⟨p,k,h2,h1,_,_,hd,htl⟩
      · simp [lnOf,h1,h2]
      · rw [lnOf_some h2,lnOf_some h1]; simp only [SB.len,hd,mtR_len htl]
     have hh : mtHyp e base A σ1 ps σ2.nx (lnOf (e2Of e base A) σ2.H) := ⟨hb,hlnb,hS.sl⟩
     have hbel : ∀ t,(getS σ2.tm t).has (fun b => Nat.ble σ2.nx b) = false := by
      intro t
      have := getS_all (p := fun v => !(v.has fun b => Nat.ble σ2.nx b)) rfl (l := σ2.tm) (by rw [List.all_eq_true]; intro v hv; simpa using c9 v hv) t
      simpa using this
     have hbelH : ∀ b p,getB σ2.H b = some p → ∀ r ∈ p.tl,SV.hasL (fun b => Nat.ble σ2.nx b) r = false := by
      intro b p hp r hr
      have := List.all_eq_true.1 c10 _ (getB_mem hp)
      simp only [List.all_eq_true,Bool.not_eq_true'] at this
      exact this r hr
     obtain ⟨s1,e1,rfl,hS1⟩ := hS.pin (kk := kk) ps
     have hpl : lnOf e (σ1.pin ps).H = lnOf e σ1.H := funext fun b => pin_len (inL ps) σ1.H b
     let sQ : Sta := ⟨fun t => (getS σ2.tm t).inst (e2Of e base A) (lnOf (e2Of e base A) σ2.H),fun b => if b < σ2.nx then (getB σ2.H b).map (·.inst (e2Of e base A) (lnOf (e2Of e base A) σ2.H)) else ((σ1.pin ps).inst e).H b,σ1.nx,σ1.n⟩
     have hw : WhS ((σ1.pin ps).inst e) sQ := by
      refine ⟨rfl,rfl,fun t => ?_,fun b => ?_⟩
      · show Wh _ ((getS σ1.tm t).inst e (lnOf e (σ1.pin ps).H)) _
        rw [hpl]
        exact mt_ok hh _ (mtSlots_get c6 t) (hbel t)
      · by_cases hb' : b < σ2.nx
        · have hq : sQ.H b = (getB σ2.H b).map (·.inst (e2Of e base A) (lnOf (e2Of e base A) σ2.H)) := if_pos hb'
          rw [hq]
          have hp1 : ((σ1.pin ps).inst e).H b = (getB σ1.H b).map fun k => ({ k with fz := k.fz || inL ps b } : SB).inst e (lnOf e σ1.H) := by
           simp only [SS.inst]
           rw [hpl]
           simp only [SS.pin]
           rw [getB_pin,Option.map_map]
           simp only [Nat.zero_add]
           rfl
          rcases hblk b hb' with ⟨h2,h1⟩ | ⟨p,k,h2,h1,hlk,hf,hd,htl⟩
          · exact .inl ⟨by rw [hp1,h1]; rfl,by rw [h2]; rfl⟩
          · refine .inr ⟨_,_,by rw [hp1,h1]; rfl,by rw [h2]; rfl,?_⟩
            simp only [SB.like,Bool.and_eq_true,beq_iff_eq] at hlk
            have hr1 : (({ k with fz := k.fz || inL ps b } : SB).inst e (lnOf e σ1.H)).rows = (k.d.val e).rows.map (·.map .d) ++ k.tl.map (SV.instL e (lnOf e σ1.H)) := rfl
            have hr2 : (p.inst (e2Of e base A) (lnOf (e2Of e base A) σ2.H)).rows = (k.d.val e).rows.map (·.map .d) ++ p.tl.map (SV.instL (e2Of e base A) (lnOf (e2Of e base A) σ2.H)) := by
             show SB.rows _ _ _ = _
             simp only [SB.rows,hd]
            have hlen := mtR_len htl
            have hrow : ∀ i (h : i < k.tl.length) (h' : i < p.tl.length),(SV.instL e (lnOf e σ1.H) k.tl[i]).length = (SV.instL (e2Of e base A) (lnOf (e2Of e base A) σ2.H) p.tl[i]).length ∧
             ∀ j (hj : j < (SV.instL e (lnOf e σ1.H) k.tl[i]).length) (hj' : j < (SV.instL (e2Of e base A) (lnOf (e2Of e base A) σ2.H) p.tl[i]).length),Wh ((σ1.pin ps).inst e).H (SV.instL e (lnOf e σ1.H) k.tl[i])[j] (SV.instL (e2Of e base A) (lnOf (e2Of e base A) σ2.H) p.tl[i])[j] :=
             fun i h h' => mtL_ok hh _ (mtR_get htl i h' h) (hbelH b p h2 _ (List.getElem_mem h'))
            refine ⟨hf,hlk.1.1,hlk.1.2,hlk.2,?_,?_,?_⟩
            · rw [hr1,hr2]; simp [hlen]
            all_goals simp only [hr1,hr2]
            · intro i hi hi'
              by_cases hx : i < ((k.d.val e).rows.map (·.map AV.d)).length
              · rw [List.getElem_append_left hx,List.getElem_append_left hx]
              · rw [List.getElem_append_right (by omega),List.getElem_append_right (by omega)]
                simp only [List.getElem_map]
                exact (hrow _ (by simp at hi hx ⊢; omega) (by simp at hi' hx ⊢; omega)).1.symm
            · intro i hi hi' j hj hj'
              by_cases hx : i < ((k.d.val e).rows.map (·.map AV.d)).length
              · have h3 : ((k.d.val e).rows.map (·.map AV.d) ++ k.tl.map (SV.instL e (lnOf e σ1.H)))[i] = ((k.d.val e).rows.map (·.map AV.d))[i] := List.getElem_append_left hx
                have h4 : ((k.d.val e).rows.map (·.map AV.d) ++ p.tl.map (SV.instL (e2Of e base A) (lnOf (e2Of e base A) σ2.H)))[i] = ((k.d.val e).rows.map (·.map AV.d))[i] := List.getElem_append_left hx
                simp only [h3,h4]
                exact .refl _
              · have hx' : ((k.d.val e).rows.map (·.map AV.d)).length ≤ i := by omega
                have h3 : ((k.d.val e).rows.map (·.map AV.d) ++ k.tl.map (SV.instL e (lnOf e σ1.H)))[i] = SV.instL e (lnOf e σ1.H) (k.tl[i - (k.d.val e).rows.length]'(by simp at hi hx'; omega)) := by
                 rw [List.getElem_append_right hx']; simp
                have h4 : ((k.d.val e).rows.map (·.map AV.d) ++ p.tl.map (SV.instL (e2Of e base A) (lnOf (e2Of e base A) σ2.H)))[i] = SV.instL (e2Of e base A) (lnOf (e2Of e base A) σ2.H) (p.tl[i - (k.d.val e).rows.length]'(by simp at hi' hx'; omega)) := by
                 rw [List.getElem_append_right hx']; simp
                simp only [h3] at hj ⊢
                simp only [h4] at hj' ⊢
                exact (hrow _ (by simp at hi hx'; omega) (by simp at hi' hx'; omega)).2 j hj hj'
        · have hq : sQ.H b = ((σ1.pin ps).inst e).H b := if_neg hb'
          rw [hq]
          cases hx : ((σ1.pin ps).inst e).H b with
          | none => exact .inl ⟨rfl,rfl⟩
          | some x => exact .inr ⟨x,x,rfl,rfl,.refl _⟩
     have hle : Sta.Le kk sQ (σ2.inst (e2Of e base A)) := by
      refine ⟨c4,c3',c11',fun t => .inr ⟨rfl,inst_inK (hbel t)⟩,?_,fun b blk hb' hbb => ?_⟩
      · funext b
        show (getB σ2.H b).map _ = cutH σ2.nx sQ.H b
        unfold cutH
        split
        · rename_i hb'
          have hq : sQ.H b = (getB σ2.H b).map (·.inst (e2Of e base A) (lnOf (e2Of e base A) σ2.H)) := if_pos hb'
          rw [hq]
        · rename_i hb'
          rw [getB_none (by omega)]; rfl
      · have hb2 : b < σ2.nx := hb'
        have hq : sQ.H b = (getB σ2.H b).map (·.inst (e2Of e base A) (lnOf (e2Of e base A) σ2.H)) := if_pos hb2
        rw [hq] at hbb
        simp only [Option.map_eq_some_iff] at hbb
        obtain ⟨p,hp,rfl⟩ := hbb
        exact rows_inK (hbelH b p hp)
     refine ⟨σ2.inst (e2Of e base A),(e1.trans (Ent.wh hw)).trans (Ent.le hle),Sat.of_inst ?_ (fun t => by rw [hl2]; exact okB_tm hok t) (fun b k hk => by rw [hl2]; exact okB_H hok hk) fun b p hp => ?_⟩
     · exact EWF.append (fun d hd => hS.wf d (List.mem_of_mem_take hd)) (hS.wf.map c2)
     · by_cases hb' : b < σ2.nx
       · rcases hblk b hb' with ⟨h2,_⟩ | ⟨p',k,h2,h1,_,_,hd,_⟩
         · rw [h2] at hp; simp at hp
         · rw [h2] at hp; cases hp
           rw [hd]; exact hS.sl b k h1
       · rw [getB_none (by omega)] at hp; simp at hp
   · simp at h
end
end Am
