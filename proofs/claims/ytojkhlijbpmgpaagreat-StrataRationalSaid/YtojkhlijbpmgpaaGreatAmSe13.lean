/- The abstract machine and its reader: lemmas. -/
import Derived.Test.YtojkhlijbpmgpaaGreatAmSe12
set_option linter.unusedSimpArgs false
set_option linter.unusedVariables false
set_option linter.unusedSectionVars false
namespace Am
open Go
variable {P : Program} {G : Glob}
section
variable {T : Tab} {SG : SGlob} {σ : SS} {e e' : Env} {s : Sta} {id : Nat}
theorem lnOf_setBs {e : Env} {H H1 : List (Option SB)} (h : ∀ b,lnOf e H1 b = lnOf e H b) : ∀ (up : List (Nat × SB)) (b : Nat),lnOf e (setBs H1 up) b = lnOf e (setBs H up) b := by
 intro up
 induction up generalizing H H1 with
 | nil => exact h
 | cons p up ih =>
  simp only [setBs]
  exact ih fun b => by rw [lnOf_set,lnOf_set,h]
theorem getB_setBs_ok {m : Nat} : ∀ {up : List (Nat × SB)} {H : List (Option SB)},(∀ b k,getB H b = some k → k.ok m = true) → (∀ p ∈ up,p.2.ok m = true) → ∀ b k,getB (setBs H up) b = some k → k.ok m = true := by
 intro up
 induction up with
 | nil => intro H h _ b k hk; exact h b k hk
 | cons p up ih =>
  intro H h hu b k hk
  refine ih (H := setB H p.1 p.2) (fun b k hk => ?_) (fun q hq => hu q (by simp [hq])) b k hk
  rw [getB_set] at hk
  split at hk
  · cases hk; exact hu p (by simp)
  · exact h b k hk
theorem getB_setBs_sl {e : Env} : ∀ {up : List (Nat × SB)} {H : List (Option SB)},(∀ b k,getB H b = some k → ∃ xs,k.d.val e = .sl xs) → (∀ p ∈ up,∃ xs,p.2.d.val e = .sl xs) → ∀ b k,getB (setBs H up) b = some k → ∃ xs,k.d.val e = .sl xs := by
 intro up
 induction up with
 | nil => intro H h _ b k hk; exact h b k hk
 | cons p up ih =>
  intro H h hu b k hk
  refine ih (H := setB H p.1 p.2) (fun b k hk => ?_) (fun q hq => hu q (by simp [hq])) b k hk
  rw [getB_set] at hk
  split at hk
  · cases hk; exact hu p (by simp)
  · exact h b k hk
theorem upds_ok {e : Env} {ln : Nat → Nat} : ∀ {hs : List (Nat × Blk)} {up : List (Nat × SB)} {H : Heap} {H1 : List (Option SB)},HsOK e ln hs up → (∀ b,WkO (H b) ((getB H1 b).map (·.inst e ln))) →
 ∀ b,WkO (updsH H hs b) ((getB (setBs H1 up) b).map (·.inst e ln)) := by
 intro hs
 induction hs with
 | nil =>
  intro up H H1 h hH
  cases up with
  | nil => exact hH
  | cons => exact h.elim
 | cons p hs ih =>
  intro up H H1 h hH
  cases up with
  | nil => exact h.elim
  | cons q up =>
   obtain ⟨h1,h2,h3⟩ := h
   refine ih (up := up) (H := updH H p.1 p.2) (H1 := setB H1 q.1 q.2) h3 fun b => ?_
   rw [getB_set]
   unfold updH
   rw [h1]
   split
   · exact h2
   · exact hH b
theorem hs_nx {e : Env} {ln : Nat → Nat} : ∀ {hs : List (Nat × Blk)} {up : List (Nat × SB)} (nx : Nat),HsOK e ln hs up → nxAfter nx hs = nxUp nx up := by
 intro hs
 induction hs with
 | nil => intro up nx h; cases up with
  | nil => rfl
  | cons => exact h.elim
 | cons p hs ih => intro up nx h; cases up with
  | nil => exact h.elim
  | cons q up =>
   obtain ⟨h1,_,h3⟩ := h
   simp only [nxAfter,nxUp,h1]
   exact ih _ h3
theorem hs_keys {e : Env} {ln : Nat → Nat} : ∀ {hs : List (Nat × Blk)} {up : List (Nat × SB)},HsOK e ln hs up → hs.map (·.1) = up.map (·.1) := by
 intro hs
 induction hs with
 | nil => intro up h; cases up with
  | nil => rfl
  | cons => exact h.elim
 | cons p hs ih => intro up h; cases up with
  | nil => exact h.elim
  | cons q up => simp only [List.map_cons,h.1,ih h.2.2]
def killed (σ : SS) (gr : List Nat) : SS := match gr with | [] => σ | _ => σ.kill (inL gr)
theorem killed_ln (σ : SS) (gr : List Nat) (b : Nat) : lnOf e (killed σ gr).H b = lnOf e σ.H b := by
 unfold killed
 split
 · rfl
 · exact lnOf_kill e σ _ b
theorem killed_tm (σ : SS) (gr : List Nat) {ln ln' : Nat → Nat} (hp : ∀ b,inL gr b = false → ln b = ln' b) (t : Nat) {a : AV} (h : Wk a ((getS σ.tm t).inst e ln)) : Wk a ((getS (killed σ gr).tm t).inst e ln') := by
 unfold killed
 split
 · have : ln = ln' := funext fun b => hp b rfl
   rw [← this]; exact h
 · rw [getS_kill]; exact SV.kill_wk hp _ h
theorem killed_tm_ok (σ : SS) (gr : List Nat) (t m : Nat) (h : (getS σ.tm t).ok m = true) : (getS (killed σ gr).tm t).ok m = true := by
 unfold killed
 split
 · exact h
 · rw [getS_kill]; exact SV.kill_ok _ h
theorem SB.kill_ok {m : Nat} (p : Nat → Bool) {k : SB} (h : k.ok m = true) : (k.kill p).ok m = true := by
 simp only [SB.ok,SB.kill,Bool.and_eq_true,List.all_eq_true] at h ⊢
 refine ⟨h.1,fun r hr => ?_⟩
 obtain ⟨r',hr',rfl⟩ := List.mem_map.1 hr
 rw [SV.okL_all]
 intro v hv
 obtain ⟨v',hv',rfl⟩ := List.mem_map.1 hv
 exact SV.kill_ok _ (SV.okL_all.1 (h.2 r' hr') v' hv')
theorem killed_H_ok (σ : SS) (gr : List Nat) (m : Nat) (h : ∀ b k,getB σ.H b = some k → k.ok m = true) : ∀ b k,getB (killed σ gr).H b = some k → k.ok m = true := by
 unfold killed
 split
 · exact h
 · intro b k hk
   rw [getB_kill] at hk
   simp only [Option.map_eq_some_iff] at hk
   obtain ⟨k',hk',rfl⟩ := hk
   exact SB.kill_ok _ (h b k' hk')
theorem killed_H_sl (σ : SS) (gr : List Nat) (h : ∀ b k,getB σ.H b = some k → ∃ xs,k.d.val e = .sl xs) : ∀ b k,getB (killed σ gr).H b = some k → ∃ xs,k.d.val e = .sl xs := by
 unfold killed
 split
 · exact h
 · intro b k hk
   rw [getB_kill] at hk
   simp only [Option.map_eq_some_iff] at hk
   obtain ⟨k',hk',rfl⟩ := hk
   exact h b k' hk'
theorem killed_H (σ : SS) (gr : List Nat) {ln ln' : Nat → Nat} (hp : ∀ b,inL gr b = false → ln b = ln' b) (b : Nat) {a : Option Blk} (h : WkO a ((getB σ.H b).map (·.inst e ln))) : WkO a ((getB (killed σ gr).H b).map (·.inst e ln')) := by
 unfold killed
 split
 · have : ln = ln' := funext fun b => hp b rfl
   rw [← this]; exact h
 · rw [getB_kill]
   cases hb : getB σ.H b with
   | none => rw [hb] at h; exact h
   | some k =>
    rw [hb] at h
    cases a with
    | none => exact h
    | some x =>
     obtain ⟨h1,h2,h3,h4,h5⟩ : WkB x (k.inst e ln) := h
     exact ⟨h1,h2,h3,h4,kill_rows hp h5⟩
theorem upd_eq (σ : SS) (d : Option Nat) (r : SR) : σ.upd d r = { killed σ r.gr with tm := putS (killed σ r.gr).tm d r.v,H := setBs (killed σ r.gr).H r.up } := by
 unfold SS.upd killed
 cases r.gr <;> rfl
theorem getS_putS (tm : List SV) (d : Option Nat) (v : SV) (t : Nat) : getS (putS tm d v) t = if d = some t then v else getS tm t := by
 cases d with
 | none => simp [putS]
 | some d =>
  simp only [putS,getS_set,Option.some.injEq]
  by_cases h : t = d
  · simp [h]
  · rw [if_neg h,if_neg (fun e => h e.symm)]
theorem putO_ap (tm : Nat → AV) (d : Option Nat) (v : AV) (t : Nat) : putO tm d v t = if d = some t then v else tm t := by
 cases d with
 | none => simp [putO]
 | some d =>
  simp only [putO,putT,Option.some.injEq]
  by_cases h : t = d
  · simp [h]
  · rw [if_neg h,if_neg (fun e => h e.symm)]
theorem SB.inst_ext {e : Env} (o : Env) {ln : Nat → Nat} {k : SB} (h : k.ok e.length = true) : k.inst (e ++ o) ln = k.inst e ln := by
 simp only [SB.ok,Bool.and_eq_true,List.all_eq_true] at h
 simp only [SB.inst,SB.rows]
 rw [SA.val_ext o h.1]
 congr 2
 exact List.map_congr_left fun r hr => SV.instL_ext o ln (h.2 r hr)
theorem Sat.updV (hS : Sat e σ s) {r : SR} {rv : AV} {hs : List (Nat × Blk)} {o : Env} (hwf : EWF o) (hk : r.ok (e.length + o.length) = true) (hv : Wk rv (r.v.inst (e ++ o) (lnU (e ++ o) σ r.up))) (hhs : HsOK (e ++ o) (lnU (e ++ o) σ r.up) hs r.up)
 (hul : ∀ b,inL r.gr b = false → lnU (e ++ o) σ r.up b = lnOf e σ.H b) (husl : ∀ p ∈ r.up,∃ xs,p.2.d.val (e ++ o) = .sl xs) (d : Option Nat) : Sat (e ++ o) (σ.upd d r) { s with tm := putO s.tm d rv,H := updsH s.H hs } := by
 have hln : ∀ b,lnOf (e ++ o) (σ.upd d r).H b = lnU (e ++ o) σ r.up b := by
  intro b
  rw [upd_eq]
  exact lnOf_setBs (fun b => killed_ln σ r.gr b) r.up b
 have hlnf : lnOf (e ++ o) (σ.upd d r).H = lnU (e ++ o) σ r.up := funext hln
 have hp : ∀ b,inL r.gr b = false → lnOf e σ.H b = lnU (e ++ o) σ r.up b := fun b hb => (hul b hb).symm
 simp only [SR.ok,Bool.and_eq_true,List.all_eq_true] at hk
 have hm : e.length ≤ (e ++ o).length := by simp
 have hl2 : (e ++ o).length = e.length + o.length := by simp
 refine ⟨hS.wf.append hwf,fun t => ?_,?_,?_,⟨?_,?_,fun t => ?_,fun b => ?_⟩⟩
 · rw [upd_eq]
   show (getS (putS _ d r.v) t).ok _ = true
   rw [getS_putS]
   split
   · rw [hl2]; exact hk.1
   · exact killed_tm_ok σ r.gr t _ (SV.ok_mono hm (hS.tm t))
 · rw [upd_eq]
   exact getB_setBs_ok (killed_H_ok σ r.gr _ fun b k hb => SB.ok_mono hm (hS.H b k hb)) fun p hp => by rw [hl2]; exact hk.2 p hp
 · rw [upd_eq]
   exact getB_setBs_sl (killed_H_sl σ r.gr fun b k hb => by
    obtain ⟨xs,hxs⟩ := hS.sl b k hb
    have := hS.H b k hb
    simp only [SB.ok,Bool.and_eq_true] at this
    exact ⟨xs,by rw [SA.val_ext o this.1]; exact hxs⟩) husl
 · rw [upd_eq]; show s.n = (killed σ r.gr).n; unfold killed; split <;> exact hS.wk.n
 · rw [upd_eq]; show s.nx = (killed σ r.gr).nx; unfold killed; split <;> exact hS.wk.nx
 · show Wk (putO s.tm d rv t) ((getS (σ.upd d r).tm t).inst (e ++ o) (lnOf (e ++ o) (σ.upd d r).H))
   rw [hlnf,upd_eq,putO_ap]
   show Wk _ ((getS (putS _ d r.v) t).inst _ _)
   rw [getS_putS]
   split
   · exact hv
   · refine killed_tm σ r.gr hp t ?_
     rw [SV.inst_ext o _ (hS.tm t)]
     exact hS.get t
 · show WkO (updsH s.H hs b) ((getB (σ.upd d r).H b).map (·.inst (e ++ o) (lnOf (e ++ o) (σ.upd d r).H)))
   rw [hlnf,upd_eq]
   refine upds_ok hhs (fun b => ?_) b
   refine killed_H σ r.gr hp b ?_
   have := hS.wk.H b
   simp only [SS.inst] at this
   cases hb : getB σ.H b with
   | none => rw [hb] at this; exact this
   | some k =>
    rw [hb] at this
    simp only [Option.map_some] at this ⊢
    rw [SB.inst_ext o (hS.H b k hb)]
    exact this
theorem Sat.updD (hS : Sat e σ s) {op : Op} {r : SR} {res : Res} {o : Env} (hwf : EWF o) (hk : r.ok (e.length + o.length) = true) (hu : UpdOK P G id op e (e ++ o) σ s r res) (d : Option Nat) : Sat (e ++ o) (σ.upd d r) (s.appD d res) :=
 hS.updV hwf hk hu.v hu.hs hu.ln hu.sl d
theorem Sat.nx' (hS : Sat e σ s) (n : Nat) : Sat e { σ with nx := n } { s with nx := n } :=
 ⟨hS.wf,hS.tm,hS.H,hS.sl,⟨hS.wk.n,rfl,hS.wk.tm,hS.wk.H⟩⟩
theorem Sat.upd (hS : Sat e σ s) {op : Op} {r : SR} {res : Res} {o : Env} (hwf : EWF o) (hk : r.ok (e.length + o.length) = true) (hu : UpdOK P G id op e (e ++ o) σ s r res) (d : Option Nat) :
 Sat (e ++ o) { σ.upd d r with nx := nxUp σ.nx r.up } (s.app d res) := by
 have h1 := (hS.updD hwf hk hu d).nx' (nxUp σ.nx r.up)
 have : s.app d res = { s.appD d res with nx := nxUp σ.nx r.up } := by
  unfold Sta.app Sta.appD
  have h2 : s.nx = σ.nx := hS.wk.nx
  rw [hs_nx s.nx hu.hs,h2]
 rw [this]; exact h1
theorem Sat.skip (hS : Sat e σ s) (d : Option Nat) : Sat e { σ with tm := putS σ.tm d undefS } (s.skip d) := by
 refine ⟨hS.wf,fun t => ?_,hS.H,hS.sl,⟨hS.wk.n,hS.wk.nx,fun t => ?_,hS.wk.H⟩⟩
 · show (getS (putS σ.tm d undefS) t).ok _ = true
   rw [getS_putS]
   split
   · rfl
   · exact hS.tm t
 · show Wk (putO s.tm d undefA t) ((getS (putS σ.tm d undefS) t).inst e (lnOf e σ.H))
   rw [getS_putS,putO_ap]
   split
   · exact .refl _
   · exact hS.get t
theorem subst_junk (x : Nat) (b : Bool) : substTop x b .junk = .junk := rfl
theorem Sat.subst (hS : Sat e σ s) {x : Nat} {b : Bool} (hx : (SA.v x).val e = .bool b) : Sat e (σ.subst x b) s := by
 have key : ∀ v : SV,v.ok e.length = true → (substTop x b v).ok e.length = true ∧ ∀ ln,(substTop x b v).inst e ln = v.inst e ln := by
  intro v hv
  unfold substTop
  split
  · rename_i y
    split
    · rename_i hxy
      have : x = y := by simpa using hxy
      subst this
      exact ⟨rfl,fun ln => by simp only [SV.inst]; rw [hx]; rfl⟩
    · exact ⟨hv,fun _ => rfl⟩
  · exact ⟨hv,fun _ => rfl⟩
 have keyL : ∀ l : List SV,SV.okL e.length l = true → SV.okL e.length (l.map (substTop x b)) = true ∧ ∀ ln,SV.instL e ln (l.map (substTop x b)) = SV.instL e ln l := by
  intro l
  induction l with
  | nil => intro _; exact ⟨rfl,fun _ => rfl⟩
  | cons a l ih =>
   intro h
   simp only [SV.okL,Bool.and_eq_true] at h
   obtain ⟨i1,i2⟩ := ih h.2
   obtain ⟨k1,k2⟩ := key a h.1
   exact ⟨by simp only [List.map_cons,SV.okL,k1,i1,Bool.and_self],fun ln => by simp only [List.map_cons,SV.instL,k2,i2]⟩
 have hg : ∀ t,getB (σ.subst x b).H t = (getB σ.H t).map (SB.substB x b) := fun t => getB_map _ t
 have hrows : ∀ (k : SB),k.ok e.length = true → (SB.substB x b k).ok e.length = true ∧ ∀ ln,(SB.substB x b k).inst e ln = k.inst e ln := by
  intro k hk
  simp only [SB.ok,Bool.and_eq_true,List.all_eq_true] at hk
  refine ⟨?_,fun ln => ?_⟩
  · simp only [SB.ok,SB.substB,Bool.and_eq_true,List.all_eq_true]
    refine ⟨hk.1,fun r hr => ?_⟩
    obtain ⟨r0,h0,rfl⟩ := List.mem_map.1 hr
    exact (keyL r0 (hk.2 r0 h0)).1
  · have : (k.tl.map (·.map (substTop x b))).map (SV.instL e ln) = k.tl.map (SV.instL e ln) := by
     rw [List.map_map]
     exact List.map_congr_left fun r hr => (keyL r (hk.2 r hr)).2 ln
    simp only [SB.inst,SB.rows,SB.substB,this]
 have hln : ∀ t,lnOf e (σ.subst x b).H t = lnOf e σ.H t := by
  intro t
  unfold lnOf
  rw [hg]
  cases getB σ.H t with
  | none => rfl
  | some k => simp only [Option.map_some,SB.len,SB.substB,List.length_map]
 have hlnF : lnOf e (σ.subst x b).H = lnOf e σ.H := funext hln
 refine ⟨hS.wf,fun t => ?_,fun t k hk => ?_,fun t k hk => ?_,⟨hS.wk.n,hS.wk.nx,fun t => ?_,fun t => ?_⟩⟩
 · show (getS (σ.tm.map (substTop x b)) t).ok _ = true
   rw [getS_map (subst_junk x b)]
   exact (key _ (hS.tm t)).1
 · rw [hg] at hk
   obtain ⟨k0,h0,rfl⟩ := Option.map_eq_some_iff.1 hk
   exact (hrows k0 (hS.H t k0 h0)).1
 · rw [hg] at hk
   obtain ⟨k0,h0,rfl⟩ := Option.map_eq_some_iff.1 hk
   exact hS.sl t k0 h0
 · show Wk (s.tm t) ((getS (σ.tm.map (substTop x b)) t).inst e (lnOf e (σ.subst x b).H))
   rw [hlnF,getS_map (subst_junk x b),(key _ (hS.tm t)).2]
   exact hS.get t
 · show WkO (s.H t) ((getB (σ.subst x b).H t).map (·.inst e (lnOf e (σ.subst x b).H)))
   have h0 := hS.wk.H t
   simp only [SS.inst] at h0
   rw [hlnF,hg,Option.map_map]
   cases hk : getB σ.H t with
   | none => rw [hk] at h0; exact h0
   | some k =>
    rw [hk] at h0
    simp only [Option.map_some,Function.comp] at h0 ⊢
    rw [(hrows k (hS.H t k hk)).2]
    exact h0
theorem substFn_junk (x : Nat) (b : FuncId) : substFn x b .junk = .junk := rfl
theorem Sat.substF (hS : Sat e σ s) {x : Nat} {b : FuncId} (hx : (SA.v x).val e = .raw (.func (.func b) #[] #[])) : Sat e (σ.substF x b) s := by
 have key : ∀ v : SV,v.ok e.length = true → (substFn x b v).ok e.length = true ∧ ∀ ln,(substFn x b v).inst e ln = v.inst e ln := by
  intro v hv
  unfold substFn
  split
  · rename_i y
    split
    · rename_i hxy
      have : x = y := by simpa using hxy
      subst this
      exact ⟨rfl,fun ln => by simp only [SV.inst]; rw [hx]; rfl⟩
    · exact ⟨hv,fun _ => rfl⟩
  · exact ⟨hv,fun _ => rfl⟩
 refine ⟨hS.wf,fun t => ?_,hS.H,hS.sl,⟨hS.wk.n,hS.wk.nx,fun t => ?_,hS.wk.H⟩⟩
 · show (getS (σ.tm.map (substFn x b)) t).ok _ = true
   rw [getS_map (substFn_junk x b)]
   exact (key _ (hS.tm t)).1
 · show Wk (s.tm t) ((getS (σ.tm.map (substFn x b)) t).inst e (lnOf e σ.H))
   rw [getS_map (substFn_junk x b),(key _ (hS.tm t)).2]
   exact hS.get t
theorem substI_junk (x c : Nat) : substInt x c .junk = .junk := rfl
theorem Sat.substI (hS : Sat e σ s) {x c : Nat} (hx : (SA.v x).val e = .int .i64 c) : Sat e (σ.substI x c) s := by
 have key : ∀ v : SV,v.ok e.length = true → (substInt x c v).ok e.length = true ∧ ∀ ln,(substInt x c v).inst e ln = v.inst e ln := by
  intro v hv
  unfold substInt
  split
  · rename_i y
    split
    · rename_i hxy
      have : x = y := by simpa using hxy
      subst this
      exact ⟨rfl,fun ln => by simp only [SV.inst]; rw [hx]; rfl⟩
    · exact ⟨hv,fun _ => rfl⟩
  · exact ⟨hv,fun _ => rfl⟩
 refine ⟨hS.wf,fun t => ?_,hS.H,hS.sl,⟨hS.wk.n,hS.wk.nx,fun t => ?_,hS.wk.H⟩⟩
 · show (getS (σ.tm.map (substInt x c)) t).ok _ = true
   rw [getS_map (substI_junk x c)]
   exact (key _ (hS.tm t)).1
 · show Wk (s.tm t) ((getS (σ.tm.map (substInt x c)) t).inst e (lnOf e σ.H))
   rw [getS_map (substI_junk x c),(key _ (hS.tm t)).2]
   exact hS.get t
theorem Sat.ext (hS : Sat e σ s) {o : Env} (hwf : EWF o) : Sat (e ++ o) σ s := by
 have hm : e.length ≤ (e ++ o).length := by simp
 have hl : lnOf (e ++ o) σ.H = lnOf e σ.H := funext fun b => lnOf_ext o hS.H b
 refine ⟨hS.wf.append hwf,fun t => SV.ok_mono hm (hS.tm t),fun b k hb => SB.ok_mono hm (hS.H b k hb),fun b k hb => ?_,?_⟩
 · obtain ⟨xs,hxs⟩ := hS.sl b k hb
   have := hS.H b k hb
   simp only [SB.ok,Bool.and_eq_true] at this
   exact ⟨xs,by rw [SA.val_ext o this.1]; exact hxs⟩
 · have hi : σ.inst (e ++ o) = σ.inst e := by
    unfold SS.inst
    rw [hl]
    congr 1
    · funext t; exact SV.inst_ext o _ (hS.tm t)
    · funext b
      cases hb : getB σ.H b with
      | none => rfl
      | some k => simp only [Option.map_some]; rw [SB.inst_ext o (hS.H b k hb)]
   rw [hi]; exact hS.wk
theorem Sat.wanted (hS : Sat e σ s) {g : Option (Option Nat × Bool)} {b : Bool} {q : SA} (h : sWanted σ g = some (some b,q)) : wantedS s.tm g = some b := by
 unfold sWanted at h
 split at h
 · cases h; rfl
 · cases h; rfl
 · rename_i d want
   have hd := hS.get d
   split at h
   · rename_i c hc
     rw [hc] at hd
     cases h
     simp only [wantedS,wk_bool hd]
   · rename_i vs hc
     rw [hc] at hd
     cases h
     rcases wk_d hd with h1 | ⟨f,h1,h2⟩
     · simp only [wantedS,h1,SA.val]
     · simp [SA.val] at h2
   · cases h
   · cases h
theorem dst_ok {n : Nat} {d : Option Nat} (h : dstS n d = true) : dstOK n d := by
 cases d with
 | none => trivial
 | some d => exact blt_lt.1 h
theorem okEm_run (hS : Sat e σ s) {r : SR} (hok : okEm e.length r.em = true) (hr : runE r.em e = some e') : ∃ o,e' = e ++ o ∧ EWF o ∧ o.length = outsOf r.em := by
 obtain ⟨o,rfl,hl⟩ := runE_len hr
 exact ⟨o,rfl,fun d hd => runE_wf hS.wf hok hr d (by simp [hd]),hl⟩
theorem stepOp_ok {gi : GI} (hS : Sat e σ s) (hG : GOK G gi.SG) (hT : TOK P gi.T) {op : Op} {r : SR} (h : stepOp gi σ e.length id op = some r) (hr : runE r.em e = some e') :
 ∃ o res,e' = e ++ o ∧ EWF o ∧ o.length = outsOf r.em ∧ r.ok (e.length + o.length) = true ∧ UpdOK P G id op e (e ++ o) σ s r res := by
 unfold stepOp at h
 split at h
 · rename_i r0 hr0
   split at h
   · rename_i hc
     simp only [Bool.and_eq_true] at hc
     cases h
     obtain ⟨o,rfl,hwf,hl⟩ := okEm_run hS hc.1 hr
     obtain ⟨res,hres⟩ := symOp_ok hS hG hT hr0 hc.1 hr
     exact ⟨o,res,rfl,hwf,hl,by rw [hl]; exact hc.2,hres⟩
   · simp at h
 · simp at h
end
end Am
