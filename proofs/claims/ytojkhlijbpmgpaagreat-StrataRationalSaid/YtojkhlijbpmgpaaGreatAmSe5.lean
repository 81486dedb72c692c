/- The abstract machine and its reader: lemmas. -/
import Derived.Test.YtojkhlijbpmgpaaGreatAmSe4
set_option linter.unusedSimpArgs false
set_option linter.unusedVariables false
set_option linter.unusedSectionVars false
namespace Am
open Go
variable {P : Program} {G : Glob}
inductive D.WF : D → Prop
 | int (k : IntKind) (n : Int) : D.WF (.int k n)
 | bool (b : Bool) : D.WF (.bool b)
 | str (l : List UInt8) : D.WF (.str l)
 | raw (v : Value) (h : v.oneCell' = true) : D.WF (.raw v)
 | sl (xs : List (List D)) (h : ∀ r ∈ xs,∀ c ∈ r,D.WF c) : D.WF (.sl xs)
def EWF (e : Env) : Prop := ∀ d ∈ e,D.WF d
theorem D.one_wf {d : D} (h : d.one = true) : d.WF := by
 cases d with
 | int => exact .int _ _
 | bool => exact .bool _
 | str => exact .str _
 | raw v => exact .raw v h
 | sl xs => cases xs with
  | nil => exact .sl _ (fun r hr => by simp at hr)
  | cons => simp [D.one] at h
theorem SA.val_wf {e : Env} (he : EWF e) {x : SA} (h : x.ok e.length = true) : (x.val e).WF := by
 cases x with
 | v x =>
  have hx : x < e.length := by simpa [SA.ok,Nat.blt,Nat.succ_le_iff] using h
  simp only [SA.val,List.getD_eq_getElem?_getD,List.getElem?_eq_getElem hx,Option.getD_some]
  exact he _ (List.getElem_mem hx)
 | c d => exact D.one_wf h
theorem EWF.append {e o : Env} (h : EWF e) (h' : EWF o) : EWF (e ++ o) := fun d hd => (List.mem_append.1 hd).elim (h d) (h' d)
theorem EWF.map {e : Env} (he : EWF e) {l : List SA} (h : l.all (SA.ok e.length) = true) : EWF (l.map (·.val e)) := by
 intro d hd
 obtain ⟨x,hx,rfl⟩ := List.mem_map.1 hd
 exact SA.val_wf he (List.all_eq_true.1 h x hx)
theorem blt_lt {a b : Nat} : Nat.blt a b = true ↔ a < b := by simp [Nat.blt,Nat.succ_le_iff]
theorem SA.ok_mono {m m' : Nat} (h : m ≤ m') {x : SA} (hx : x.ok m = true) : x.ok m' = true := by
 cases x with
 | v x => simp only [SA.ok,blt_lt] at hx ⊢; omega
 | c d => exact hx
mutual
theorem SV.ok_mono {m m' : Nat} (h : m ≤ m') : ∀ {v : SV},v.ok m = true → v.ok m' = true
 | .atm (.v x),hv => by simp only [SV.ok,blt_lt] at hv ⊢; omega
 | .atm (.c d),_ => rfl
 | .nils,_ => rfl
 | .agg cs,hv => SV.okL_mono h (l := cs) hv
 | .tup cs,hv => SV.okL_mono h (l := cs) hv
 | .own _,_ => rfl
 | .ptr _ _ _,_ => rfl
 | .px _ x _,hv => SA.ok_mono h (x := x) hv
 | .ep cs,hv => by
  simp only [SV.ok,List.all_eq_true] at hv ⊢
  exact fun x hx => SA.ok_mono h (hv x hx)
 | .clo _ a b,hv => by
  simp only [SV.ok,Bool.and_eq_true] at hv ⊢
  exact ⟨SV.okL_mono h hv.1,SV.okL_mono h hv.2⟩
 | .junk,_ => rfl
theorem SV.okL_mono {m m' : Nat} (h : m ≤ m') : ∀ {l : List SV},SV.okL m l = true → SV.okL m' l = true
 | [],_ => rfl
 | c :: cs,hv => by
  simp only [SV.okL,Bool.and_eq_true] at hv ⊢
  exact ⟨SV.ok_mono h hv.1,SV.okL_mono h hv.2⟩
end
theorem SV.okL_all {m : Nat} {l : List SV} : SV.okL m l = true ↔ ∀ v ∈ l,v.ok m = true := by
 induction l with
 | nil => simp [SV.okL]
 | cons c l ih => simp [SV.okL,ih]
theorem SB.ok_mono {m m' : Nat} (h : m ≤ m') {b : SB} (hb : b.ok m = true) : b.ok m' = true := by
 simp only [SB.ok,Bool.and_eq_true,List.all_eq_true] at hb ⊢
 exact ⟨SA.ok_mono h hb.1,fun r hr => SV.okL_mono h (hb.2 r hr)⟩
theorem SA.val_ext {e : Env} (o : Env) {x : SA} (h : x.ok e.length = true) : x.val (e ++ o) = x.val e := by
 cases x with
 | v x =>
  have hx : x < e.length := by simpa [SA.ok,Nat.blt,Nat.succ_le_iff] using h
  simp only [SA.val,List.getD_eq_getElem?_getD,List.getElem?_append_left hx]
 | c d => rfl
theorem SA.val_ext' {e : Env} (o : Env) {x : SA} (h : (SV.atm x).ok e.length = true) : x.val (e ++ o) = x.val e := by
 cases x with
 | v x => exact SA.val_ext o (x := .v x) h
 | c d => rfl
theorem vals_ext {e : Env} (o : Env) {l : List SA} (h : l.all (SA.ok e.length) = true) : l.map (·.val (e ++ o)) = l.map (·.val e) := by
 refine List.map_congr_left fun x hx => SA.val_ext o (List.all_eq_true.1 h x hx)
mutual
theorem SV.inst_ext {e : Env} (o : Env) (ln : Nat → Nat) : ∀ {v : SV},v.ok e.length = true → v.inst (e ++ o) ln = v.inst e ln
 | .atm x,h => by simp only [SV.inst]; rw [SA.val_ext' o h]
 | .nils,_ => rfl
 | .agg cs,h => by simp only [SV.inst]; rw [SV.instL_ext o ln (l := cs) h]
 | .tup cs,h => by simp only [SV.inst]; rw [SV.instL_ext o ln (l := cs) h]
 | .own _,_ => rfl
 | .ptr _ _ _,_ => rfl
 | .px _ x _,h => by simp only [SV.inst]; rw [SA.val_ext o (x := x) h]
 | .ep cs,h => by simp only [SV.inst]; rw [vals_ext o h]
 | .clo _ a b,h => by
  simp only [SV.ok,Bool.and_eq_true] at h
  simp only [SV.inst]; rw [SV.instL_ext o ln h.1,SV.instL_ext o ln h.2]
 | .junk,_ => rfl
theorem SV.instL_ext {e : Env} (o : Env) (ln : Nat → Nat) : ∀ {l : List SV},SV.okL e.length l = true → SV.instL (e ++ o) ln l = SV.instL e ln l
 | [],_ => rfl
 | c :: cs,h => by
  simp only [SV.okL,Bool.and_eq_true] at h
  simp only [SV.instL]; rw [SV.inst_ext o ln h.1,SV.instL_ext o ln h.2]
end
mutual
theorem SV.inst_ln {e : Env} {ln ln' : Nat → Nat} {p : Nat → Bool} (hp : ∀ b,p b = false → ln b = ln' b) : ∀ {v : SV},v.has p = false → v.inst e ln = v.inst e ln'
 | .atm x,_ => rfl
 | .nils,_ => rfl
 | .agg cs,h => by simp only [SV.inst]; rw [SV.instL_ln hp (l := cs) h]
 | .tup cs,h => by simp only [SV.inst]; rw [SV.instL_ln hp (l := cs) h]
 | .own b,h => by simp only [SV.inst]; rw [hp b h]
 | .ptr b _ _,h => by simp only [SV.inst]; rw [hp b h]
 | .px b _ _,h => by simp only [SV.inst]; rw [hp b h]
 | .ep _,_ => rfl
 | .clo _ a b,h => by
  simp only [SV.has,Bool.or_eq_false_iff] at h
  simp only [SV.inst]; rw [SV.instL_ln hp h.1,SV.instL_ln hp h.2]
 | .junk,_ => rfl
theorem SV.instL_ln {e : Env} {ln ln' : Nat → Nat} {p : Nat → Bool} (hp : ∀ b,p b = false → ln b = ln' b) : ∀ {l : List SV},SV.hasL p l = false → SV.instL e ln l = SV.instL e ln' l
 | [],_ => rfl
 | c :: cs,h => by
  simp only [SV.hasL,Bool.or_eq_false_iff] at h
  simp only [SV.instL]; rw [SV.inst_ln hp h.1,SV.instL_ln hp h.2]
end
theorem SV.instL_map (e : Env) (ln : Nat → Nat) (l : List SV) : SV.instL e ln l = l.map (SV.inst e ln) := by
 induction l with
 | nil => rfl
 | cons c l ih => simp [SV.instL,ih]
theorem getS_set (l : List SV) : ∀ (d : Nat) (v : SV) (t : Nat),getS (setS l d v) t = if t = d then v else getS l t := by
 induction l with
 | nil =>
  intro d
  induction d with
  | zero => intro v t; cases t <;> simp [setS,getS]
  | succ d ih => intro v t; cases t <;> simp [setS,getS,ih]
 | cons a l ih =>
  intro d v t
  cases d with
  | zero => cases t <;> simp [setS,getS]
  | succ d => cases t <;> simp [setS,getS,ih]
theorem getB_set (l : List (Option SB)) : ∀ (d : Nat) (v : SB) (t : Nat),getB (setB l d v) t = if t = d then some v else getB l t := by
 induction l with
 | nil =>
  intro d
  induction d with
  | zero => intro v t; cases t <;> simp [setB,getB]
  | succ d ih => intro v t; cases t <;> simp [setB,getB,ih]
 | cons a l ih =>
  intro d v t
  cases d with
  | zero => cases t <;> simp [setB,getB]
  | succ d => cases t <;> simp [setB,getB,ih]
theorem getS_map {f : SV → SV} (hf : f .junk = .junk) (l : List SV) : ∀ t,getS (l.map f) t = f (getS l t) := by
 induction l with
 | nil => intro t; simp [getS,hf]
 | cons a l ih => intro t; cases t <;> simp [getS,ih]
theorem getB_map {f : SB → SB} (l : List (Option SB)) : ∀ t,getB (l.map (·.map f)) t = (getB l t).map f := by
 induction l with
 | nil => intro t; simp [getB]
 | cons a l ih => intro t; cases t <;> simp [getB,ih]
theorem kill_junk (p : Nat → Bool) : SV.kill p .junk = .junk := by simp [SV.kill]
theorem getS_kill (σ : SS) (p : Nat → Bool) (t : Nat) : getS (σ.kill p).tm t = (getS σ.tm t).kill p := getS_map (kill_junk p) _ t
theorem getB_kill (σ : SS) (p : Nat → Bool) (b : Nat) : getB (σ.kill p).H b = (getB σ.H b).map (SB.kill p) := getB_map _ b
theorem kill_len (e : Env) (p : Nat → Bool) (k : SB) : (k.kill p).len e = k.len e := by simp [SB.len,SB.kill]
theorem lnOf_kill (e : Env) (σ : SS) (p : Nat → Bool) (b : Nat) : lnOf e (σ.kill p).H b = lnOf e σ.H b := by
 unfold lnOf
 rw [getB_kill]
 cases getB σ.H b with
 | none => rfl
 | some k => exact kill_len e p k
theorem lnOf_set (e : Env) (H : List (Option SB)) (b : Nat) (k : SB) (x : Nat) : lnOf e (setB H b k) x = if x = b then k.len e else lnOf e H x := by
 unfold lnOf
 rw [getB_set]
 by_cases h : x = b
 · rw [if_pos h,if_pos h]
 · rw [if_neg h,if_neg h]
theorem SB.len_ext {e : Env} (o : Env) {k : SB} (h : k.ok e.length = true) : k.len (e ++ o) = k.len e := by
 simp only [SB.ok,Bool.and_eq_true] at h
 simp only [SB.len]
 rw [SA.val_ext o h.1]
theorem lnOf_ext {e : Env} (o : Env) {H : List (Option SB)} (h : ∀ b k,getB H b = some k → k.ok e.length = true) (b : Nat) : lnOf (e ++ o) H b = lnOf e H b := by
 unfold lnOf
 cases hb : getB H b with
 | none => rfl
 | some k => exact SB.len_ext o (h b k hb)
theorem SV.kill_wk {e : Env} {ln ln' : Nat → Nat} {p : Nat → Bool} (hp : ∀ b,p b = false → ln b = ln' b) (v : SV) {a : AV} (h : Wk a (v.inst e ln)) : Wk a ((v.kill p).inst e ln') := by
 unfold SV.kill
 split
 · exact .junk a
 · rename_i hh
   rw [← SV.inst_ln hp (by simpa using hh)]; exact h
theorem SV.kill_ok {m : Nat} (p : Nat → Bool) {v : SV} (h : v.ok m = true) : (v.kill p).ok m = true := by
 unfold SV.kill
 split
 · rfl
 · exact h
theorem SB.rows_len (e : Env) (ln : Nat → Nat) (k : SB) : (k.rows e ln).length = k.len e := by simp [SB.rows,SB.len]
theorem wkR_tl {e : Env} {ln ln' : Nat → Nat} {p : Nat → Bool} (hp : ∀ b,p b = false → ln b = ln' b) {X : List (List AV)} {l : List (List SV)} (h : WkR X (l.map (SV.instL e ln))) : WkR X ((l.map (·.map (SV.kill p))).map (SV.instL e ln')) := by
 obtain ⟨h1,h2⟩ := h
 refine ⟨by simpa using h1,fun i hi hi' => ?_⟩
 have hi2 : i < (l.map (SV.instL e ln)).length := by simpa using hi'
 obtain ⟨g1,g2⟩ := h2 i hi hi2
 simp only [List.getElem_map,SV.instL_map] at g1 g2 ⊢
 refine ⟨by simpa using g1,fun j hj hj' => ?_⟩
 simp only [List.getElem_map]
 have hj2 : j < (List.map (SV.inst e ln) (l[i]'(by simpa using hi'))).length := by simpa using hj'
 have := g2 j hj hj2
 exact SV.kill_wk hp _ (by simpa using this)
theorem wkR_split {X : List (List AV)} {a b : List (List AV)} (h : WkR X (a ++ b)) : ∃ x y,X = x ++ y ∧ WkR x a ∧ WkR y b := by
 refine ⟨X.take a.length,X.drop a.length,(List.take_append_drop _ _).symm,?_,?_⟩
 · have := h.take a.length
   rwa [List.take_left' rfl] at this
 · have := h.drop a.length
   rwa [List.drop_left' rfl] at this
theorem kill_rows {e : Env} {ln ln' : Nat → Nat} {p : Nat → Bool} (hp : ∀ b,p b = false → ln b = ln' b) {k : SB} {X : List (List AV)} (h : WkR X (k.rows e ln)) : WkR X ((k.kill p).rows e ln') := by
 unfold SB.rows at h ⊢
 obtain ⟨x,y,rfl,h1,h2⟩ := wkR_split h
 exact h1.append (wkR_tl hp h2)
structure Sat (e : Env) (σ : SS) (s : Sta) : Prop where
 wf : EWF e
 tm : ∀ t,(getS σ.tm t).ok e.length = true
 H : ∀ b k,getB σ.H b = some k → k.ok e.length = true
 sl : ∀ b k,getB σ.H b = some k → ∃ xs,k.d.val e = .sl xs
 wk : WkS s (σ.inst e)
theorem Sat.get {e : Env} {σ : SS} {s : Sta} (h : Sat e σ s) (t : Nat) : Wk (s.tm t) ((getS σ.tm t).inst e (lnOf e σ.H)) := h.wk.tm t
theorem Sat.blk {e : Env} {σ : SS} {s : Sta} (h : Sat e σ s) {b : Nat} {k : SB} (hb : getB σ.H b = some k) : ∃ x,s.H b = some x ∧ WkB x (k.inst e (lnOf e σ.H)) := by
 have := h.wk.H b
 simp only [SS.inst,hb,Option.map_some] at this
 cases hx : s.H b with
 | none => rw [hx] at this; exact this.elim
 | some x => rw [hx] at this; exact ⟨x,rfl,this⟩
theorem Sat.none {e : Env} {σ : SS} {s : Sta} (h : Sat e σ s) {b : Nat} (hb : getB σ.H b = none) : s.H b = none := by
 have := h.wk.H b
 simp only [SS.inst,hb,Option.map_none] at this
 cases hx : s.H b with
 | none => rfl
 | some x => rw [hx] at this; exact this.elim
theorem lnOf_some {e : Env} {H : List (Option SB)} {b : Nat} {k : SB} (h : getB H b = some k) : lnOf e H b = k.len e := by simp [lnOf,h]
def runE : List (PO × List SA) → Env → Option Env
 | [],e => some e
 | p :: l,e => match p.1.eval (p.2.map (·.val e)) with | some o => runE l (e ++ o) | none => none
theorem den_emit {run : Nat → PF} {k : IR} {J : List PF} {r : List D} : ∀ (em : List (PO × List SA)) (e : Env),den run (emit em k) e J = some r → ∃ e',runE em e = some e' ∧ den run k e' J = some r := by
 intro em
 induction em with
 | nil => intro e h; exact ⟨e,rfl,h⟩
 | cons p l ih =>
  intro e h
  simp only [emit,den] at h
  split at h
  · rename_i o ho
    obtain ⟨e',h1,h2⟩ := ih _ h
    exact ⟨e',by simp only [runE,ho]; exact h1,h2⟩
  · simp at h
theorem chunks_mem {sz : Nat} : ∀ {n : Nat} {l : List D} {r : List D},r ∈ chunks sz n l → ∀ c ∈ r,c ∈ l := by
 intro n
 induction n with
 | zero => intro l r h; simp [chunks] at h
 | succ n ih =>
  intro l r h c hc
  simp only [chunks,List.mem_cons] at h
  rcases h with rfl | h
  · exact List.mem_of_mem_take hc
  · exact List.mem_of_mem_drop (ih h c hc)
theorem setD_mem : ∀ {cs : List D} {row : List D} {j : Nat} {c : D},c ∈ setD row j cs → c ∈ row ∨ c ∈ cs := by
 intro cs
 induction cs with
 | nil => intro row j c h; exact .inl h
 | cons x cs ih =>
  intro row j c h
  rcases ih h with h | h
  · rcases List.mem_or_eq_of_mem_set h with h | rfl
    · exact .inl h
    · exact .inr (by simp)
  · exact .inr (by simp [h])
theorem aBin_wf {op : BinOp} {a b c : D} (h : aBin op a b = some c) : c.WF := by
 unfold aBin at h
 repeat' split at h
 all_goals first
  | (simp at h; done)
  | (simp only [Option.some.injEq] at h; subst h; first | exact .int _ _ | exact .bool _ | exact .str _)
theorem aUn_wf {op : UnOp} {a c : D} (h : aUn op a = some c) : c.WF := by
 unfold aUn at h
 repeat' split at h
 all_goals first
  | (simp at h; done)
  | (simp only [Option.some.injEq] at h; subst h; first | exact .int _ _ | exact .bool _ | exact .str _)
theorem D.WF.rows {xs : List (List D)} (h : D.WF (.sl xs)) : ∀ r ∈ xs,∀ c ∈ r,D.WF c := by cases h with | sl _ h => exact h
theorem PO.eval_wf {p : PO} {args outs : List D} (hp : p.okP = true) (ha : EWF args) (h : p.eval args = some outs) : EWF outs := by
 have one : ∀ {d : D},d.WF → EWF [d] := fun hd d hd' => by simp at hd'; subst hd'; exact hd
 have h1 : ∀ {x : Option D} {o : List D},one1 x = some o → (∀ d,x = some d → d.WF) → EWF o := by
  intro x o h hx
  unfold one1 at h
  simp only [Option.map_eq_some_iff] at h
  obtain ⟨d,hd,rfl⟩ := h
  exact one (hx d hd)
 have bys : ∀ (l : List UInt8),∀ r ∈ l.map (fun c => [D.int .u8 c.toNat]),∀ c ∈ r,c.WF := by
  intro l r hr c hc
  obtain ⟨x,_,rfl⟩ := List.mem_map.1 hr
  simp at hc; subst hc; exact .int _ _
 unfold PO.eval at h
 repeat' split at h
 all_goals first
  | (simp at h; done)
  | exact h1 h fun d hd => aBin_wf hd
  | exact h1 h fun d hd => aUn_wf hd
  | (simp only [Option.some.injEq] at h; subst h; first | exact one (.int _ _) | exact one (.str _) | exact one (.bool _) | (intro d hd; cases hd; done))
  | (simp only [Option.some.injEq] at h; subst h; refine one ?_; apply ha; simp; done)
  | skip
 ·
  rename_i xs kd n hn _ r hr hl
  simp only [Option.some.injEq] at h; subst h
  have hxs := ha (.sl xs) (by simp)
  exact fun c hc => hxs.rows _ (List.mem_of_getElem? hr) c hc
 · rename_i sz xs _ a _ b hc
   simp only [Option.some.injEq] at h; subst h
   have hxs := (ha (.sl xs) (by simp)).rows
   exact one (.sl _ fun r hr => hxs r (List.mem_of_mem_take (List.mem_of_mem_drop hr)))
 · rename_i sz bt xs ys hc
   simp only [Option.some.injEq] at h; subst h
   have h1 := (ha (.sl xs) (by simp)).rows
   have h2 := (ha (.sl ys) (by simp)).rows
   exact one (.sl _ fun r hr => (List.mem_append.1 hr).elim (h1 r) (h2 r))
 · rename_i bt xs l hc
   simp only [Option.some.injEq] at h; subst h
   have h1 := (ha (.sl xs) (by simp)).rows
   exact one (.sl _ fun r hr => (List.mem_append.1 hr).elim (h1 r) (bys l r))
 · rename_i sz n l hc
   simp only [Option.some.injEq] at h; subst h
   exact one (.sl _ fun r hr c hc => ha c (chunks_mem hr c hc))
 · rename_i xs ys
   simp only [Option.some.injEq] at h; subst h
   have h1 := (ha (.sl xs) (by simp)).rows
   have h2 := (ha (.sl ys) (by simp)).rows
   exact one (.sl _ fun r hr => (List.mem_append.1 hr).elim (h1 r) (h2 r))
 · rename_i bt z _ n hc
   simp only [Option.some.injEq] at h; subst h
   refine one (.sl _ fun r hr c hc => ?_)
   obtain ⟨_,rfl⟩ := List.mem_replicate.1 hr
   exact D.one_wf (List.all_eq_true.1 hp c hc)
 · rename_i j k xs _ n hn _ r hr hl
   simp only [Option.some.injEq] at h; subst h
   have hxs := (ha (.sl xs) (by simp)).rows
   exact fun c hc => hxs _ (List.mem_of_getElem? hr) c (List.mem_of_mem_drop (List.mem_of_mem_take hc))
 · rename_i j k xs _ n cs hn _ r hr hl
   simp only [Option.some.injEq] at h; subst h
   have hxs := (ha (.sl xs) (by simp)).rows
   refine one (.sl _ fun r' hr' c hc => ?_)
   rcases List.mem_or_eq_of_mem_set hr' with h | rfl
   · exact hxs _ h c hc
   · rcases setD_mem hc with h | h
     · exact hxs _ (List.mem_of_getElem? hr) c h
     · exact ha c (by simp [h])
 · rename_i k _ n cs hc
   exact h1 h fun d hd => ha d (by simp [List.mem_of_getElem? hd])
 · simp only [Option.map_eq_some_iff] at h; obtain ⟨_,_,rfl⟩ := h; exact one (.str _)
 · rename_i l
   simp only [Option.some.injEq] at h; subst h
   exact one (.sl _ (bys l))
theorem runE_len : ∀ {em : List (PO × List SA)} {e e' : Env},runE em e = some e' → ∃ o,e' = e ++ o ∧ o.length = outsOf em := by
 intro em
 induction em with
 | nil => intro e e' h; simp only [runE] at h; cases h; exact ⟨[],by simp,rfl⟩
 | cons p l ih =>
  intro e e' h
  simp only [runE] at h
  split at h
  · rename_i o ho
    obtain ⟨o',rfl,h2⟩ := ih h
    exact ⟨o ++ o',by simp,by simp [h2,outsOf,PO.eval_len ho]⟩
  · simp at h
theorem runE_wf : ∀ {em : List (PO × List SA)} {e e' : Env},EWF e → okEm e.length em = true → runE em e = some e' → EWF e' := by
 intro em
 induction em with
 | nil => intro e e' he _ h; simp only [runE] at h; cases h; exact he
 | cons p l ih =>
  intro e e' he hk h
  simp only [okEm,Bool.and_eq_true] at hk
  simp only [runE] at h
  split at h
  · rename_i o ho
    exact ih (he.append (PO.eval_wf hk.1.1 (he.map hk.1.2) ho)) (by simp [PO.eval_len ho]; exact hk.2) h
  · simp at h
end Am
