/- The abstract machine and its reader: lemmas. -/
import Derived.Test.YtojkhlijbpmgpaaGreatAmSe5
set_option linter.unusedSimpArgs false
set_option linter.unusedVariables false
set_option linter.unusedSectionVars false
namespace Am
open Go
variable {P : Program} {G : Glob}
structure TFok (P : Program) (t : Nat) (tf : TF) : Prop where
 sz : tsz P t = tf.sz
 bt : tby P t = tf.bt
 ti : tin P t = tf.ti
 tu : tun P t = tf.tu
 agg : tagg P t = tf.agg
 elem : telem P t = tf.elem
 arr : tarr P t = tf.arr
 int : tint P t = tf.int
 str : tstr P t = tf.str
 bool : tbool P t = tf.bool
 zero : tzero P t = tf.zero
 flds : ∀ (f : Nat) (x : Nat × Nat),tf.flds[f]? = some x → tfield P t f = some x
 place : ∀ pl,tf.place = some pl → tplace P t = some pl
def TOK (P : Program) (T : Tab) : Prop := ∀ t tf,T.get t = some tf → TFok P t tf
structure GOK (G : Glob) (SG : SGlob) : Prop where
 g : ∀ g cs,SG.get g = some cs → G g = some cs
 one : ∀ g cs,SG.get g = some cs → cs.all D.one = true
def HsOK (e : Env) (ln : Nat → Nat) : List (Nat × Blk) → List (Nat × SB) → Prop
 | [],[] => True
 | p :: l,q :: l' => p.1 = q.1 ∧ WkB p.2 (q.2.inst e ln) ∧ HsOK e ln l l'
 | _,_ => False
def lnU (e' : Env) (σ : SS) (up : List (Nat × SB)) : Nat → Nat := lnOf e' (setBs σ.H up)
structure UpdOK (P : Program) (G : Glob) (id : Nat) (op : Op) (e e' : Env) (σ : SS) (s : Sta) (r : SR) (res : Res) : Prop where
 ex : execA P id (evA G s.tm) s.H op = some res
 v : Wk res.v (r.v.inst e' (lnU e' σ r.up))
 hs : HsOK e' (lnU e' σ r.up) res.hs r.up
 rb : res.rb = r.rb
 ln : ∀ b,inL r.gr b = false → lnU e' σ r.up b = lnOf e σ.H b
 sl : ∀ p ∈ r.up,∃ xs,p.2.d.val e' = .sl xs
theorem inst_cell {e : Env} {ln : Nat → Nat} (v : Value) : (sCell v).inst e ln = ofCell v := by
 unfold sCell
 split
 · rfl
 · rfl
 · rfl
 · rfl
 · unfold ofCell
   split <;> simp_all [SV.inst,SA.val]
theorem inst_val {e : Env} {ln : Nat → Nat} (v : Value) : (sVal v).inst e ln = ofVal v := by
 unfold sVal
 split
 · rename_i cs
   show _ = if cs.all (·.oneCell') then AV.agg (cs.toList.map ofCell) else .junk
   split
   · simp only [SV.inst,SV.instL_map,List.map_map]
     congr 1
     exact List.map_congr_left fun v _ => inst_cell v
   · rfl
 · rename_i hne
   unfold ofVal
   split
   · rename_i cs; exact absurd rfl (hne cs)
   · exact inst_cell _
theorem ok_cell (m : Nat) (v : Value) : (sCell v).ok m = true := by
 unfold sCell
 split <;> rfl
theorem ok_val (m : Nat) (v : Value) : (sVal v).ok m = true := by
 unfold sVal
 split
 · split
   · simp only [SV.ok,SV.okL_all]
     intro x hx
     obtain ⟨y,_,rfl⟩ := List.mem_map.1 hx
     exact ok_cell m y
   · rfl
 · exact ok_cell _ _
theorem map_c (e : Env) (cs : List D) : (cs.map SA.c).map (·.val e) = cs := by
 rw [List.map_map]
 have : ((fun x => SA.val e x) ∘ SA.c) = id := rfl
 rw [this,List.map_id]
section
variable {T : Tab} {SG : SGlob} {σ : SS} {e e' : Env} {s : Sta} {id : Nat}
theorem hev (hS : Sat e σ s) (hG : GOK G SG) (x : Operand) : Wk (evA G s.tm x) ((sev SG σ x).inst e (lnOf e σ.H)) := by
 cases x with
 | tmp t => exact hS.get t
 | const v => simp only [evA,sev]; rw [inst_val]; exact .refl _
 | global g =>
  simp only [evA,sev]
  cases hg : SG.get g with
  | none => exact .junk _
  | some cs =>
   simp only [hG.g g cs hg,SV.inst,map_c]
   exact .refl _
 | func f => exact .refl _
theorem hok (hS : Sat e σ s) (hG : GOK G SG) (x : Operand) : (sev SG σ x).ok e.length = true := by
 cases x with
 | tmp t => exact hS.tm t
 | const v => exact ok_val _ v
 | global g =>
  simp only [sev]
  cases hg : SG.get g with
  | none => rfl
  | some cs =>
   have := hG.one g cs hg
   simp only [List.all_eq_true] at this
   simp only [SV.ok,List.all_eq_true]
   intro x hx
   obtain ⟨d,hd,rfl⟩ := List.mem_map.1 hx
   exact this d hd
 | func f => rfl
theorem lnU_nil (hS : Sat e σ s) (o : Env) : lnU (e ++ o) σ [] = lnOf e σ.H := by
 funext b
 exact lnOf_ext o hS.H b
theorem UpdOK.pure (hS : Sat e σ s) {op : Op} {o : Env} {v : SV} {em : List (PO × List SA)} {av : AV} {rb : List Nat} (hex : execA P id (evA G s.tm) s.H op = some { v := av,hs := [],rb }) (hv : Wk av (v.inst (e ++ o) (lnOf e σ.H))) :
 ∃ res,UpdOK P G id op e (e ++ o) σ s { em,v,rb } res :=
 ⟨_,hex,by show Wk av (v.inst (e ++ o) (lnU (e ++ o) σ [])); rw [lnU_nil hS]; exact hv,trivial,rfl,fun b _ => by show lnU (e ++ o) σ [] b = _; rw [lnU_nil hS],fun p hp => absurd hp List.not_mem_nil⟩
theorem UpdOK.pure0 (hS : Sat e σ s) {op : Op} {v : SV} {em : List (PO × List SA)} {av : AV} {rb : List Nat} (hex : execA P id (evA G s.tm) s.H op = some { v := av,hs := [],rb }) (hv : Wk av (v.inst e (lnOf e σ.H))) :
 ∃ res,UpdOK P G id op e e σ s { em,v,rb } res := by
 have := UpdOK.pure (o := []) (em := em) hS hex (by rw [List.append_nil]; exact hv)
 rwa [List.append_nil] at this
theorem lnU_one (hS : Sat e σ s) (o : Env) (b : Nat) (k : SB) : lnU (e ++ o) σ [(b,k)] = fun x => if x = b then k.len (e ++ o) else lnOf e σ.H x := by
 funext x
 simp only [lnU,setBs,lnOf_set]
 split
 · rfl
 · exact lnOf_ext o hS.H x
theorem UpdOK.one (hS : Sat e σ s) {op : Op} {o : Env} {v : SV} {em : List (PO × List SA)} {av : AV} {rb gr : List Nat} {b : Nat} {k : SB} {blk : Blk} {ln : Nat → Nat}
 (hex : execA P id (evA G s.tm) s.H op = some { v := av,hs := [(b,blk)],rb }) (hln : ln = fun x => if x = b then k.len (e ++ o) else lnOf e σ.H x)
 (hv : Wk av (v.inst (e ++ o) ln)) (hb : WkB blk (k.inst (e ++ o) ln)) (hg : inL gr b = false → k.len (e ++ o) = lnOf e σ.H b) (hsl : ∃ xs,k.d.val (e ++ o) = .sl xs) :
 ∃ res,UpdOK P G id op e (e ++ o) σ s { em,v,up := [(b,k)],gr,rb } res := by
 subst hln
 refine ⟨_,hex,?_,?_,rfl,fun x hx => ?_,fun p hp => by cases List.mem_singleton.1 hp; exact hsl⟩
 · show Wk av (v.inst (e ++ o) (lnU (e ++ o) σ [(b,k)])); rw [lnU_one hS]; exact hv
 · show HsOK (e ++ o) (lnU (e ++ o) σ [(b,k)]) _ _; rw [lnU_one hS]; exact ⟨rfl,hb,trivial⟩
 · show lnU (e ++ o) σ [(b,k)] x = _
   rw [lnU_one hS]
   simp only
   split
   · rename_i h; subst h; exact hg hx
   · rfl
theorem UpdOK.one0 (hS : Sat e σ s) {op : Op} {v : SV} {em : List (PO × List SA)} {av : AV} {rb gr : List Nat} {b : Nat} {k : SB} {blk : Blk} {ln : Nat → Nat}
 (hex : execA P id (evA G s.tm) s.H op = some { v := av,hs := [(b,blk)],rb }) (hln : ln = fun x => if x = b then k.len e else lnOf e σ.H x)
 (hv : Wk av (v.inst e ln)) (hb : WkB blk (k.inst e ln)) (hg : inL gr b = false → k.len e = lnOf e σ.H b) (hsl : ∃ xs,k.d.val e = .sl xs) :
 ∃ res,UpdOK P G id op e e σ s { em,v,up := [(b,k)],gr,rb } res := by
 have := UpdOK.one (o := []) (em := em) hS hex (ln := ln) (by rw [List.append_nil]; exact hln) (by rw [List.append_nil]; exact hv) (by rw [List.append_nil]; exact hb) (by rw [List.append_nil]; exact hg) (by rw [List.append_nil]; exact hsl)
 rwa [List.append_nil] at this
theorem val_new (e : Env) (c : D) (o : Env) : (SA.v e.length).val (e ++ c :: o) = c := by
 simp [SA.val]
theorem vals_vars (e : Env) : ∀ (o o' : Env) (m : Nat),m = e.length → (vars m o.length).map (·.val (e ++ (o ++ o'))) = o := by
 intro o
 induction o generalizing e with
 | nil => intro o' m _; rfl
 | cons c o ih =>
  intro o' m hm
  subst hm
  simp only [List.length_cons,vars,List.map_cons,List.cons_append]
  rw [val_new]
  congr 1
  have := ih (e ++ [c]) o' (e.length + 1) (by simp)
  simpa using this
theorem inst_vars (e : Env) (o : Env) (n : Nat) (ln : Nat → Nat) (hn : o.length = n) : SV.instL (e ++ o) ln ((vars e.length n).map .atm) = o.map .d := by
 subst hn
 have := vals_vars e o [] e.length rfl
 rw [List.append_nil] at this
 rw [SV.instL_map,List.map_map]
 have h2 : (SV.inst (e ++ o) ln ∘ SV.atm) = (AV.d ∘ fun x => x.val (e ++ o)) := rfl
 rw [h2,← List.map_map,this]
theorem runE1 {p : PO} {args : List SA} (h : runE [(p,args)] e = some e') : ∃ o,p.eval (args.map (·.val e)) = some o ∧ e' = e ++ o := by
 simp only [runE] at h
 split at h
 · rename_i o ho; simp only [Option.some.injEq] at h; exact ⟨o,ho,h.symm⟩
 · simp at h
theorem runE2 {p q : PO} {args args' : List SA} (h : runE [(p,args),(q,args')] e = some e') : ∃ o o',p.eval (args.map (·.val e)) = some o ∧ q.eval (args'.map (·.val (e ++ o))) = some o' ∧ e' = e ++ (o ++ o') := by
 simp only [runE] at h
 split at h
 · rename_i o ho
   split at h
   · rename_i o' ho'; simp only [Option.some.injEq] at h; exact ⟨o,o',ho,ho',by rw [← h,List.append_assoc]⟩
   · simp at h
 · simp at h
theorem runE0 (h : runE [] e = some e') : e = e' := by simp only [runE] at h; exact Option.some.inj h
theorem wkL_map (hS : Sat e σ s) (hG : GOK G SG) (l : List Operand) : WkL (l.map (evA G s.tm)) (SV.instL e (lnOf e σ.H) (l.map (sev SG σ))) := by
 induction l with
 | nil => exact .nil
 | cons x l ih => exact .cons (hev hS hG x) ih
theorem one1_some {x : Option D} {o : List D} (h : one1 x = some o) : ∃ d,x = some d ∧ o = [d] := by
 unfold one1 at h
 simp only [Option.map_eq_some_iff] at h
 obtain ⟨d,hd,rfl⟩ := h
 exact ⟨d,hd,rfl⟩
theorem wk_cells {a : AV} {v : SV} {ln : Nat → Nat} (h : Wk a (v.inst e ln)) (hv : v.cells.all SV.one = true) : WkL a.cells (SV.instL e ln v.cells) := by
 have one : ∀ {x y : AV},Wk x y → x.cells = [x] → WkL x.cells [y] := fun h hx => by rw [hx]; exact .cons h .nil
 cases v with
 | agg cs =>
  obtain ⟨l,rfl,hl⟩ := wk_agg h
  exact hl
 | atm x =>
  simp only [SV.cells,SV.instL]
  rcases wk_d h with rfl | ⟨f,rfl,_⟩
  · exact one h rfl
  · exact one h rfl
 | nils => rw [wk_nils h]; exact .refl _
 | tup cs => simp [SV.cells,SV.one] at hv
 | own b => rw [wk_own h]; exact .refl _
 | ptr b i j => rw [wk_ptr h]; exact .refl _
 | px b x j => rw [wk_ptr h]; exact .refl _
 | ep cs => rw [wk_eptr h]; exact .refl _
 | clo f a b => obtain ⟨x,y,rfl,_⟩ := wk_clo h; exact one h rfl
 | junk => simp [SV.cells,SV.one] at hv
theorem wk_one {a : AV} {v : SV} {ln : Nat → Nat} (he : EWF e) (hk : v.ok e.length = true) (h : Wk a (v.inst e ln)) (hv : v.one = true) : a.one = true := by
 cases v with
 | agg cs => simp [SV.one] at hv
 | atm x =>
  rcases wk_d h with rfl | ⟨f,rfl,_⟩
  · have hw : (x.val e).WF := by
     cases x with
     | v x => exact SA.val_wf he (x := .v x) hk
     | c d => exact D.one_wf hv
    revert hw
    generalize x.val e = y
    intro hw
    cases hw with
    | raw v h => exact h
    | _ => rfl
  · rfl
 | nils => rw [wk_nils h]; rfl
 | tup cs => simp [SV.one] at hv
 | own b => rw [wk_own h]; rfl
 | ptr b i j => rw [wk_ptr h]; rfl
 | px b x j => rw [wk_ptr h]; rfl
 | ep cs => rw [wk_eptr h]; rfl
 | clo f a b => obtain ⟨x,y,rfl,_⟩ := wk_clo h; rfl
 | junk => simp [SV.one] at hv
theorem wkL_one {l : List AV} {vs : List SV} {ln : Nat → Nat} (he : EWF e) (hk : SV.okL e.length vs = true) (h : WkL l (SV.instL e ln vs)) (hv : vs.all SV.one = true) : l.all AV.one = true := by
 obtain ⟨h1,h2⟩ := h
 rw [SV.instL_map] at h1 h2
 simp only [List.all_eq_true]
 intro a ha
 obtain ⟨i,hi,rfl⟩ := List.mem_iff_getElem.1 ha
 have hi' : i < vs.length := by simpa [h1] using hi
 have := h2 i hi (by simpa using hi')
 simp only [List.getElem_map] at this
 exact wk_one he (SV.okL_all.1 hk _ (List.getElem_mem hi')) this (List.all_eq_true.1 hv _ (List.getElem_mem hi'))
theorem okL_cells {m : Nat} {v : SV} (h : v.ok m = true) : SV.okL m v.cells = true := by
 cases v with
 | agg cs => exact h
 | _ => simp only [SV.cells,SV.okL,Bool.and_true]; exact h
theorem wk_cells_one {a : AV} {v : SV} {ln : Nat → Nat} (he : EWF e) (hk : v.ok e.length = true) (h : Wk a (v.inst e ln)) (hv : v.cells.all SV.one = true) : a.cells.all AV.one = true :=
 wkL_one he (okL_cells hk) (wk_cells h hv) hv
end
end Am
