/- The abstract machine and its reader: lemmas. -/
import Derived.Test.YtojkhlijbpmgpaaGreatAmSe14
set_option linter.unusedSimpArgs false
set_option linter.unusedVariables false
set_option linter.unusedSectionVars false
namespace Am
open Go
section
variable {σ : SS} {e e' : Env} {s : Sta} {kk : Nat}
theorem Sat.kill (hS : Sat e σ s) (p : Nat → Bool) : Sat e (σ.kill p) s := by
 have hln : lnOf e (σ.kill p).H = lnOf e σ.H := funext fun b => lnOf_kill e σ p b
 refine ⟨hS.wf,fun t => ?_,fun b k hk => ?_,fun b k hk => ?_,⟨hS.wk.n,hS.wk.nx,fun t => ?_,fun b => ?_⟩⟩
 · rw [getS_kill]; exact SV.kill_ok p (hS.tm t)
 · rw [getB_kill] at hk
   simp only [Option.map_eq_some_iff] at hk
   obtain ⟨k',hk',rfl⟩ := hk
   exact SB.kill_ok p (hS.H b k' hk')
 · rw [getB_kill] at hk
   simp only [Option.map_eq_some_iff] at hk
   obtain ⟨k',hk',rfl⟩ := hk
   exact hS.sl b k' hk'
 · show Wk _ ((getS (σ.kill p).tm t).inst e (lnOf e (σ.kill p).H))
   rw [hln,getS_kill]
   exact SV.kill_wk (fun _ _ => rfl) _ (hS.get t)
 · show WkO _ ((getB (σ.kill p).H b).map (·.inst e (lnOf e (σ.kill p).H)))
   rw [hln,getB_kill]
   have := hS.wk.H b
   simp only [SS.inst] at this
   cases hb : getB σ.H b with
   | none => rw [hb] at this; exact this
   | some k =>
    rw [hb] at this
    cases hx : s.H b with
    | none => rw [hx] at this; exact this.elim
    | some x =>
     rw [hx] at this
     obtain ⟨h1,h2,h3,h4,h5⟩ : WkB x (k.inst e (lnOf e σ.H)) := this
     exact ⟨h1,h2,h3,h4,kill_rows (fun _ _ => rfl) h5⟩
theorem kill_has (p : Nat → Bool) (v : SV) : (v.kill p).has p = false := by
 unfold SV.kill
 split
 · rfl
 · rename_i h; simpa using h
theorem instL_lnf {ln ln' : Nat → Nat} {p : Nat → Bool} (hp : ∀ b,p b = false → ln b = ln' b) {l : List SV} (h : ∀ v ∈ l,v.has p = false) : SV.instL e ln l = SV.instL e ln' l := by
 rw [SV.instL_map,SV.instL_map]
 exact List.map_congr_left fun v hv => SV.inst_ln hp (h v hv)
theorem kill_tl (p : Nat → Bool) (k : SB) : ∀ r ∈ (k.kill p).tl,∀ v ∈ r,v.has p = false := by
 intro r hr v hv
 simp only [SB.kill] at hr
 obtain ⟨r',_,rfl⟩ := List.mem_map.1 hr
 obtain ⟨v',_,rfl⟩ := List.mem_map.1 hv
 exact kill_has p v'
theorem inst_lnf {ln ln' : Nat → Nat} {p : Nat → Bool} (hp : ∀ b,p b = false → ln b = ln' b) {k : SB} (h : ∀ r ∈ k.tl,∀ v ∈ r,v.has p = false) : k.inst e ln = k.inst e ln' := by
 simp only [SB.inst,SB.rows]
 congr 2
 exact List.map_congr_left fun r hr => instL_lnf hp (h r hr)
theorem ghost1_ok (hS0 : Sat e σ s) {g : Gh} {σ' : SS} (h : ghost1 σ g = some σ') : ∃ s',Ent kk s s' ∧ Sat e σ' s' := by
 have hp : ∀ x,((· == σ.nx) : Nat → Bool) x = false → ∀ n,lnOf e σ.H x = (if x = σ.nx then n else lnOf e σ.H x) := fun x hx n => by rw [if_neg (by simpa using hx)]
 have hS := hS0.kill (· == σ.nx)
 have hln : lnOf e (σ.kill (· == σ.nx)).H = lnOf e σ.H := funext fun b => lnOf_kill e σ _ b
 unfold ghost1 at h
 dsimp only at h
 split at h
 · split at h
   · rename_i hsl
     cases h
     have hk : getS (σ.kill (· == σ.nx)).tm g.slot = .nils := by rw [getS_kill,hsl]; rfl
     have e1 := hS.exact (kk := kk)
     have ht : ((σ.kill (· == σ.nx)).inst e).tm g.slot = .nils := by simp only [SS.inst,hk]; rfl
     have e2 := Ent.ghost (k := kk) g.ty g.sz ht
     have hl2 : lnOf e (setB (σ.kill (· == σ.nx)).H σ.nx { fz := false,ap := true,ty := g.ty,sz := g.sz,d := lit0,tl := [] }) = fun x => if x = σ.nx then 0 else lnOf e σ.H x := by
      funext x
      rw [lnOf_set,hln]
      rfl
     refine ⟨_,(e1.trans e2).trans (Ent.wk (s0 := SS.inst e { σ.kill (· == σ.nx) with tm := setS (σ.kill (· == σ.nx)).tm g.slot (.own σ.nx),H := setB (σ.kill (· == σ.nx)).H σ.nx { fz := false,ap := true,ty := g.ty,sz := g.sz,d := lit0,tl := [] },nx := σ.nx + 1 }) ⟨rfl,rfl,fun t => ?_,fun b => ?_⟩),Sat.of_inst hS.wf (fun t => ?_) (fun b k hk => ?_) fun b k hk => ?_⟩
     · show Wk (putT _ g.slot _ t) ((getS (setS _ g.slot (.own σ.nx)) t).inst e (lnOf e (setB _ σ.nx _)))
       rw [hl2,getS_set]
       simp only [putT]
       split
       · simp only [SV.inst,if_true]; exact .refl _
       · have : (getS (σ.kill (· == σ.nx)).tm t).inst e (lnOf e (σ.kill (· == σ.nx)).H) = (getS (σ.kill (· == σ.nx)).tm t).inst e fun x => if x = σ.nx then 0 else lnOf e σ.H x := by
          rw [hln,getS_kill]
          exact SV.inst_ln (p := (· == σ.nx)) (fun b hb => hp b hb 0) (kill_has _ _)
         simp only [SS.inst,this]
         exact .refl _
     · dsimp only [SS.inst]
       rw [hl2,getB_set]
       unfold updH
       have hnx : (SS.kill (fun x => x == σ.nx) σ).nx = σ.nx := rfl
       rw [hnx]
       split
       · exact ⟨rfl,rfl,rfl,rfl,.refl _⟩
       · simp only [SS.inst]
         rw [hln,getB_kill]
         cases hb : getB σ.H b with
         | none => trivial
         | some k0 =>
          simp only [Option.map_some]
          rw [inst_lnf (p := (· == σ.nx)) (fun b hb => hp b hb 0) (kill_tl _ k0)]
          exact ⟨rfl,rfl,rfl,rfl,.refl _⟩
     · show (getS (setS _ g.slot (.own σ.nx)) t).ok _ = true
       rw [getS_set]
       split
       · rfl
       · exact hS.tm t
     · rw [getB_set] at hk
       split at hk
       · cases hk; rfl
       · exact hS.H b k hk
     · rw [getB_set] at hk
       split at hk
       · cases hk; exact ⟨[],rfl⟩
       · exact hS.sl b k hk
   · simp at h
 · rename_i b i j hcell
   split at h
   · simp at h
   · rename_i hbn
     have hbn' : b ≠ σ.nx := by simpa using hbn
     split at h
     · rename_i q hq
       split at h
       · rename_i hnil
         split at h
         · rename_i r hr
           split at h
           · rename_i hnl
             cases h
             have e1 := hS.exact (kk := kk)
             obtain ⟨hi,hri⟩ := List.getElem?_eq_some_iff.1 hr
             obtain ⟨hj,hrj⟩ := List.getElem?_eq_some_iff.1 hnl
             have hrows : (q.inst e (lnOf e (σ.kill (· == σ.nx)).H)).rows = q.tl.map (SV.instL e (lnOf e (σ.kill (· == σ.nx)).H)) := rows_nil hnil
             have hb : ((σ.kill (· == σ.nx)).inst e).H b = some (q.inst e (lnOf e (σ.kill (· == σ.nx)).H)) := by simp only [SS.inst,hq,Option.map_some]
             have hi' : i < (q.inst e (lnOf e (σ.kill (· == σ.nx)).H)).rows.length := by rw [hrows]; simpa using hi
             have hrow : (q.inst e (lnOf e (σ.kill (· == σ.nx)).H)).rows[i] = SV.instL e (lnOf e (σ.kill (· == σ.nx)).H) r := by
              simp only [hrows,List.getElem_map,hri]
             have hj' : j < ((q.inst e (lnOf e (σ.kill (· == σ.nx)).H)).rows[i]).length := by rw [hrow,instL_len]; exact hj
             have hc : ((q.inst e (lnOf e (σ.kill (· == σ.nx)).H)).rows[i])[j] = .nils := by
              simp only [hrow,SV.instL_map,List.getElem_map,hrj]; rfl
             have e2 := Ent.ghostH (k := kk) b i j g.ty g.sz hb hi' hj' hc
             obtain ⟨q0,hq0,hqq⟩ : ∃ q0,getB σ.H b = some q0 ∧ q = q0.kill (· == σ.nx) := by
              rw [getB_kill] at hq
              simp only [Option.map_eq_some_iff] at hq
              obtain ⟨q0,h1,h2⟩ := hq
              exact ⟨q0,h1,h2.symm⟩
             have hqt : ∀ r ∈ q.tl,∀ v ∈ r,v.has (· == σ.nx) = false := by rw [hqq]; exact kill_tl _ q0
             have hq2n : sNil ({ q with tl := q.tl.set i (r.set j (.own σ.nx)) } : SB).d = true := hnil
             have hl2 : lnOf e (setB (setB (σ.kill (· == σ.nx)).H σ.nx { fz := false,ap := true,ty := g.ty,sz := g.sz,d := lit0,tl := [] }) b { q with tl := q.tl.set i (r.set j (.own σ.nx)) }) = fun x => if x = σ.nx then 0 else lnOf e σ.H x := by
              funext x
              rw [lnOf_set,lnOf_set,hln]
              by_cases hx : x = b
              · subst hx
                rw [if_pos rfl,if_neg hbn',← hln,lnOf_some hq,len_nil hq2n,len_nil hnil]
                simp
              · rw [if_neg hx]; rfl
             have hqeq : q.inst e (lnOf e (σ.kill (· == σ.nx)).H) = q.inst e fun x => if x = σ.nx then 0 else lnOf e σ.H x := by
              rw [hln]; exact inst_lnf (p := (· == σ.nx)) (fun b hb => hp b hb 0) hqt
             have hnew : ({ q with tl := q.tl.set i (r.set j (.own σ.nx)) } : SB).inst e (fun x => if x = σ.nx then 0 else lnOf e σ.H x) =
              { q.inst e (lnOf e (σ.kill (· == σ.nx)).H) with rows := (q.inst e (lnOf e (σ.kill (· == σ.nx)).H)).rows.set i (((q.inst e (lnOf e (σ.kill (· == σ.nx)).H)).rows[i]).set j (.own σ.nx 0 0 0)) } := by
              simp only [SB.inst]
              congr 1
              show SB.rows _ _ _ = (SB.rows _ _ _).set i (((SB.rows _ _ _)[i]).set j _)
              have h1 : q.rows e (lnOf e (σ.kill (· == σ.nx)).H) = q.tl.map (SV.instL e fun x => if x = σ.nx then 0 else lnOf e σ.H x) := by
               rw [rows_nil hnil,hln]
               exact List.map_congr_left fun r hr => instL_lnf (p := (· == σ.nx)) (fun b hb => hp b hb 0) (hqt r hr)
              rw [rows_nil hq2n]
              simp only [h1,List.map_set,List.getElem_map,hri]
              congr 1
              simp only [SV.instL_map,List.map_set]
              congr 1
              simp only [SV.inst,if_true]
             refine ⟨_,(e1.trans e2).trans (Ent.wk (s0 := SS.inst e { σ.kill (· == σ.nx) with H := setB (setB (σ.kill (· == σ.nx)).H σ.nx { fz := false,ap := true,ty := g.ty,sz := g.sz,d := lit0,tl := [] }) b { q with tl := q.tl.set i (r.set j (.own σ.nx)) },nx := σ.nx + 1 }) ⟨rfl,rfl,fun t => ?_,fun b' => ?_⟩),Sat.of_inst hS.wf hS.tm (fun b' k hk => ?_) fun b' k hk => ?_⟩
             · show Wk (((σ.kill (· == σ.nx)).inst e).tm t) ((getS (σ.kill (· == σ.nx)).tm t).inst e (lnOf e (setB (setB _ σ.nx _) b _)))
               rw [hl2]
               have : (getS (σ.kill (· == σ.nx)).tm t).inst e (lnOf e (σ.kill (· == σ.nx)).H) = (getS (σ.kill (· == σ.nx)).tm t).inst e fun x => if x = σ.nx then 0 else lnOf e σ.H x := by
                rw [hln,getS_kill]
                exact SV.inst_ln (p := (· == σ.nx)) (fun b hb => hp b hb 0) (kill_has _ _)
               simp only [SS.inst,this]
               exact .refl _
             · have hnx : (SS.kill (fun x => x == σ.nx) σ).nx = σ.nx := rfl
               dsimp only [SS.inst]
               rw [hl2,getB_set,getB_set]
               unfold updH
               rw [hnx]
               split
               · simp only [Option.map_some]
                 rw [hnew]
                 exact ⟨rfl,rfl,rfl,rfl,.refl _⟩
               · split
                 · exact ⟨rfl,rfl,rfl,rfl,.refl _⟩
                 · simp only [SS.inst]
                   rw [hln,getB_kill]
                   cases hb : getB σ.H b' with
                   | none => trivial
                   | some k0 =>
                    simp only [Option.map_some]
                    rw [inst_lnf (p := (· == σ.nx)) (fun b hb => hp b hb 0) (kill_tl _ k0)]
                    exact ⟨rfl,rfl,rfl,rfl,.refl _⟩
             · rw [getB_set] at hk
               split at hk
               · cases hk
                 have := hS.H b q hq
                 simp only [SB.ok,Bool.and_eq_true,List.all_eq_true] at this ⊢
                 refine ⟨this.1,fun r' hr' => ?_⟩
                 rcases List.mem_or_eq_of_mem_set hr' with h | rfl
                 · exact this.2 r' h
                 · rw [SV.okL_all]
                   intro v hv
                   rcases List.mem_or_eq_of_mem_set hv with h | rfl
                   · exact SV.okL_all.1 (this.2 r (List.mem_of_getElem? hr)) v h
                   · rfl
               · rw [getB_set] at hk
                 split at hk
                 · cases hk; rfl
                 · exact hS.H b' k hk
             · rw [getB_set] at hk
               split at hk
               · cases hk; exact hS.sl b q hq
               · rw [getB_set] at hk
                 split at hk
                 · cases hk; exact ⟨[],rfl⟩
                 · exact hS.sl b' k hk
           · simp at h
         · simp at h
       · simp at h
     · simp at h
theorem ghosts_ok : ∀ {l : List Gh} {σ : SS} {s : Sta} {σ' : SS},Sat e σ s → ghosts σ l = some σ' → ∃ s',Ent kk s s' ∧ Sat e σ' s' := by
 intro l
 induction l with
 | nil => intro σ s σ' hS h; simp only [ghosts] at h; cases h; exact ⟨s,.refl _ _,hS⟩
 | cons g l ih =>
  intro σ s σ' hS h
  simp only [ghosts] at h
  split at h
  · rename_i σ1 h1
    obtain ⟨s1,e1,hS1⟩ := ghost1_ok (kk := kk) hS h1
    obtain ⟨s2,e2,hS2⟩ := ih hS1 h
    exact ⟨s2,e1.trans e2,hS2⟩
  · simp at h
end
end Am
