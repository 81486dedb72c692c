/- The abstract machine and its reader: lemmas. -/
import Derived.Test.YtojkhlijbpmgpaaGreatAmSe18
set_option linter.unusedSimpArgs false
set_option linter.unusedVariables false
set_option linter.unusedSectionVars false
namespace Am
open Go
variable {P : Program} {G : Glob}
section
variable {σ σ1 : SS} {e e' : Env} {s : Sta} {kk id : Nat}
mutual
theorem inst_ren {m : Nat → Nat} {n : Nat} {ln : Nat → Nat} (hm : ∀ b,b < n → m b = b) : ∀ {v : SV},v.has (fun b => Nat.ble n b) = false → (v.inst e ln).ren m = v.inst e ln
 | .atm _,_ => rfl
 | .nils,_ => rfl
 | .agg cs,h => by simp only [SV.inst,AV.ren,renL_eq]; rw [instL_ren hm (l := cs) h]
 | .tup cs,h => by simp only [SV.inst,AV.ren,renL_eq]; rw [instL_ren hm (l := cs) h]
 | .own b,h => by simp only [SV.inst,AV.ren]; rw [hm b (ble_false h)]
 | .ptr b _ _,h => by simp only [SV.inst,AV.ren]; rw [hm b (ble_false h)]
 | .px b _ _,h => by simp only [SV.inst,AV.ren]; rw [hm b (ble_false h)]
 | .ep _,_ => rfl
 | .clo _ a b,h => by
  simp only [SV.has,Bool.or_eq_false_iff] at h
  simp only [SV.inst,AV.ren,renL_eq]
  rw [instL_ren hm h.1,instL_ren hm h.2]
 | .junk,_ => rfl
theorem instL_ren {m : Nat → Nat} {n : Nat} {ln : Nat → Nat} (hm : ∀ b,b < n → m b = b) : ∀ {l : List SV},SV.hasL (fun b => Nat.ble n b) l = false → (SV.instL e ln l).map (AV.ren m) = SV.instL e ln l
 | [],_ => rfl
 | c :: cs,h => by
  simp only [SV.hasL,Bool.or_eq_false_iff] at h
  simp only [SV.instL,List.map_cons]
  rw [inst_ren hm h.1,instL_ren hm h.2]
end
theorem blk_ren {m : Nat → Nat} {n : Nat} {ln : Nat → Nat} (hm : ∀ b,b < n → m b = b) {k : SB} (h : rowsBelow n k = true) : (k.inst e ln).ren m = k.inst e ln := by
 simp only [SB.inst,Blk.ren]
 congr 1
 simp only [SB.rows,List.map_append,List.map_map]
 congr 1
 · refine List.map_congr_left fun r _ => ?_
   simp only [Function.comp,List.map_map]
   exact List.map_congr_left fun d _ => rfl
 · refine List.map_congr_left fun r hr => ?_
   simp only [Function.comp]
   exact instL_ren hm (below_has (List.all_eq_true.1 h r hr))
theorem sResult_ok (hS : Sat e σ s) {T : Tab} (hT : TOK P T) {x : ResultVar} {v : SV} (h : sResult T σ e.length x = some v) : ∃ a,resA P s x = some a ∧ Wk a (v.inst e (lnOf e σ.H)) := by
 cases x with
 | tmp t => simp only [sResult] at h; cases h; exact ⟨_,rfl,hS.get t⟩
 | cell a ty =>
  simp only [sResult] at h
  split at h
  · rename_i tf htf
    have ht := hT _ _ htf
    split at h
    · rename_i hc
      simp only [Bool.and_eq_true] at hc
      split at h
      · rename_i r hr
        split at h
        · rename_i hem
          cases h
          obtain ⟨av,h1,h2,_⟩ := sLoad_ok (e' := e) hS (hS.get a) (hS.tm a) hr (by rw [List.isEmpty_iff.1 hem]; rfl)
          refine ⟨av,?_,h2⟩
          simp only [resA,ht.ti,ht.tu,hc.1,hc.2,and_self,if_true,ht.agg,ht.sz,h1]
        · simp at h
      · simp at h
    · simp at h
  · simp at h
theorem sResults_ok (hS : Sat e σ s) {T : Tab} (hT : TOK P T) : ∀ {l : List ResultVar} {vs : List SV},sResults T σ e.length l = some vs → ∃ as,resAll P s l = some as ∧ WkL as (SV.instL e (lnOf e σ.H) vs) := by
 intro l
 induction l with
 | nil => intro vs h; simp only [sResults] at h; cases h; exact ⟨[],rfl,.nil⟩
 | cons x l ih =>
  intro vs h
  simp only [sResults] at h
  split at h
  · rename_i a l' h1 h2
    cases h
    obtain ⟨av,g1,g2⟩ := sResult_ok hS hT h1
    obtain ⟨as,g3,g4⟩ := ih h2
    exact ⟨av :: as,by simp only [resAll,g1,g3],.cons g2 g4⟩
  · simp at h
theorem tup_wk {ln : Nat → Nat} {as : List AV} {vs : List SV} (h : WkL as (SV.instL e ln vs)) : Wk (tupA as) ((tupS vs).inst e ln) := by
 match vs,as,h with
 | [],as,h => rw [h.inv_nil]; exact .refl _
 | [v],as,h =>
  obtain ⟨a,as',rfl,h1,h2⟩ := h.inv_cons
  rw [h2.inv_nil]; exact h1
 | v :: w :: vs,as,h =>
  obtain ⟨a,as',rfl,h1,h2⟩ := h.inv_cons
  obtain ⟨b,as'',rfl,h3,h4⟩ := h2.inv_cons
  exact .tup _ _ h.1 h.2
theorem resList_inst {ln : Nat → Nat} (v : SV) : resList (v.inst e ln) = SV.instL e ln (resLS v) := by
 cases v <;> rfl
theorem finish_ok (hS : Sat e σ s) {gi : GI} (hT : TOK P gi.T) {A : List SA} (h : finish gi σ e.length = some A) : A.length = gi.sig.nout ∧ EWF (A.map (·.val e)) ∧
 ∀ ex,(ex = .normal ∨ ex = .ret) → Fin P gi.fn gi.sig.Hin.length (hIn (A.map (·.val e)) gi.sig.Hout) (gi.sig.res.inst (A.map (·.val e)) (lnL (A.map (·.val e)) gi.sig.Hout)) ex s := by
 unfold finish at h
 split at h
 · simp at h
 · rename_i vs hvs
   dsimp only at h
   split at h
   · simp at h
   · rename_i A' hA
     generalize hkeep : (!(!(ownIds (resLS (tupS vs))).isEmpty && (ownIds (resLS gi.sig.res)).isEmpty) && !(hasNil (resLS (tupS vs)) && !hasNil (resLS gi.sig.res))) = keep at h
     generalize hfz : (if keep = true then [] else ownIds (resLS (tupS vs))) = fz at h
     split at h
     · rename_i hc
       simp only [Bool.and_eq_true,beq_iff_eq] at hc
       obtain ⟨⟨⟨⟨⟨⟨⟨q1,q2⟩,q3⟩,q4⟩,q5⟩,q6⟩,q7⟩,q8⟩ := hc
       cases h
       refine ⟨q1,hS.wf.map q2,fun ex hex => ⟨hex,?_⟩⟩
       obtain ⟨as,g1,g2⟩ := sResults_ok hS hT hvs
       have hB := hin_ok (id := 0) hS q5 (by simp) (fun p hp => List.all_eq_true.1 q7 p hp)
       obtain ⟨hB1,_,hblk⟩ := hB
       rw [e2_zero] at hB1
       obtain ⟨a1,a2,a3,a4⟩ := args_ok hS (n := gi.sig.Hout.length) (lnI := lnL (A.map (·.val e)) gi.sig.Hout) (m := fun i => (List.range gi.sig.Hout.length).getD i 0) (fun i hi => ⟨rfl,(hB1 i hi).2⟩) q4 (below_has q6)
       rw [e2_zero] at a2
       have hm : ∀ b,b < gi.sig.Hout.length → (fun i => (List.range gi.sig.Hout.length).getD i 0) b = b := fun b hb => by
        simp [List.getD_eq_getElem?_getD,hb]
       rw [instL_ren hm (below_has q6)] at a2
       have hnj : (tupS vs).nj = true := by
        revert a1
        cases tupS vs <;> simp [resLS,SV.njL,SV.nj]
       have hr0 : tupA as = (tupS vs).inst e (lnOf e σ.H) := wk_exact _ hnj (tup_wk g2)
       refine ⟨keep,(tupS vs).inst e (lnOf e σ.H),?_,?_,?_,?_,?_,?_,?_⟩
       · simp only [finA,g1,hr0]
       · rw [resList_inst]; exact a3
       · rw [resList_inst,← a2]
         revert q3
         cases hv : tupS vs with
         | tup l =>
          cases hr : gi.sig.res with
          | tup ps => intro _; rfl
          | _ => intro h; simp [isTup] at h
         | _ =>
          cases hr : gi.sig.res with
          | tup ps => intro h; simp [isTup] at h
          | _ => intro _; rfl
       · simp only [hIn,List.length_map]; exact Nat.le_of_ble_eq_true q8
       · intro i hi
         have hi' : i < gi.sig.Hout.length := by simpa [hIn] using hi
         obtain ⟨k,_,_,_,_,_,_,hp⟩ := hblk i hi'
         rw [resList_inst,a4,hfz]
         have hgi : (List.range gi.sig.Hout.length).getD i 0 = i := hm i hi'
         rw [hgi] at hp
         rw [hp,blk_ren hm (List.all_eq_true.1 q7 _ (List.getElem_mem hi')),e2_zero]
         simp [hIn]
       · intro b hb row hrow
         obtain ⟨p,hp,rfl⟩ := List.mem_map.1 hb
         rw [show (hIn (A.map (·.val e)) gi.sig.Hout).length = gi.sig.Hout.length by simp [hIn]]
         exact rows_inK (fun r hr => below_has (List.all_eq_true.1 (List.all_eq_true.1 q7 p hp) r hr)) row hrow
       · rw [show (hIn (A.map (·.val e)) gi.sig.Hout).length = gi.sig.Hout.length by simp [hIn]]
         refine inst_inK ?_
         have := below_has q6
         revert this
         cases gi.sig.res <;> simp [resLS,SV.hasL,SV.has]
     · simp at h
end
end Am
