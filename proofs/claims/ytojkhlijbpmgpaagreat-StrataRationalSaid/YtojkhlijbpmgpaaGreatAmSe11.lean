/- The abstract machine and its reader: lemmas. -/
import Derived.Test.YtojkhlijbpmgpaaGreatAmSe10
set_option linter.unusedSimpArgs false
set_option linter.unusedVariables false
set_option linter.unusedSectionVars false
namespace Am
open Go
variable {P : Program} {G : Glob}
section
variable {T : Tab} {SG : SGlob} {σ : SS} {e e' : Env} {s : Sta} {id : Nat}
theorem D.beq_eq {a b : D} (h : a.beq b = true) : a = b := by
 unfold D.beq at h
 split at h <;> simp_all
theorem SA.beq_eq {a b : SA} (h : a.beq b = true) : a = b := by
 cases a with
 | v x => cases b with
  | v y => simp only [SA.beq,beq_iff_eq] at h; rw [h]
  | c d => simp [SA.beq] at h
 | c d => cases b with
  | v y => simp [SA.beq] at h
  | c d' => simp only [SA.beq] at h; rw [D.beq_eq h]
theorem chunks_len (sz : Nat) : ∀ (n : Nat) (l : List D),(chunks sz n l).length = n := by
 intro n
 induction n with
 | zero => intro l; rfl
 | succ n ih => intro l; simp [chunks,ih]
theorem chunks_flat {sz : Nat} : ∀ {rows : List (List AV)} {l : List D},(∀ r ∈ rows,r.length = sz) → rows.flatten = l.map .d → (chunks sz rows.length l).map (·.map AV.d) = rows := by
 intro rows
 induction rows with
 | nil => intro l _ _; rfl
 | cons r rows ih =>
  intro l hs hl
  have hr := hs r (by simp)
  simp only [List.flatten_cons] at hl
  have h1 : (l.take sz).map AV.d = r := by
   rw [List.map_take,← hl,← hr,List.take_left' rfl]
  have h2 : rows.flatten = (l.drop sz).map AV.d := by
   rw [List.map_drop,← hl,← hr,List.drop_left' rfl]
  simp only [List.length_cons,chunks,List.map_cons,h1]
  rw [ih (fun r hr => hs r (by simp [hr])) h2]
theorem flatten_inst {ln : Nat → Nat} (rows : List (List SV)) : (rows.map (SV.instL e ln)).flatten = SV.instL e ln rows.flatten := by
 induction rows with
 | nil => rfl
 | cons r rows ih => simp only [List.map_cons,List.flatten_cons,ih,SV.instL_map,List.map_append]
theorem rows_mk {ln : Nat → Nat} {rows : List (List SV)} {X : List (List AV)} {as : List SA} {sz : Nat} (h : WkR X (rows.map (SV.instL e ln))) (ha : atoms rows.flatten = some as) (hs : ∀ r ∈ rows,r.length = sz) :
 WkR X ((chunks sz rows.length (as.map (·.val e))).map (·.map .d)) := by
 have h1 : (rows.map (SV.instL e ln)).flatten = (as.map (·.val e)).map .d := by rw [flatten_inst,atoms_eq ha,instL_atoms]
 have h2 := chunks_flat (sz := sz) (rows := rows.map (SV.instL e ln)) (by
  intro r hr
  obtain ⟨r',hr',rfl⟩ := List.mem_map.1 hr
  rw [instL_len]; exact hs r' hr') h1
 rw [List.length_map] at h2
 rw [h2]; exact h
section
variable (hS : Sat e σ s) (hG : GOK G SG) (hT : TOK P T)
include hS
theorem sRows_ok {op : Op} {e0 : Nat} {te : TF} {rows : List (List SV)} {X : List (List AV)} {rb : List Nat}
 (hX : WkR X (rows.map (SV.instL e (lnOf e σ.H)))) (hsz : ∀ r ∈ rows,r.length = te.sz) (hid : ∀ r ∈ rows,SV.hasL (· == id) r = false)
 (hex : execA P id (evA G s.tm) s.H op = some { v := .own id X.length 0 X.length,hs := [(id,{ fz := false,ap := true,ty := e0,sz := te.sz,rows := X })],rb })
 (hr : runE (sRows e.length id e0 te rows).em e = some e') : ∃ res,UpdOK P G id op e e' σ s { sRows e.length id e0 te rows with rb } res := by
 unfold sRows at hr ⊢
 split at hr
 · obtain rfl := runE0 hr
   have hX0 : X = [] := List.eq_nil_of_length_eq_zero (by simpa using hX.1)
   subst hX0
   refine UpdOK.one0 hS hex (ln := fun x => if x = id then 0 else lnOf e σ.H x) ?_ ?_ ⟨rfl,rfl,rfl,rfl,?_⟩ (by simp [inL]) ⟨[],rfl⟩
   · funext x; simp [SB.len,lit0,SA.val,D.rows]
   · simp only [SV.inst,if_true]; exact .refl _
   · simp only [SB.inst,SB.rows,lit0,SA.val,D.rows]; exact .refl _
 · split at hr
   · rename_i as has
     obtain ⟨o,ho,rfl⟩ := runE1 hr
     obtain ⟨h1,rfl⟩ := mk_inv ho
     have hm := rows_mk hX has hsz
     have hlen : X.length = rows.length := by have := hX.1; simpa using this
     have hd : (SA.v e.length).val (e ++ [D.sl (chunks te.sz rows.length (as.map (·.val e)))]) = .sl (chunks te.sz rows.length (as.map (·.val e))) := val_new e _ []
     refine UpdOK.one hS hex (ln := fun x => if x = id then X.length else lnOf e σ.H x) ?_ ?_ ⟨rfl,rfl,rfl,rfl,?_⟩ (by simp [inL]) ⟨_,hd⟩
     · funext x
       rw [len_dyn (k := { fz := false,ap := true,ty := e0,sz := te.sz,d := .v e.length,tl := [] }) rfl hd,chunks_len,hlen]
     · simp only [SV.inst,if_true]; exact .refl _
     · show WkR X (SB.rows _ _ _)
       rw [rows_dyn (k := { fz := false,ap := true,ty := e0,sz := te.sz,d := .v e.length,tl := [] }) rfl hd]
       exact hm
   · obtain rfl := runE0 hr
     have hlen : X.length = rows.length := by have := hX.1; simpa using this
     refine UpdOK.one0 hS hex (ln := fun x => if x = id then X.length else lnOf e σ.H x) ?_ ?_ ⟨rfl,rfl,rfl,rfl,?_⟩ (by simp [inL]) ⟨[],rfl⟩
     · funext x; simp [SB.len,lit0,SA.val,D.rows,hlen]
     · simp only [SV.inst,if_true]; exact .refl _
     · show WkR X (SB.rows _ _ _)
       rw [rows_nil (k := { fz := false,ap := true,ty := e0,sz := te.sz,d := lit0,tl := rows }) rfl]
       have : rows.map (SV.instL e (lnOf e σ.H)) = rows.map (SV.instL e fun x => if x = id then X.length else lnOf e σ.H x) :=
        List.map_congr_left fun r hr => instL_new _ (hid r hr)
       rw [← this]; exact hX
include hG hT
theorem ok_indexAddr {t : TypeId} {x ix : Operand} {r : SR} (h : symOp T SG σ e.length id (.indexAddr t x ix) = some r) (hr : runE r.em e = some e') : ∃ res,UpdOK P G id (.indexAddr t x ix) e e' σ s r res := by
 have hw := hev hS hG x
 have hi := hev hS hG ix
 simp only [symOp] at h
 split at h
 · rename_i tf p htf hp
   rw [hp] at hi
   have ht := hT _ _ htf
   split at h
   · rename_i e0 he0
     have hte0 : telem P t = some e0 := ht.elem.trans he0
     split at h
     · rename_i te hte
       have hte' := hT _ _ hte
       split at h
       · rename_i hti
         have htin : tin P e0 = true := hte'.ti.trans hti
         split at h
         · rename_i b hx
           rw [hx] at hw
           split at h
           · rename_i k hk
             obtain ⟨blk,hb,hwb,hl,_⟩ := own_rows hS hk
             split at h
             · rename_i hsz
               have hbsz : blk.sz = tsz P e0 := by rw [hte'.sz]; exact hwb.2.2.2.1.trans (show k.sz = te.sz by simpa using hsz)
               split at h
               · rename_i hn
                 simp only [Bool.and_eq_true,Bool.not_eq_true'] at hn
                 split at h
                 · rename_i kd n
                   split at h
                   · rename_i hb0
                     simp only [Bool.and_eq_true,decide_eq_true_eq] at hb0
                     cases h
                     obtain rfl := runE0 hr
                     simp only [SV.inst,SA.val] at hi
                     have hlt : n < (lnOf e σ.H b : Nat) := by rw [lnOf_some hk,len_nil hn.1]; exact hb0.2
                     refine UpdOK.pure0 hS (av := .ptr b (lnOf e σ.H b) n.toNat 0) ?_ (.refl _)
                     simp only [execA,wk_int hi,hte0,htin,if_true,wk_own hw,hb,hl,hbsz,hb0.1,hlt,and_self,Nat.zero_add]
                   · simp at h
                 · simp at h
               · split at h
                 · rename_i htl
                   cases h
                   obtain ⟨o,ho,rfl⟩ := runE1 hr
                   simp only [List.map_cons,List.map_nil] at ho
                   obtain ⟨xs,kd,n,h1,h2,h3,rfl⟩ := chk_inv ho
                   simp only [SV.inst,h2] at hi
                   have hlt : n < (lnOf e σ.H b : Nat) := by rw [lnOf_some hk,len_dyn htl h1]; exact h3.2
                   refine UpdOK.pure hS (av := .ptr b (lnOf e σ.H b) n.toNat 0) ?_ ?_
                   · simp only [execA,wk_int hi,hte0,htin,if_true,wk_own hw,hb,hl,hbsz,h3.1,hlt,and_self,Nat.zero_add]
                   · simp only [SV.inst,List.append_nil,h2,D.num]; exact .refl _
                 · simp at h
             · simp at h
           · simp at h
         · rename_i q hx
           rw [hx] at hw
           cases h
           obtain ⟨o,ho,rfl⟩ := runE1 hr
           simp only [List.map_cons,List.map_nil] at ho
           obtain ⟨xs,kd,n,h1,h2,h3,h4,h5⟩ := row_inv ho
           simp only [SV.inst,h2] at hi
           simp only [SV.inst,h1] at hw
           refine UpdOK.pure hS (av := .eptr o) ?_ ?_
           · simp only [execA,wk_int hi,hte0,htin,if_true,wk_sl hw,h3,h4,hte'.sz,h5]; rfl
           · simp only [SV.inst]
             have := vals_vars e o [] e.length rfl
             rw [List.append_nil,h5] at this
             rw [this]; exact .refl _
         · simp at h
       · simp at h
     · simp at h
   · rename_i he0
     have hte0 : telem P t = none := ht.elem.trans he0
     split at h
     · rename_i len e0 ha
       have htarr : tarr P t = some (len,e0) := ht.arr.trans ha
       split at h
       · rename_i te kd n hte
         have hte' := hT _ _ hte
         simp only [SV.inst,SA.val] at hi
         split at h
         · rename_i hc
           simp only [Bool.and_eq_true,decide_eq_true_eq] at hc
           have htin : tin P e0 = true := hte'.ti.trans hc.1.1
           split at h
           · rename_i b i j hx
             rw [hx] at hw
             split at h
             · rename_i k hk
               cases h
               obtain rfl := runE0 hr
               obtain ⟨blk,hb,hwb,hl,_⟩ := own_rows hS hk
               refine UpdOK.pure0 hS (av := .ptr b (lnOf e σ.H b) i (j + n.toNat * te.sz)) ?_ (.refl _)
               simp only [execA,wk_int hi,hte0,htarr,htin,hc.1.2,hc.2,and_self,if_true,wk_ptr hw,hb,hl,hte'.sz]
             · simp at h
           · rename_i cs hx
             rw [hx] at hw
             cases h
             obtain rfl := runE0 hr
             refine UpdOK.pure0 hS (av := .eptr ((cs.map (·.val e)).drop (n.toNat * te.sz))) ?_ ?_
             · simp only [execA,wk_int hi,hte0,htarr,htin,hc.1.2,hc.2,and_self,if_true,wk_eptr hw,hte'.sz]; rfl
             · simp only [SV.inst,List.map_drop]; exact .refl _
           · simp at h
         · simp at h
       · simp at h
     · simp at h
 · simp at h
theorem ok_index {t : TypeId} {x ix : Operand} {r : SR} (h : symOp T SG σ e.length id (.index t x ix) = some r) (hr : runE r.em e = some e') : ∃ res,UpdOK P G id (.index t x ix) e e' σ s r res := by
 have hw := hev hS hG x
 have hi := hev hS hG ix
 simp only [symOp] at h
 split at h
 · rename_i tf p htf hp
   rw [hp] at hi
   have ht := hT _ _ htf
   split at h
   · rename_i q hx
     rw [hx] at hw
     split at h
     · rename_i hs
       cases h
       obtain ⟨o,ho,rfl⟩ := runE1 hr
       simp only [List.map_cons,List.map_nil] at ho
       obtain ⟨l,kd,n,c,h1,h2,h3,h4,rfl⟩ := idxS_inv ho
       simp only [SV.inst,h2] at hi
       simp only [SV.inst,h1] at hw
       refine UpdOK.pure hS (av := .d (.int .u8 c.toNat)) ?_ (by simp only [SV.inst,val_new]; exact .refl _)
       simp only [execA,wk_int hi,wk_str hw,ht.str,hs,h3,and_self,if_true,h4]; rfl
     · simp at h
   · rename_i cs hx
     rw [hx] at hw
     obtain ⟨l,hl,hwl⟩ := wk_agg hw
     split at h
     · rename_i len e0 ha
       split at h
       · rename_i te hte
         have hte' := hT _ _ hte
         split at h
         · rename_i hc
           simp only [Bool.and_eq_true,Bool.not_eq_true',beq_iff_eq] at hc
           split at h
           · rename_i as has
             cases h
             obtain ⟨o,ho,rfl⟩ := runE1 hr
             simp only [List.map_cons] at ho
             obtain ⟨kd,n,c,h1,h2,h3,rfl⟩ := sel_inv ho
             simp only [SV.inst,h1] at hi
             rw [atoms_eq has,instL_atoms] at hwl
             obtain ⟨a,h4,h5⟩ := hwl.get (i := n.toNat) (a0 := .d c) (by rw [List.getElem?_map,h3]; rfl)
             refine UpdOK.pure hS (av := a) ?_ (by simp only [SV.inst,val_new]; exact h5)
             have htarr : tarr P t = some (len,e0) := ht.arr.trans ha
             simp only [execA,wk_int hi,hl,htarr,hte'.ti,hte'.tu,hte'.agg,hte'.sz,hc.1.1.1.1,hc.1.1.1.2,hc.1.1.2,hc.1.2,h2.1,h2.2,and_self,if_true,h4]; rfl
           · simp at h
         · simp at h
       · simp at h
     · simp at h
   · simp at h
 · simp at h
theorem ok_buildSlice {t : TypeId} {len : Nat} {parts : Array (Nat × Operand)} {r : SR} (h : symOp T SG σ e.length id (.buildSlice t len parts) = some r) (hr : runE r.em e = some e') : ∃ res,UpdOK P G id (.buildSlice t len parts) e e' σ s r res := by
 simp only [symOp] at h
 split at h
 · rename_i tf htf
   have ht := hT _ _ htf
   split at h
   · rename_i e0 he0
     split at h
     · rename_i te hte
       have hte' := hT _ _ hte
       split at h
       · rename_i z hz
         split at h
         · rename_i hc
           simp only [Bool.and_eq_true,beq_iff_eq,blt_lt,decide_eq_true_eq,List.all_eq_true,Bool.not_eq_true'] at hc
           obtain ⟨⟨⟨⟨⟨c1,c2⟩,c3⟩,c4⟩,c5⟩,c6⟩ := hc
           have h' := Option.some.inj h
           subst h'
           have hone : ∀ p ∈ parts.toList,WkL (evA G s.tm p.2).cells (SV.instL e (lnOf e σ.H) (sev SG σ p.2).cells) ∧ (evA G s.tm p.2).cells.all AV.one = true := fun p hp =>
            ⟨wk_cells (hev hS hG p.2) (List.all_eq_true.2 (c6 p hp).1.2),wk_cells_one hS.wf (hok hS hG p.2) (hev hS hG p.2) (List.all_eq_true.2 (c6 p hp).1.2)⟩
           have hX : WkR (parts.toList.map fun p => (evA G s.tm p.2).cells) ((parts.toList.map fun p => (sev SG σ p.2).cells).map (SV.instL e (lnOf e σ.H))) := by
            refine ⟨by simp,fun i h1 h2 => ?_⟩
            simp only [List.getElem_map]
            exact (hone _ (List.getElem_mem _)).1
           have hl : parts.toList.length = len := by
            have := congrArg List.length c5
            simpa using this
           have := sRows_ok (P := P) (G := G) (id := id) (rb := []) (op := .buildSlice t len parts) (e0 := e0) (te := te) hS hX (by
            intro r hr
            obtain ⟨p,hp,rfl⟩ := List.mem_map.1 hr
            exact (c6 p hp).1.1) (by
            intro r hr
            obtain ⟨p,hp,rfl⟩ := List.mem_map.1 hr
            exact (c6 p hp).2) (by
            have hle : len * tsz P e0 ≤ 16777216 := by rw [hte'.sz]; exact Nat.le_of_ble_eq_true c4
            have hall : parts.all (fun p => (evA G s.tm p.2).cells.length == tsz P e0 && (evA G s.tm p.2).cells.all AV.one) = true := by
             rw [← Array.all_toList,List.all_eq_true]
             intro p hp
             simp only [Bool.and_eq_true,beq_iff_eq]
             refine ⟨?_,(hone p hp).2⟩
             rw [(hone p hp).1.1,instL_len,hte'.sz]
             exact (c6 p hp).1.1
            simp only [execA,ht.elem,he0,hte'.zero,hz]
            rw [if_pos ⟨hte'.ti.trans c1,by rw [hte'.sz]; exact c2,by rw [hte'.sz]; exact c3,hle,c5,hall⟩]
            simp [hl,hte'.sz]) hr
           have e1 : ({ sRows e.length id e0 te (parts.toList.map fun p => (sev SG σ p.2).cells) with rb := [] } : SR) = sRows e.length id e0 te (parts.toList.map fun p => (sev SG σ p.2).cells) := by
            unfold sRows
            split
            · rfl
            · split <;> rfl
           rw [e1] at this
           exact this
         · simp at h
       · simp at h
     · simp at h
   · simp at h
 · simp at h
end
end
end Am
