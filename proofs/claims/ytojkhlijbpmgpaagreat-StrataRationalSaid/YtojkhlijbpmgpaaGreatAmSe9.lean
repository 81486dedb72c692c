/- The abstract machine and its reader: lemmas. -/
import Derived.Test.YtojkhlijbpmgpaaGreatAmSe8
set_option linter.unusedSimpArgs false
set_option linter.unusedVariables false
set_option linter.unusedSectionVars false
namespace Am
open Go
variable {P : Program} {G : Glob}
section
variable {T : Tab} {SG : SGlob} {σ : SS} {e e' : Env} {s : Sta} {id : Nat}
theorem wkR_one {l l0 : List AV} (h : WkL l l0) : WkR [l] [l0] := .cons h .nil
theorem cells_inst {ln : Nat → Nat} {v : SV} (h : v.cells.all SV.one = true) : (v.inst e ln).cells = SV.instL e ln v.cells := by
 cases v <;> first | rfl | (simp [SV.cells,SV.one] at h; done)
theorem new_one (hS : Sat e σ s) {op : Op} {vs : List SV} {cs : List AV} {t : TypeId} {em : List (PO × List SA)} (hex : execA P id (evA G s.tm) s.H op = some { v := .ptr id 1 0 0,hs := [(id,{ fz := false,ap := false,ty := t,sz := vs.length,rows := [cs] })],rb := [] })
 (hc : WkL cs (SV.instL e (fun x => if x = id then 1 else lnOf e σ.H x) vs)) :
 ∃ res,UpdOK P G id op e e σ s { em,v := .ptr id 0 0,up := [(id,{ fz := false,ap := false,ty := t,sz := vs.length,d := lit0,tl := [vs] })],gr := [id] } res := by
 refine UpdOK.one0 hS hex (ln := fun x => if x = id then 1 else lnOf e σ.H x) rfl ?_ ⟨rfl,rfl,rfl,rfl,?_⟩ (by simp [inL]) ⟨[],rfl⟩
 · simp only [SV.inst,if_true]; exact .refl _
 · show WkR [cs] (SB.rows _ _ _)
   rw [rows_nil (k := { fz := false,ap := false,ty := t,sz := vs.length,d := lit0,tl := [vs] }) rfl]
   exact wkR_one hc
section
variable (hS : Sat e σ s) (hG : GOK G SG) (hT : TOK P T)
include hS hG hT
theorem ok_alloc {t : TypeId} {r : SR} (h : symOp T SG σ e.length id (.alloc t) = some r) (hr : runE r.em e = some e') : ∃ res,UpdOK P G id (.alloc t) e e' σ s r res := by
 simp only [symOp] at h
 split at h
 · rename_i tf htf
   have ht := hT _ _ htf
   split at h
   · rename_i z hz
     split at h
     · rename_i hc
       cases h
       obtain rfl := runE0 hr
       have h1 : (ofVal z).cells = SV.instL e (fun x => if x = id then 1 else lnOf e σ.H x) (sVal z).cells := by
        rw [← inst_val (e := e) (ln := fun x => if x = id then 1 else lnOf e σ.H x),cells_inst hc]
       have hone : (ofVal z).cells.all AV.one = true := by
        rw [← inst_val (e := e) (ln := lnOf e σ.H)]
        exact wk_cells_one hS.wf (ok_val _ z) (.refl _) hc
       have hlen : (sVal z).cells.length = (ofVal z).cells.length := by rw [h1,instL_len]
       refine new_one hS (cs := (ofVal z).cells) ?_ ?_
       · simp only [execA,ht.zero,hz,hone,if_true,hlen]
       · rw [h1]; exact .refl _
     · simp at h
   · simp at h
 · simp at h
end
theorem instL_new (n : Nat) {vs : List SV} (hv : SV.hasL (· == id) vs = false) : SV.instL e (lnOf e σ.H) vs = SV.instL e (fun x => if x = id then n else lnOf e σ.H x) vs :=
 SV.instL_ln (p := (· == id)) (fun b hb => by rw [if_neg (by simpa using hb)]) hv
section
variable (hS : Sat e σ s) (hG : GOK G SG)
include hS hG
theorem ok_box {t : TypeId} {x : Operand} {r : SR} (h : symOp T SG σ e.length id (.box t x) = some r) (hr : runE r.em e = some e') : ∃ res,UpdOK P G id (.box t x) e e' σ s r res := by
 simp only [symOp] at h
 split at h
 · rename_i hc
   simp only [Bool.and_eq_true,Bool.not_eq_true'] at hc
   cases h
   obtain rfl := runE0 hr
   have hw := hev hS hG x
   have h1 := wk_cells hw hc.1
   have h2 := wk_cells_one hS.wf (hok hS hG x) hw hc.1
   have hlen : (evA G s.tm x).cells.length = (sev SG σ x).cells.length := by rw [h1.1,instL_len]
   refine new_one hS (cs := (evA G s.tm x).cells) ?_ ?_
   · simp only [execA,h2,if_true,hlen]
   · rw [← instL_new 1 hc.2]; exact h1
 · simp at h
theorem ok_nilCheck {x : Operand} {r : SR} (h : symOp T SG σ e.length id (.nilCheck x) = some r) (hr : runE r.em e = some e') : ∃ res,UpdOK P G id (.nilCheck x) e e' σ s r res := by
 have hw := hev hS hG x
 simp only [symOp] at h
 split at h
 · rename_i b i j hx
   rw [hx] at hw
   split at h
   · rename_i k hk
     cases h
     obtain rfl := runE0 hr
     obtain ⟨blk,hb,hwb⟩ := hS.blk hk
     have hl : blk.rows.length = lnOf e σ.H b := by rw [lnOf_some hk,← SB.rows_len e (lnOf e σ.H)]; exact hwb.2.2.2.2.1
     refine UpdOK.pure0 hS (av := .ptr b (lnOf e σ.H b) i j) ?_ (.refl _)
     simp only [execA,wk_ptr hw,hb,hl,if_true]
   · simp at h
 · rename_i b y j hx
   rw [hx] at hw
   split at h
   · rename_i k hk
     cases h
     obtain rfl := runE0 hr
     obtain ⟨blk,hb,hwb⟩ := hS.blk hk
     have hl : blk.rows.length = lnOf e σ.H b := by rw [lnOf_some hk,← SB.rows_len e (lnOf e σ.H)]; exact hwb.2.2.2.2.1
     refine UpdOK.pure0 hS (av := .ptr b (lnOf e σ.H b) (y.val e).num.toNat j) ?_ (.refl _)
     simp only [execA,wk_ptr hw,hb,hl,if_true]
   · simp at h
 · rename_i cs hx
   rw [hx] at hw
   cases h
   obtain rfl := runE0 hr
   refine UpdOK.pure0 hS (av := .eptr (cs.map (·.val e))) ?_ (.refl _)
   simp only [execA,wk_eptr hw]; rfl
 · simp at h
theorem ok_extract {x : Operand} {i : Nat} {r : SR} (h : symOp T SG σ e.length id (.extract x i) = some r) (hr : runE r.em e = some e') : ∃ res,UpdOK P G id (.extract x i) e e' σ s r res := by
 have hw := hev hS hG x
 simp only [symOp] at h
 split at h
 · rename_i cs hx
   rw [hx] at hw
   split at h
   · rename_i c hc
     cases h
     obtain rfl := runE0 hr
     obtain ⟨l,hl,hwl⟩ := wk_tup hw
     obtain ⟨a,h1,h2⟩ := hwl.get (i := i) (a0 := c.inst e (lnOf e σ.H)) (by rw [instL_get,hc]; rfl)
     refine UpdOK.pure0 hS (av := a) ?_ h2
     simp only [execA,hl,h1]; rfl
   · simp at h
 · simp at h
theorem ok_min {args : Array Operand} {ats : Array TypeId} {r : SR} (h : symOp T SG σ e.length id (.call { callee := .builtin .min,args,argTypes := ats }) = some r) (hr : runE r.em e = some e') : ∃ res,UpdOK P G id (.call { callee := .builtin .min,args,argTypes := ats }) e e' σ s r res := by
 simp only [symOp] at h
 split at h
 · rename_i x y hxy
   have hx := hev hS hG x
   have hy := hev hS hG y
   split at h
   · rename_i p q hp hq
     cases h
     obtain ⟨o,ho,rfl⟩ := runE1 hr
     simp only [List.map_cons,List.map_nil] at ho
     obtain ⟨k,n,k',n',h1,h2,rfl⟩ := min_inv ho
     rw [hp] at hx; rw [hq] at hy
     simp only [SV.inst,h1] at hx
     simp only [SV.inst,h2] at hy
     refine UpdOK.pure hS (av := .d (.int k (if n' < n then n' else n))) ?_ (by simp only [SV.inst,val_new]; exact .refl _)
     simp only [execA,hxy,wk_int hx,wk_int hy]; rfl
   · simp at h
 · simp at h
theorem ok_max {args : Array Operand} {ats : Array TypeId} {r : SR} (h : symOp T SG σ e.length id (.call { callee := .builtin .max,args,argTypes := ats }) = some r) (hr : runE r.em e = some e') : ∃ res,UpdOK P G id (.call { callee := .builtin .max,args,argTypes := ats }) e e' σ s r res := by
 simp only [symOp] at h
 split at h
 · rename_i x y hxy
   have hx := hev hS hG x
   have hy := hev hS hG y
   split at h
   · rename_i p q hp hq
     cases h
     obtain ⟨o,ho,rfl⟩ := runE1 hr
     simp only [List.map_cons,List.map_nil] at ho
     obtain ⟨k,n,k',n',h1,h2,rfl⟩ := max_inv ho
     rw [hp] at hx; rw [hq] at hy
     simp only [SV.inst,h1] at hx
     simp only [SV.inst,h2] at hy
     refine UpdOK.pure hS (av := .d (.int k (if n' > n then n' else n))) ?_ (by simp only [SV.inst,val_new]; exact .refl _)
     simp only [execA,hxy,wk_int hx,wk_int hy]; rfl
   · simp at h
 · simp at h
end
section
variable (hS : Sat e σ s) (hG : GOK G SG) (hT : TOK P T)
include hS hG hT
theorem ok_len {args : Array Operand} {ats : Array TypeId} {r : SR} (h : symOp T SG σ e.length id (.call { callee := .builtin .len,args,argTypes := ats }) = some r) (hr : runE r.em e = some e') : ∃ res,UpdOK P G id (.call { callee := .builtin .len,args,argTypes := ats }) e e' σ s r res := by
 simp only [symOp] at h
 split at h
 · rename_i x t hx ht0
   have hw := hev hS hG x
   split at h
   · rename_i tf htf
     have ht := hT _ _ htf
     split at h
     · rename_i q hq
       rw [hq] at hw
       split at h
       · rename_i hs
         cases h
         obtain ⟨o,ho,rfl⟩ := runE1 hr
         simp only [List.map_cons,List.map_nil] at ho
         obtain ⟨l,h1,rfl⟩ := lenS_inv ho
         simp only [SV.inst,h1] at hw
         refine UpdOK.pure hS (av := .d (.int .i64 l.length)) ?_ (by simp only [SV.inst,val_new]; exact .refl _)
         simp only [execA,hx,ht0,wk_str hw,ht.str,hs,if_true]; rfl
       · split at h
         · rename_i he
           cases h
           obtain ⟨o,ho,rfl⟩ := runE1 hr
           simp only [List.map_cons,List.map_nil] at ho
           obtain ⟨l,h1,rfl⟩ := lenL_inv ho
           simp only [SV.inst,h1] at hw
           refine UpdOK.pure hS (av := .d (.int .i64 l.length)) ?_ (by simp only [SV.inst,val_new]; exact .refl _)
           simp only [execA,hx,ht0,wk_sl hw,ht.elem,he,if_true]; rfl
         · simp at h
     · rename_i hq
       rw [hq] at hw
       split at h
       · rename_i he
         cases h
         obtain rfl := runE0 hr
         refine UpdOK.pure0 hS (av := .d (.int .i64 0)) ?_ (.refl _)
         simp only [execA,hx,ht0,wk_nils hw,ht.elem,he,if_true]; rfl
       · simp at h
     · rename_i b hq
       rw [hq] at hw
       split at h
       · rename_i k hk
         obtain ⟨blk,hb,hwb⟩ := hS.blk hk
         have hl : blk.rows.length = lnOf e σ.H b := by rw [lnOf_some hk,← SB.rows_len e (lnOf e σ.H)]; exact hwb.2.2.2.2.1
         split at h
         · rename_i he
           have hex : execA P id (evA G s.tm) s.H (.call { callee := .builtin .len,args,argTypes := ats }) = some { v := .d (.int .i64 (lnOf e σ.H b : Nat)),hs := [],rb := [b] } := by
            simp only [execA,hx,ht0,wk_own hw,hb,hl,ht.elem,he,and_self,if_true]
           split at h
           · rename_i htl
             cases h
             obtain ⟨o,ho,rfl⟩ := runE1 hr
             simp only [List.map_cons,List.map_nil] at ho
             obtain ⟨l,h1,rfl⟩ := lenL_inv ho
             refine UpdOK.pure hS hex ?_
             simp only [SV.inst,val_new]
             rw [lnOf_some hk,len_dyn htl h1]
             exact .refl _
           · split at h
             · rename_i hn
               cases h
               obtain rfl := runE0 hr
               refine UpdOK.pure0 hS hex ?_
               rw [lnOf_some hk,len_nil hn]
               exact .refl _
             · simp at h
         · simp at h
       · simp at h
     · simp at h
   · simp at h
 · simp at h
theorem ok_fieldAddr {t : TypeId} {x : Operand} {f : Nat} {r : SR} (h : symOp T SG σ e.length id (.fieldAddr t x f) = some r) (hr : runE r.em e = some e') : ∃ res,UpdOK P G id (.fieldAddr t x f) e e' σ s r res := by
 have hw := hev hS hG x
 simp only [symOp] at h
 split at h
 · rename_i tf htf
   have ht := hT _ _ htf
   split at h
   · rename_i o ft hf
     split at h
     · rename_i t2 ht2
       have ht2' := hT _ _ ht2
       split at h
       · rename_i hc
         simp only [Bool.and_eq_true,Bool.not_eq_true',beq_eq_false_iff_ne] at hc
         have hfd := ht.flds _ _ hf
         have hc2 : tsz P ft ≠ 0 := by rw [ht2'.sz]; exact hc.2
         have hcond : tin P ft = true ∧ tsz P ft ≠ 0 := ⟨by rw [ht2'.ti]; exact hc.1,hc2⟩
         split at h
         · rename_i b i j hx
           rw [hx] at hw
           split at h
           · rename_i k hk
             cases h
             obtain rfl := runE0 hr
             obtain ⟨blk,hb,hwb⟩ := hS.blk hk
             have hl : blk.rows.length = lnOf e σ.H b := by rw [lnOf_some hk,← SB.rows_len e (lnOf e σ.H)]; exact hwb.2.2.2.2.1
             refine UpdOK.pure0 hS (av := .ptr b (lnOf e σ.H b) i (j + o)) ?_ (.refl _)
             simp only [execA,hfd]
             rw [if_pos hcond]
             simp only [wk_ptr hw,hb,hl,if_true]
           · simp at h
         · rename_i b y j hx
           rw [hx] at hw
           split at h
           · rename_i k hk
             cases h
             obtain rfl := runE0 hr
             obtain ⟨blk,hb,hwb⟩ := hS.blk hk
             have hl : blk.rows.length = lnOf e σ.H b := by rw [lnOf_some hk,← SB.rows_len e (lnOf e σ.H)]; exact hwb.2.2.2.2.1
             refine UpdOK.pure0 hS (av := .ptr b (lnOf e σ.H b) (y.val e).num.toNat (j + o)) ?_ (.refl _)
             simp only [execA,hfd]
             rw [if_pos hcond]
             simp only [wk_ptr hw,hb,hl,if_true]
           · simp at h
         · rename_i cs hx
           rw [hx] at hw
           cases h
           obtain rfl := runE0 hr
           refine UpdOK.pure0 hS (av := .eptr ((cs.map (·.val e)).drop o)) ?_ ?_
           · simp only [execA,hfd]
             rw [if_pos hcond]
             simp only [wk_eptr hw]; rfl
           · simp only [SV.inst,List.map_drop]; exact .refl _
         · simp at h
       · simp at h
     · simp at h
   · simp at h
 · simp at h
theorem ok_field {t : TypeId} {x : Operand} {f : Nat} {r : SR} (h : symOp T SG σ e.length id (.field t x f) = some r) (hr : runE r.em e = some e') : ∃ res,UpdOK P G id (.field t x f) e e' σ s r res := by
 have hw := hev hS hG x
 simp only [symOp] at h
 split at h
 · rename_i tf htf
   have ht := hT _ _ htf
   split at h
   · rename_i o ft hf
     split at h
     · rename_i t2 ht2
       have ht2' := hT _ _ ht2
       split at h
       · rename_i hc
         simp only [Bool.and_eq_true] at hc
         have hfd := ht.flds _ _ hf
         split at h
         · rename_i cs hx
           rw [hx] at hw
           obtain ⟨l,hl,hwl⟩ := wk_agg hw
           split at h
           · rename_i hagg
             split at h
             · rename_i hle
               cases h
               obtain rfl := runE0 hr
               have h3 : o + t2.sz ≤ l.length := by rw [hwl.1,instL_len]; exact Nat.le_of_ble_eq_true hle
               refine UpdOK.pure0 hS (av := .agg ((l.drop o).take t2.sz)) ?_ ?_
               · simp only [execA,hfd,ht2'.ti,ht2'.tu,hc.1,hc.2,and_self,if_true,hl,ht2'.agg,hagg,ht2'.sz,h3]; rfl
               · have := (hwl.drop o).take t2.sz
                 rw [instL_dt] at this
                 exact .agg _ _ this.1 this.2
             · simp at h
           · rename_i hagg
             split at h
             · rename_i c hcc
               cases h
               obtain rfl := runE0 hr
               obtain ⟨a,h1,h2⟩ := hwl.get (i := o) (a0 := c.inst e (lnOf e σ.H)) (by rw [instL_get,hcc]; rfl)
               refine UpdOK.pure0 hS (av := a) ?_ h2
               simp only [execA,hfd,ht2'.ti,ht2'.tu,hc.1,hc.2,and_self,if_true,hl,ht2'.agg,show t2.agg = false by simpa using hagg,Bool.false_eq_true,if_false,h1]; rfl
             · simp at h
         · simp at h
       · simp at h
     · simp at h
   · simp at h
 · simp at h
end
end
end Am
