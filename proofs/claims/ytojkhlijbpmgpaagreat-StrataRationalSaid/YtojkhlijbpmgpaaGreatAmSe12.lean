/- The abstract machine and its reader: lemmas. -/
import Derived.Test.YtojkhlijbpmgpaaGreatAmSe11
set_option linter.unusedSimpArgs false
set_option linter.unusedVariables false
set_option linter.unusedSectionVars false
namespace Am
open Go
variable {P : Program} {G : Glob}
section
variable {T : Tab} {SG : SGlob} {σ : SS} {e e' : Env} {s : Sta} {id : Nat}
theorem wkR_lens {X R : List (List AV)} (h : WkR X R) {n : Nat} (hr : ∀ r ∈ R,r.length = n) : ∀ x ∈ X,x.length = n := by
 intro x hx
 obtain ⟨i,hi,rfl⟩ := List.mem_iff_getElem.1 hx
 have hi' : i < R.length := by rw [← h.1]; exact hi
 rw [(h.2 i hi hi').1]
 exact hr _ (List.getElem_mem _)
theorem wkR_data {X : List (List AV)} {xs : List (List D)} (h : WkR X (xs.map (·.map .d))) (hw : D.WF (.sl xs)) : ∀ x ∈ X,x.all AV.one = true := by
 intro x hx
 obtain ⟨i,hi,rfl⟩ := List.mem_iff_getElem.1 hx
 have hi' : i < (xs.map (·.map AV.d)).length := by rw [← h.1]; exact hi
 obtain ⟨g1,g2⟩ := h.2 i hi hi'
 rw [List.all_eq_true]
 intro a ha
 obtain ⟨j,hj,rfl⟩ := List.mem_iff_getElem.1 ha
 have hj' : j < ((xs.map (fun l : List D => l.map AV.d))[i]).length := by rw [← g1]; exact hj
 have h3 := g2 j hj hj'
 simp only [List.getElem_map] at h3
 have hi2 : i < xs.length := by simpa using hi'
 have hj2 : j < (xs[i]).length := by simpa using hj'
 have hwf := hw.rows _ (List.getElem_mem hi2) _ (List.getElem_mem hj2)
 rcases wk_d h3 with h4 | ⟨f,h4,_⟩
 · rw [h4]
   revert hwf
   generalize (xs[i])[j] = d
   intro hwf
   cases hwf with
   | raw v hv => exact hv
   | _ => rfl
 · rw [h4]; rfl
theorem wkR_syms (hS : Sat e σ s) {X : List (List AV)} {rows : List (List SV)} (h : WkR X (rows.map (SV.instL e (lnOf e σ.H)))) (hk : ∀ r ∈ rows,SV.okL e.length r = true) (h1 : ∀ r ∈ rows,r.all SV.one = true) : ∀ x ∈ X,x.all AV.one = true := by
 intro x hx
 obtain ⟨i,hi,rfl⟩ := List.mem_iff_getElem.1 hx
 have hi' : i < (rows.map (SV.instL e (lnOf e σ.H))).length := by rw [← h.1]; exact hi
 have hi2 : i < rows.length := by simpa using hi'
 have h3 := h.2 i hi hi'
 simp only [List.getElem_map] at h3
 exact wkL_one hS.wf (hk _ (List.getElem_mem hi2)) h3 (h1 _ (List.getElem_mem hi2))
section
variable (hS : Sat e σ s) (hG : GOK G SG) (hT : TOK P T)
include hS hG hT
theorem ok_makeSlice {t : TypeId} {l c : Operand} {r : SR} (h : symOp T SG σ e.length id (.makeSlice t l c) = some r) (hr : runE r.em e = some e') : ∃ res,UpdOK P G id (.makeSlice t l c) e e' σ s r res := by
 have hl := hev hS hG l
 have hc := hev hS hG c
 simp only [symOp] at h
 split at h
 · rename_i tf htf
   have ht := hT _ _ htf
   split at h
   · rename_i e0 he0
     split at h
     · rename_i te hte
       have hte' := hT _ _ hte
       split at h
       · rename_i z hz
         split at h
         · rename_i p q hp hq
           rw [hp] at hl; rw [hq] at hc
           split at h
           · rename_i hcond
             simp only [Bool.and_eq_true,beq_iff_eq,blt_lt] at hcond
             obtain ⟨⟨⟨⟨c1,c2⟩,c3⟩,c4⟩,c5⟩ := hcond
             split at h
             · rename_i d hd
               cases h
               obtain ⟨o,ho,rfl⟩ := runE1 hr
               simp only [List.map_cons,List.map_nil] at ho
               obtain ⟨k,n,h1,h2,rfl⟩ := mkL_inv ho
               rw [← SA.beq_eq c1] at hc
               simp only [SV.inst,h1] at hl hc
               have hcells : (ofVal z).cells = [.d d] := by
                rw [← inst_val (e := e) (ln := lnOf e σ.H),cells_inst c3,hd]; rfl
               have hone : (ofVal z).cells.all AV.one = true := by
                rw [← inst_val (e := e) (ln := lnOf e σ.H)]
                exact wk_cells_one hS.wf (ok_val _ z) (.refl _) c3
               have hlen : (ofVal z).cells.length = tsz P e0 := by rw [hcells,hte'.sz,← c4,hd]; rfl
               have hdv : (SA.v e.length).val (e ++ [D.sl (List.replicate n.toNat [d])]) = .sl (List.replicate n.toNat [d]) := val_new e _ []
               refine UpdOK.one hS (av := .own id n.toNat 0 n.toNat) (blk := { fz := false,ap := true,ty := e0,sz := tsz P e0,rows := List.replicate n.toNat (ofVal z).cells }) ?_
                (ln := fun x => if x = id then n.toNat else lnOf e σ.H x) ?_ ?_ ⟨rfl,rfl,rfl,hte'.sz,?_⟩ (by simp [inL]) ⟨_,hdv⟩
               · simp only [execA,ht.elem,he0,hte'.zero,hz,wk_int hl,wk_int hc]
                 rw [if_pos ⟨hte'.ti.trans c2,hone,hlen,by rw [hte'.sz]; exact c5,(by trivial),h2.1,by rw [hte'.bt]; exact h2.2.1,h2.2.2⟩]
               · funext x
                 rw [len_dyn (k := { fz := false,ap := true,ty := e0,sz := te.sz,d := .v e.length,tl := [] }) rfl hdv,List.length_replicate]
               · simp only [SV.inst,if_true]; exact .refl _
               · show WkR _ (SB.rows _ _ _)
                 rw [rows_dyn (k := { fz := false,ap := true,ty := e0,sz := te.sz,d := .v e.length,tl := [] }) rfl hdv,hcells]
                 simp only [List.map_replicate,List.map_cons,List.map_nil]
                 exact .refl _
             · simp at h
           · simp at h
         · simp at h
       · simp at h
     · simp at h
   · simp at h
 · simp at h
theorem sSrc_ok {t t' : Nat} {v : SV} {a : AV} {src : Src} {te : TF} {e0 : Nat} (hw : Wk a (v.inst e (lnOf e σ.H))) (hvk : v.ok e.length = true) (he0 : telem P t = some e0) (hte : tsz P e0 = te.sz) (h : sSrc T σ t t' v = some src) :
 match src with
 | .at q rb => ∀ ys,q.val e = .sl ys → ∃ X,rowsX P t t' s.H a = some (X,rb) ∧ WkR X (ys.map (·.map .d))
 | .st q => te.sz = 1 → ∀ l,q.val e = .str l → rowsX P t t' s.H a = some (l.map fun c => [.d (.int .u8 c.toNat)],[])
 | .rows l rb => (∃ X,rowsX P t t' s.H a = some (X,rb) ∧ WkR X (l.map (SV.instL e (lnOf e σ.H)))) ∧ ∀ r ∈ l,SV.okL e.length r = true := by
 unfold sSrc at h
 split at h
 · rename_i tf tf' htf htf'
   split at h
   · rename_i q
     split at h
     · rename_i hs
       cases h
       intro hsz l hl
       simp only [SV.inst,hl] at hw
       have h1 : tstr P t' = true := (hT _ _ htf').str.trans hs
       have h2 : (telem P t).map (tsz P) = some 1 := by rw [he0]; simp [hte,hsz]
       rw [wk_str hw]
       simp only [rowsX,h1,h2,and_self,if_true]
     · split at h
       · rename_i htt
         have htt' : t = t' := by simpa using htt
         cases h
         intro ys hys
         simp only [SV.inst,hys] at hw
         rw [wk_sl hw]
         exact ⟨_,by simp only [rowsX,htt',if_true,rowsOf],.refl _⟩
       · simp at h
   · rename_i b _
     split at h
     · rename_i htt
       have htt' : t = t' := by simpa using htt
       split at h
       · rename_i k hk
         obtain ⟨blk,hb,hwb,hl,hro⟩ := own_rows hS hk
         have hx : rowsX P t t' s.H a = some (blk.rows,[b]) := by
          rw [wk_own hw]
          simp only [rowsX,htt',if_true]
          exact hro
         split at h
         · rename_i htl
           cases h
           intro ys hys
           have hrows : (k.inst e (lnOf e σ.H)).rows = ys.map (·.map .d) := rows_dyn htl hys
           exact ⟨_,hx,by rw [← hrows]; exact hwb.2.2.2.2⟩
         · split at h
           · rename_i hn
             cases h
             have hrows : (k.inst e (lnOf e σ.H)).rows = _ := rows_nil hn
             refine ⟨⟨_,hx,by rw [← hrows]; exact hwb.2.2.2.2⟩,?_⟩
             have := hS.H b k hk
             simp only [SB.ok,Bool.and_eq_true,List.all_eq_true] at this
             exact this.2
           · simp at h
       · simp at h
     · simp at h
   · split at h
     · rename_i htt
       have htt' : t = t' := by simpa using htt
       cases h
       rw [wk_nils hw]
       exact ⟨⟨[],by simp only [rowsX,htt',if_true,rowsOf],.refl _⟩,by simp⟩
     · simp at h
   · simp at h
 · simp at h
theorem ok_append {args : Array Operand} {ats : Array TypeId} {r : SR} (h : symOp T SG σ e.length id (.call { callee := .builtin .append,args,argTypes := ats }) = some r) (hok' : okEm e.length r.em = true) (hr : runE r.em e = some e') : ∃ res,UpdOK P G id (.call { callee := .builtin .append,args,argTypes := ats }) e e' σ s r res := by
 simp only [symOp] at h
 split at h
 · rename_i so xo t t' hargs hats
   have hws := hev hS hG so
   have hwx := hev hS hG xo
   have hkx := hok hS hG xo
   unfold sAppend at h
   split at h
   · simp at h
   · rename_i tf htf
     have ht := hT _ _ htf
     split at h
     · simp at h
     · rename_i e0 he0
       have hte0 : telem P t = some e0 := ht.elem.trans he0
       split at h
       · simp at h
       · rename_i te hte
         have hte' := hT _ _ hte
         split at h
         · simp at h
         · rename_i z hz
           have hz' : tzero P e0 = some z := hte'.zero.trans hz
           split at h
           · rename_i hc
             simp only [Bool.and_eq_true,beq_iff_eq,blt_lt] at hc
             have c1 : tin P e0 = true := hte'.ti.trans hc.1.1
             have c2 : z.cells.size = tsz P e0 := by rw [hte'.sz]; exact hc.1.2
             have c3 : 0 < tsz P e0 := by rw [hte'.sz]; exact hc.2
             split at h
             · simp at h
             · rename_i src hsrc
               have hsx := sSrc_ok hS hG hT (s := s) hwx hkx hte0 hte'.sz hsrc
               split at h
               ·
                rename_i hsn
                rw [hsn] at hws
                have hs0 := wk_nils hws
                split at h
                · rename_i r0 l rb
                  split at h
                  · rename_i hcond
                    simp only [Bool.and_eq_true,List.all_eq_true,beq_iff_eq,Bool.not_eq_true'] at hcond
                    obtain ⟨⟨b1,b2⟩,b3⟩ := hcond
                    cases h
                    obtain ⟨⟨X,hX,hW⟩,hkk⟩ := hsx
                    have hlen : X.length = (r0 :: l).length := by have := hW.1; simpa using this
                    refine sRows_ok (op := .call { callee := .builtin .append,args,argTypes := ats }) (rb := rb) hS hW (fun r hr => (b3 r hr).1.1) (fun r hr => (b3 r hr).2) ?_ hr
                    have hall : X.all (fun r => r.length == tsz P e0 && r.all AV.one) = true := by
                     rw [List.all_eq_true]
                     intro x hx
                     simp only [Bool.and_eq_true,beq_iff_eq]
                     refine ⟨?_,wkR_syms hS hW hkk (fun r hr => List.all_eq_true.2 (b3 r hr).1.2) x hx⟩
                     rw [hte'.sz]
                     exact wkR_lens hW (n := te.sz) (fun r hr => by
                      obtain ⟨r',hr',rfl⟩ := List.mem_map.1 hr
                      rw [instL_len]; exact (b3 r' hr').1.1) x hx
                    have hne : X ≠ [] := fun hX0 => by rw [hX0] at hlen; simp at hlen
                    simp only [execA,hargs,hats,hte0,hX,hz',c1,c2,c3,hall,and_self,if_true,hs0]
                    rw [if_pos ⟨by rw [hlen,hte'.bt]; exact Nat.le_of_ble_eq_true b1,by rw [hlen]; exact Nat.le_of_ble_eq_true b2⟩,if_neg hne,hte'.sz]
                  · simp at h
                · rename_i q rb
                  cases h
                  obtain ⟨o,ho,rfl⟩ := runE1 hr
                  simp only [List.map_cons,List.map_nil] at ho
                  obtain ⟨ys,h1,h2,rfl⟩ := app1_inv ho
                  obtain ⟨X,hX,hW⟩ := hsx ys h1
                  have hlen : X.length = ys.length := by have := hW.1; simpa using this
                  simp only [okEm,PO.okP,List.all_cons,List.all_nil,Bool.and_true,Bool.true_and] at hok'
                  have hwf : D.WF (.sl ys) := by have := SA.val_wf hS.wf hok'; rwa [h1] at this
                  have hall : X.all (fun r => r.length == tsz P e0 && r.all AV.one) = true := by
                   rw [List.all_eq_true]
                   intro x hx
                   simp only [Bool.and_eq_true,beq_iff_eq]
                   refine ⟨?_,wkR_data hW hwf x hx⟩
                   rw [hte'.sz]
                   exact wkR_lens hW (n := te.sz) (fun r hr => by
                    obtain ⟨r',hr',rfl⟩ := List.mem_map.1 hr
                    have := List.all_eq_true.1 h2.2.2.2 r' hr'
                    simpa using this) x hx
                  have hne : X ≠ [] := fun hX0 => by rw [hX0] at hlen; exact h2.1 (List.eq_nil_of_length_eq_zero (by simpa using hlen.symm))
                  have hd : (SA.v e.length).val (e ++ [D.sl ys]) = .sl ys := val_new e _ []
                  refine UpdOK.one hS (av := .own id X.length 0 X.length) (blk := { fz := false,ap := true,ty := e0,sz := tsz P e0,rows := X }) ?_ (ln := fun x => if x = id then X.length else lnOf e σ.H x) ?_ ?_ ⟨rfl,rfl,rfl,hte'.sz,?_⟩ (by simp [inL]) ⟨_,hd⟩
                  · simp only [execA,hargs,hats,hte0,hX,hz',c1,c2,c3,hall,and_self,if_true,hs0]
                    rw [if_pos ⟨by rw [hlen,hte'.bt]; exact h2.2.1,by rw [hlen]; exact h2.2.2.1⟩,if_neg hne]
                  · funext x
                    rw [len_dyn (k := { fz := false,ap := true,ty := e0,sz := te.sz,d := .v e.length,tl := [] }) rfl hd,hlen]
                  · simp only [SV.inst,if_true]; exact .refl _
                  · show WkR X (SB.rows _ _ _)
                    rw [rows_dyn (k := { fz := false,ap := true,ty := e0,sz := te.sz,d := .v e.length,tl := [] }) rfl hd]
                    exact hW
                · simp at h
               ·
                rename_i b hsn
                rw [hsn] at hws
                have hs0 := wk_own hws
                split at h
                · rename_i k hk
                  obtain ⟨blk,hb,hwb,hl,hro⟩ := own_rows hS hk
                  split at h
                  · rename_i hcond
                    simp only [Bool.and_eq_true,Bool.not_eq_true',beq_iff_eq] at hcond
                    obtain ⟨⟨⟨d1,d2⟩,d3⟩,d4⟩ := hcond
                    have f1 : blk.fz = false := hwb.1.trans d1
                    have f2 : blk.ap = true := hwb.2.1.trans d2
                    have f3 : blk.ty = e0 := hwb.2.2.1.trans d3
                    have f4 : blk.sz = tsz P e0 := by rw [hte'.sz]; exact hwb.2.2.2.1.trans d4
                    have hex : ∀ (X : List (List AV)) (rb : List Nat),rowsX P t t' s.H (evA G s.tm xo) = some (X,rb) → (∀ x ∈ X,x.length = te.sz ∧ x.all AV.one = true) →
                     (lnOf e σ.H b + X.length) * te.bt ≤ 140737488355328 → lnOf e σ.H b + X.length ≤ 9223372036854775807 →
                     execA P id (evA G s.tm) s.H (.call { callee := .builtin .append,args,argTypes := ats }) = some { v := .own b (lnOf e σ.H b + X.length) 0 (lnOf e σ.H b + X.length),hs := [(b,{ blk with rows := blk.rows ++ X })],rb := b :: rb } := by
                     intro X rb hX hall g1 g2
                     have hall' : X.all (fun r => r.length == tsz P e0 && r.all AV.one) = true := by
                      rw [List.all_eq_true]
                      intro x hx
                      simp only [Bool.and_eq_true,beq_iff_eq,hte'.sz]
                      exact hall x hx
                     simp only [execA,hargs,hats,hte0,hX,hz',c1,c2,c3,hall',and_self,if_true,hs0,hb]
                     rw [if_pos ⟨hl,(by trivial),(by trivial),f1,f2,f3,f4,by rw [hte'.bt]; exact g1,g2⟩]
                    have fin : ∀ (X : List (List AV)) (o : Env) (q : SA) (xs ys : List (List D)) (rb : List Nat) (em : List (PO × List SA)),k.tl.isEmpty = true → k.d.val e = .sl xs → q.val (e ++ o) = .sl (xs ++ ys) → WkR X (ys.map (·.map .d)) →
                     rowsX P t t' s.H (evA G s.tm xo) = some (X,rb) → (∀ x ∈ X,x.length = te.sz ∧ x.all AV.one = true) → (xs.length + ys.length) * te.bt ≤ 140737488355328 → xs.length + ys.length ≤ 9223372036854775807 →
                     ∃ res,UpdOK P G id (.call { callee := .builtin .append,args,argTypes := ats }) e (e ++ o) σ s { em,v := .own b,up := [(b,{ k with d := q })],gr := [b],rb := b :: rb } res := by
                     intro X o q xs ys rb em htl hxs hq hW hX hall g1 g2
                     have hlen : X.length = ys.length := by have := hW.1; simpa using this
                     have hlb : lnOf e σ.H b = xs.length := by rw [lnOf_some hk,len_dyn htl hxs]
                     have hx := hex X rb hX hall (by rw [hlb,hlen]; exact g1) (by rw [hlb,hlen]; exact g2)
                     rw [hlb,hlen] at hx
                     refine UpdOK.one hS hx (ln := fun x => if x = b then xs.length + ys.length else lnOf e σ.H x) ?_ ?_ ⟨hwb.1,hwb.2.1,hwb.2.2.1,hwb.2.2.2.1,?_⟩ (by simp [inL]) ⟨_,hq⟩
                     · funext x
                       rw [len_dyn (k := { k with d := q }) htl hq,List.length_append]
                     · simp only [SV.inst,if_true]; exact .refl _
                     · show WkR (blk.rows ++ X) (SB.rows _ _ _)
                       rw [rows_dyn (k := { k with d := q }) htl hq,List.map_append]
                       have hrows : (k.inst e (lnOf e σ.H)).rows = xs.map (·.map .d) := rows_dyn htl hxs
                       have h5 := hwb.2.2.2.2
                       rw [hrows] at h5
                       exact h5.append hW
                    split at h
                    · rename_i q rb
                      split at h
                      · rename_i htl
                        cases h
                        obtain ⟨o,ho,rfl⟩ := runE1 hr
                        simp only [List.map_cons,List.map_nil] at ho
                        obtain ⟨xs,ys,h1,h2,h3,rfl⟩ := app_inv ho
                        obtain ⟨X,hX,hW⟩ := hsx ys h2
                        simp only [okEm,PO.okP,List.all_cons,List.all_nil,Bool.and_true,Bool.true_and,Bool.and_eq_true] at hok'
                        have hwf : D.WF (.sl ys) := by have := SA.val_wf hS.wf hok'.2; rwa [h2] at this
                        exact fin X _ (.v e.length) xs ys rb _ htl h1 (val_new e _ []) hW hX (fun x hx => ⟨wkR_lens hW (n := te.sz) (fun r hr => by
                         obtain ⟨r',hr',rfl⟩ := List.mem_map.1 hr
                         have := List.all_eq_true.1 h3.2.2 r' hr'
                         simpa using this) x hx,wkR_data hW hwf x hx⟩) h3.1 h3.2.1
                      · simp at h
                    · rename_i q
                      split at h
                      · rename_i htl
                        simp only [Bool.and_eq_true,beq_iff_eq] at htl
                        cases h
                        obtain ⟨o,ho,rfl⟩ := runE1 hr
                        simp only [List.map_cons,List.map_nil] at ho
                        obtain ⟨xs,l,h1,h2,h3,rfl⟩ := appS_inv ho
                        have hX := hsx htl.2 l h2
                        exact fin _ _ (.v e.length) xs (l.map fun c => [.int .u8 c.toNat]) [] _ htl.1 h1 (val_new e _ []) (by rw [List.map_map]; exact .refl _) hX (fun x hx => by
                         obtain ⟨c,_,rfl⟩ := List.mem_map.1 hx
                         exact ⟨by rw [htl.2]; rfl,rfl⟩) (by simpa using h3.1) (by simpa using h3.2)
                      · simp at h
                    · rename_i l rb
                      split at h
                      · rename_i hall
                        simp only [List.all_eq_true,Bool.and_eq_true,beq_iff_eq,Bool.not_eq_true'] at hall
                        obtain ⟨⟨X,hX,hW⟩,hkk⟩ := hsx
                        have hXall : ∀ x ∈ X,x.length = te.sz ∧ x.all AV.one = true := fun x hx =>
                         ⟨wkR_lens hW (n := te.sz) (fun r hr => by
                          obtain ⟨r',hr',rfl⟩ := List.mem_map.1 hr
                          rw [instL_len]; exact (hall r' hr').1.1) x hx,wkR_syms hS hW hkk (fun r hr => List.all_eq_true.2 (hall r hr).1.2) x hx⟩
                        have hlen : X.length = l.length := by have := hW.1; simpa using this
                        split at h
                        · rename_i as has
                          split at h
                          · rename_i htl
                            cases h
                            obtain ⟨o,o',ho,ho',rfl⟩ := runE2 hr
                            obtain ⟨hl1,rfl⟩ := mk_inv ho
                            simp only [List.map_cons,List.map_nil] at ho'
                            simp only [okEm,PO.okP,List.all_cons,List.all_nil,Bool.and_true,Bool.true_and,Bool.and_eq_true] at hok'
                            have hkd : k.d.ok e.length = true := by have := hS.H b k hk; simp only [SB.ok,Bool.and_eq_true] at this; exact this.1
                            rw [SA.val_ext _ hkd,val_new] at ho'
                            obtain ⟨xs,ys,h1,h2,h3,rfl⟩ := app_inv ho'
                            have hys : ys = chunks te.sz l.length (as.map (·.val e)) := (by simpa using h2.symm)
                            have hm := rows_mk hW has (fun r hr => (hall r hr).1.1)
                            rw [← hys] at hm
                            refine fin X _ (.v (e.length + 1)) xs ys rb _ htl h1 ?_ hm hX hXall h3.1 h3.2.1
                            simp [SA.val]
                          · simp at h
                        · split at h
                          · rename_i htl
                            cases h
                            obtain ⟨o,ho,rfl⟩ := runE1 hr
                            simp only [List.map_cons,List.map_nil] at ho
                            obtain ⟨xs,h1,h2,rfl⟩ := room_inv ho
                            have hlb : lnOf e σ.H b = xs.length := by rw [lnOf_some hk,len_dyn htl h1]
                            have hx := hex X rb hX hXall (by rw [hlb,hlen]; exact h2.1) (by rw [hlb,hlen]; exact h2.2)
                            have hkd : k.d.ok e.length = true := by have := hS.H b k hk; simp only [SB.ok,Bool.and_eq_true] at this; exact this.1
                            rw [hlb,hlen] at hx
                            have hlen2 : ({ k with tl := l } : SB).len e = xs.length + l.length := by
                             simp [SB.len,h1,D.rows]
                            rw [List.append_nil]
                            refine UpdOK.one0 hS hx (ln := fun x => if x = b then xs.length + l.length else lnOf e σ.H x) ?_ ?_ ⟨hwb.1,hwb.2.1,hwb.2.2.1,hwb.2.2.2.1,?_⟩ (by simp [inL]) ⟨_,h1⟩
                            · funext x; rw [hlen2]
                            · simp only [SV.inst,if_true]; exact .refl _
                            · show WkR (blk.rows ++ X) (SB.rows _ _ _)
                              have hrows : (k.inst e (lnOf e σ.H)).rows = xs.map (·.map .d) := rows_dyn htl h1
                              have h5 := hwb.2.2.2.2
                              rw [hrows] at h5
                              simp only [SB.rows,h1,D.rows]
                              refine h5.append ?_
                              have : l.map (SV.instL e (lnOf e σ.H)) = l.map (SV.instL e fun x => if x = b then xs.length + l.length else lnOf e σ.H x) :=
                               List.map_congr_left fun r hr => instL_new _ (hall r hr).2
                              rw [← this]; exact hW
                          · simp at h
                      · simp at h
                  · simp at h
                · simp at h
               · simp at h
           · simp at h
 · simp at h
theorem symOp_ok {op : Op} {r : SR} (h : symOp T SG σ e.length id op = some r) (hok : okEm e.length r.em = true) (hr : runE r.em e = some e') : ∃ res,UpdOK P G id op e e' σ s r res := by
 cases op with
 | move x => simp only [symOp] at h; cases h; obtain rfl := runE0 hr; exact ok_move hS hG
 | assign x => simp only [symOp] at h; cases h; obtain rfl := runE0 hr; exact ok_assign hS hG
 | pick c a b => exact ok_pick hS hG h hr
 | alloc t => exact ok_alloc hS hG hT h hr
 | box t x => exact ok_box hS hG h hr
 | build t ps => exact ok_build hS hG hT h hr
 | load t a => exact ok_load hS hG hT h hr
 | store t a x => exact ok_store hS hG hT h hr
 | nilCheck x => exact ok_nilCheck hS hG h hr
 | binOp op t x y ty => exact ok_bin hS hG hT h hr
 | unOp op t x => exact ok_un hS hG h hr
 | convert s t x => exact ok_convert hS hG hT h hr
 | makeFunc f a b => exact ok_makeFunc hS hG h hr
 | slice t x lo hi mx => exact ok_slice hS hG hT h hok hr
 | fieldAddr t x f => exact ok_fieldAddr hS hG hT h hr
 | field t x f => exact ok_field hS hG hT h hr
 | indexAddr t x i => exact ok_indexAddr hS hG hT h hr
 | index t x i => exact ok_index hS hG hT h hr
 | extract x i => exact ok_extract hS hG h hr
 | buildSlice t n ps => exact ok_buildSlice hS hG hT h hr
 | makeSlice t l c => exact ok_makeSlice hS hG hT h hr
 | call c =>
  obtain ⟨callee,args,ats⟩ := c
  cases callee with
  | builtin b => cases b with
   | len => exact ok_len hS hG hT h hr
   | min => exact ok_min hS hG h hr
   | max => exact ok_max hS hG h hr
   | append => exact ok_append hS hG hT h hok hr
   | _ => simp [symOp] at h
  | _ => simp [symOp] at h
 | _ => simp [symOp] at h
end
end
end Am
