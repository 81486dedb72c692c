/- The abstract machine and its reader: lemmas. -/
import Derived.Test.YtojkhlijbpmgpaaGreatAmSe7
set_option linter.unusedSimpArgs false
set_option linter.unusedVariables false
set_option linter.unusedSectionVars false
namespace Am
open Go
variable {P : Program} {G : Glob}
section
variable {T : Tab} {SG : SGlob} {σ : SS} {e e' : Env} {s : Sta} {id : Nat}
theorem UpdOK.pureR (hS : Sat e σ s) {op : Op} {r : SR} {o : Env} (hu : r.up = []) {av : AV} (hex : execA P id (evA G s.tm) s.H op = some { v := av,hs := [],rb := r.rb }) (hv : Wk av (r.v.inst (e ++ o) (lnOf e σ.H))) :
 ∃ res,UpdOK P G id op e (e ++ o) σ s r res :=
 ⟨_,hex,by rw [hu,lnU_nil hS]; exact hv,by rw [hu]; trivial,rfl,fun b _ => by rw [hu,lnU_nil hS],fun p hp => by rw [hu] at hp; exact absurd hp List.not_mem_nil⟩
theorem UpdOK.oneR (hS : Sat e σ s) {op : Op} {r : SR} {o : Env} {av : AV} {b : Nat} {k : SB} {blk : Blk} (hu : r.up = [(b,k)]) {ln : Nat → Nat}
 (hex : execA P id (evA G s.tm) s.H op = some { v := av,hs := [(b,blk)],rb := r.rb }) (hln : ln = fun x => if x = b then k.len (e ++ o) else lnOf e σ.H x)
 (hv : Wk av (r.v.inst (e ++ o) ln)) (hb : WkB blk (k.inst (e ++ o) ln)) (hg : inL r.gr b = false → k.len (e ++ o) = lnOf e σ.H b) (hsl : ∃ xs,k.d.val (e ++ o) = .sl xs) :
 ∃ res,UpdOK P G id op e (e ++ o) σ s r res := by
 subst hln
 refine ⟨_,hex,?_,?_,rfl,fun x hx => ?_,fun p hp => by rw [hu] at hp; cases List.mem_singleton.1 hp; exact hsl⟩
 · rw [hu,lnU_one hS]; exact hv
 · rw [hu,lnU_one hS]; exact ⟨rfl,hb,trivial⟩
 · rw [hu,lnU_one hS]
   simp only
   split
   · rename_i h; subst h; exact hg hx
   · rfl
theorem rd_ptr {H : Heap} {b i j : Nat} {x : Blk} {R0 : List (List AV)} {row0 : List AV} (hb : H b = some x) (hR : WkR x.rows R0) (hi : R0[i]? = some row0) (sz : Nat) :
 (j + sz ≤ row0.length → ∃ l,rdA true sz H (.ptr b R0.length i j) = some (.agg l,[b]) ∧ WkL l ((row0.drop j).take sz)) ∧
 (∀ c0,row0[j]? = some c0 → ∃ c,rdA false sz H (.ptr b R0.length i j) = some (c,[b]) ∧ Wk c c0) := by
 obtain ⟨row,hrow,hw⟩ := hR.get hi
 constructor
 · intro hl
   refine ⟨(row.drop j).take sz,?_,(hw.drop j).take sz⟩
   have : j + sz ≤ row.length := by rw [hw.1]; exact hl
   simp only [rdA,hb,hR.1,if_true,hrow,this]
 · intro c0 hc
   obtain ⟨c,h1,h2⟩ := hw.get hc
   refine ⟨c,?_,h2⟩
   simp only [rdA,hb,hR.1,if_true,hrow,h1,Bool.false_eq_true,if_false]
theorem wr_ptr {H : Heap} {b i j sz : Nat} {x : Blk} {R0 : List (List AV)} {row0 : List AV} {a : AV} {cs0 : List AV} (hb : H b = some x) (hf : x.fz = false) (hR : WkR x.rows R0) (hi : R0[i]? = some row0)
 (hc : WkL a.cells cs0) (h1 : a.cells.all AV.one = true) (hs : cs0.length = sz) (hl : j + sz ≤ row0.length) :
 ∃ x',wrA sz H a (.ptr b R0.length i j) = some (b,x') ∧ x'.fz = x.fz ∧ x'.ap = x.ap ∧ x'.ty = x.ty ∧ x'.sz = x.sz ∧ WkR x'.rows (R0.set i (setAt row0 j cs0)) := by
 obtain ⟨row,hrow,hw⟩ := hR.get hi
 refine ⟨{ x with rows := x.rows.set i (setAt row j a.cells) },?_,rfl,rfl,rfl,rfl,hR.set (hw.setAt hc j) i⟩
 have : j + sz ≤ row.length := by rw [hw.1]; exact hl
 have h2 : a.cells.length = sz := by rw [hc.1]; exact hs
 simp only [wrA,hb,hR.1,hf,h2,h1,hrow,this,and_self,if_true]
theorem sNil_eq {q : SA} (h : sNil q = true) : q = .c (.sl []) := by
 unfold sNil at h
 split at h
 · rfl
 · simp at h
theorem rows_nil {ln : Nat → Nat} {k : SB} (h : sNil k.d = true) : k.rows e ln = k.tl.map (SV.instL e ln) := by
 simp [SB.rows,sNil_eq h,SA.val,D.rows]
theorem len_nil {k : SB} (h : sNil k.d = true) : k.len e = k.tl.length := by
 simp [SB.len,sNil_eq h,SA.val,D.rows]
theorem rows_dyn {ln : Nat → Nat} {k : SB} (h : k.tl.isEmpty = true) {xs : List (List D)} (hd : k.d.val e = .sl xs) : k.rows e ln = xs.map (·.map .d) := by
 simp [SB.rows,List.isEmpty_iff.1 h,hd,D.rows]
theorem len_dyn {k : SB} (h : k.tl.isEmpty = true) {xs : List (List D)} (hd : k.d.val e = .sl xs) : k.len e = xs.length := by
 simp [SB.len,List.isEmpty_iff.1 h,hd,D.rows]
theorem instL_get {ln : Nat → Nat} (l : List SV) (j : Nat) : (SV.instL e ln l)[j]? = (l[j]?).map (SV.inst e ln) := by
 rw [SV.instL_map,List.getElem?_map]
theorem instL_len {ln : Nat → Nat} (l : List SV) : (SV.instL e ln l).length = l.length := by rw [SV.instL_map,List.length_map]
theorem instL_dt {ln : Nat → Nat} (l : List SV) (j n : Nat) : ((SV.instL e ln l).drop j).take n = SV.instL e ln ((l.drop j).take n) := by
 rw [SV.instL_map,SV.instL_map,List.map_take,List.map_drop]
theorem instL_setAt {ln : Nat → Nat} : ∀ (cs row : List SV) (j : Nat),SV.instL e ln (setAtS row j cs) = setAt (SV.instL e ln row) j (SV.instL e ln cs) := by
 intro cs
 induction cs with
 | nil => intro row j; rfl
 | cons c cs ih =>
  intro row j
  simp only [setAtS,SV.instL,setAt]
  rw [ih]
  congr 1
  simp only [SV.instL_map,List.map_set]
theorem setD_map : ∀ (cs row : List D) (j : Nat),(setD row j cs).map AV.d = setAt (row.map .d) j (cs.map .d) := by
 intro cs
 induction cs with
 | nil => intro row j; rfl
 | cons c cs ih =>
  intro row j
  simp only [setD,List.map_cons,setAt]
  rw [ih,List.map_set]
theorem atoms_eq : ∀ {l : List SV} {as : List SA},atoms l = some as → l = as.map .atm := by
 intro l
 induction l with
 | nil => intro as h; simp [atoms] at h; subst h; rfl
 | cons v l ih =>
  intro as h
  cases v with
  | atm x =>
   simp only [atoms] at h
   split at h
   · rename_i r hr; cases h; rw [ih hr]; rfl
   · simp at h
  | _ => simp [atoms] at h
theorem instL_atoms {ln : Nat → Nat} (as : List SA) : SV.instL e ln (as.map .atm) = (as.map (·.val e)).map .d := by
 rw [SV.instL_map,List.map_map,List.map_map]; rfl
theorem take_one {r : List D} {j : Nat} (h : j + 1 ≤ r.length) : ∃ c,(r.drop j).take 1 = [c] ∧ r[j]? = some c := by
 have hj : j < r.length := by omega
 refine ⟨r[j],?_,List.getElem?_eq_getElem hj⟩
 rw [List.drop_eq_getElem_cons hj]
 rfl
theorem dyn_rd (hS : Sat e σ s) {b i j n : Nat} {k : SB} {idx : SA} {o : Env} (hk : getB σ.H b = some k) (htl : k.tl.isEmpty = true) (ho : PO.eval (.get j n) [k.d.val e,idx.val e] = some o) (hi : (idx.val e).num.toNat = i) :
 o.length = n ∧ (∃ l,rdA true n s.H (.ptr b (lnOf e σ.H b) i j) = some (.agg l,[b]) ∧ WkL l (o.map .d)) ∧
 (n = 1 → ∀ sz,∃ c c0,rdA false sz s.H (.ptr b (lnOf e σ.H b) i j) = some (c,[b]) ∧ o = [c0] ∧ Wk c (.d c0)) := by
 obtain ⟨x,hx,hw⟩ := hS.blk hk
 obtain ⟨xs,kd,nn,r,hd,hix,hn0,hr,hjl,rfl⟩ := get_inv ho
 rw [hix] at hi
 simp only [D.num] at hi
 have hrows : (k.inst e (lnOf e σ.H)).rows = xs.map (·.map .d) := rows_dyn htl hd
 have hR := hw.2.2.2.2
 rw [hrows] at hR
 have hlen : lnOf e σ.H b = (xs.map (·.map AV.d)).length := by rw [lnOf_some hk,len_dyn htl hd]; simp
 have hg : (xs.map (·.map AV.d))[i]? = some (r.map .d) := by rw [List.getElem?_map,← hi,hr]; rfl
 rw [hlen]
 obtain ⟨h1,h2⟩ := rd_ptr (j := j) hx hR hg n
 refine ⟨by simp; omega,?_,?_⟩
 · obtain ⟨l,hl,hwl⟩ := h1 (by simpa using hjl)
   exact ⟨l,hl,by rw [List.map_take,List.map_drop]; exact hwl⟩
 · rintro rfl sz
   obtain ⟨c0,hc0,hc0'⟩ := take_one hjl
   obtain ⟨c,hc,hwc⟩ := (rd_ptr (j := j) hx hR hg sz).2 (.d c0) (by rw [List.getElem?_map,hc0']; rfl)
   exact ⟨c,c0,hc,hc0,hwc⟩
theorem sLoad_ok (hS : Sat e σ s) {tf : TF} {v : SV} {a : AV} {r : SR} (ha : Wk a (v.inst e (lnOf e σ.H))) (hv : v.ok e.length = true) (h : sLoad σ e.length tf v = some r) (hr : runE r.em e = some e') :
 ∃ av,rdA tf.agg tf.sz s.H a = some (av,r.rb) ∧ Wk av (r.v.inst e' (lnOf e σ.H)) ∧ r.up = [] := by
 unfold sLoad at h
 split at h
 · rename_i b i j
   rw [wk_ptr ha]
   split at h
   · rename_i k hk
     split at h
     · rename_i hn
       obtain ⟨x,hx,hw⟩ := hS.blk hk
       have hR := hw.2.2.2.2
       have hrows : (k.inst e (lnOf e σ.H)).rows = _ := rows_nil hn
       rw [hrows] at hR
       have hlen : lnOf e σ.H b = (k.tl.map (SV.instL e (lnOf e σ.H))).length := by rw [lnOf_some hk,len_nil hn]; simp
       rw [hlen]
       split at h
       · rename_i row hrow
         have hg : (k.tl.map (SV.instL e (lnOf e σ.H)))[i]? = some (SV.instL e (lnOf e σ.H) row) := by rw [List.getElem?_map,hrow]; rfl
         obtain ⟨h1,h2⟩ := rd_ptr (j := j) hx hR hg tf.sz
         split at h
         · rename_i hagg
           split at h
           · rename_i hle
             cases h
             obtain rfl := runE0 hr
             rw [hagg]
             obtain ⟨l,hl,hwl⟩ := h1 (by rw [instL_len]; exact Nat.le_of_ble_eq_true hle)
             rw [instL_dt] at hwl
             exact ⟨_,hl,.agg _ _ hwl.1 hwl.2,rfl⟩
           · simp at h
         · rename_i hagg
           split at h
           · rename_i c hc
             cases h
             obtain rfl := runE0 hr
             rw [show tf.agg = false by simpa using hagg]
             obtain ⟨c',h3,h4⟩ := h2 _ (by rw [instL_get,hc]; rfl)
             exact ⟨c',h3,h4,rfl⟩
           · simp at h
       · simp at h
     · split at h
       · rename_i htl
         split at h
         · rename_i hagg
           cases h
           obtain ⟨o,ho,rfl⟩ := runE1 hr
           simp only [List.map_cons,List.map_nil] at ho
           obtain ⟨hl,⟨l,h1,h2⟩,_⟩ := dyn_rd hS hk htl ho (i := i) (by simp [SA.val,D.num])
           rw [hagg]
           refine ⟨_,h1,?_,rfl⟩
           simp only [SV.inst]
           rw [inst_vars e o _ _ hl]
           exact .agg _ _ h2.1 h2.2
         · rename_i hagg
           cases h
           obtain ⟨o,ho,rfl⟩ := runE1 hr
           simp only [List.map_cons,List.map_nil] at ho
           obtain ⟨hl,_,h3⟩ := dyn_rd hS hk htl ho (i := i) (by simp [SA.val,D.num])
           rw [show tf.agg = false by simpa using hagg]
           obtain ⟨c,c0,h4,rfl,h5⟩ := h3 rfl tf.sz
           exact ⟨c,h4,by simp only [SV.inst,val_new]; exact h5,rfl⟩
       · simp at h
   · simp at h
 · rename_i b x j
   rw [wk_ptr ha]
   split at h
   · rename_i k hk
     split at h
     · rename_i htl
       split at h
       · rename_i hagg
         cases h
         obtain ⟨o,ho,rfl⟩ := runE1 hr
         simp only [List.map_cons,List.map_nil] at ho
         obtain ⟨hl,⟨l,h1,h2⟩,_⟩ := dyn_rd hS hk htl ho rfl
         rw [hagg]
         refine ⟨_,h1,?_,rfl⟩
         simp only [SV.inst]
         rw [inst_vars e o _ _ hl]
         exact .agg _ _ h2.1 h2.2
       · rename_i hagg
         cases h
         obtain ⟨o,ho,rfl⟩ := runE1 hr
         simp only [List.map_cons,List.map_nil] at ho
         obtain ⟨hl,_,h3⟩ := dyn_rd hS hk htl ho rfl
         rw [show tf.agg = false by simpa using hagg]
         obtain ⟨c,c0,h4,rfl,h5⟩ := h3 rfl tf.sz
         exact ⟨c,h4,by simp only [SV.inst,val_new]; exact h5,rfl⟩
     · simp at h
   · simp at h
 · rename_i cs
   rw [wk_eptr ha]
   split at h
   · rename_i hagg
     split at h
     · rename_i hle
       cases h
       obtain rfl := runE0 hr
       have : tf.sz ≤ (cs.map (·.val e)).length := by simpa using Nat.le_of_ble_eq_true hle
       refine ⟨.agg (((cs.map (·.val e)).take tf.sz).map .d),by simp only [rdA,hagg,if_true,this],?_,rfl⟩
       simp only [SV.inst]
       rw [instL_atoms]
       simp only [List.map_take]
       exact .refl _
     · simp at h
   · rename_i hagg
     split at h
     · rename_i c cs'
       cases h
       obtain rfl := runE0 hr
       refine ⟨.d (c.val e),by simp only [rdA,show tf.agg = false by simpa using hagg,Bool.false_eq_true,if_false,List.map_cons,List.getElem?_cons_zero],.refl _,rfl⟩
     · simp at h
 · simp at h
theorem ln_same (_ : Sat e σ s) {b : Nat} {k k' : SB} {o : Env} (hk : getB σ.H b = some k) (h : k'.len (e ++ o) = k.len e) : lnOf e σ.H = fun x => if x = b then k'.len (e ++ o) else lnOf e σ.H x := by
 funext x
 split
 · rename_i hx; subst hx; rw [h,lnOf_some hk]
 · rfl
theorem dyn_wr (hS : Sat e σ s) {b i j n : Nat} {k : SB} {idx : SA} {as : List SA} {o : Env} {a : AV} (hk : getB σ.H b = some k) (htl : k.tl.isEmpty = true) (hf : k.fz = false)
 (ho : PO.eval (.set j n) (k.d.val e :: idx.val e :: as.map (·.val e)) = some o) (hi : (idx.val e).num.toNat = i) (hc : WkL a.cells ((as.map (·.val e)).map .d)) (h1 : a.cells.all AV.one = true) :
 ∃ x',wrA n s.H a (.ptr b (lnOf e σ.H b) i j) = some (b,x') ∧ WkB x' (({ k with d := .v e.length } : SB).inst (e ++ o) (lnOf e σ.H)) ∧ ({ k with d := .v e.length } : SB).len (e ++ o) = k.len e ∧ ∃ xs,(SA.v e.length).val (e ++ o) = .sl xs := by
 obtain ⟨x,hx,hw⟩ := hS.blk hk
 obtain ⟨xs,kd,nn,r,hd,hix,hn0,hr,hjl,hcl,rfl⟩ := set_inv ho
 rw [hix] at hi
 simp only [D.num] at hi
 have hrows : (k.inst e (lnOf e σ.H)).rows = xs.map (·.map .d) := rows_dyn htl hd
 have hR := hw.2.2.2.2
 rw [hrows] at hR
 have hlen : lnOf e σ.H b = (xs.map (·.map AV.d)).length := by rw [lnOf_some hk,len_dyn htl hd]; simp
 have hg : (xs.map (·.map AV.d))[i]? = some (r.map .d) := by rw [List.getElem?_map,← hi,hr]; rfl
 rw [hlen]
 obtain ⟨x',w1,w2,w3,w4,w5,w6⟩ := wr_ptr (j := j) (sz := n) hx (hw.1.trans hf) hR hg hc h1 (by simpa using hcl) (by simpa using hjl)
 have hd' : (({ k with d := .v e.length } : SB).d).val (e ++ [.sl (xs.set nn.toNat (setD r j (as.map (·.val e))))]) = .sl (xs.set nn.toNat (setD r j (as.map (·.val e)))) := val_new e _ []
 refine ⟨x',w1,⟨w2.trans hw.1,w3.trans hw.2.1,w4.trans hw.2.2.1,w5.trans hw.2.2.2.1,?_⟩,?_⟩
 · show WkR x'.rows (SB.rows _ _ _)
   rw [rows_dyn (k := { k with d := .v e.length }) htl hd',List.map_set,setD_map,hi]
   exact w6
 · refine ⟨?_,_,hd'⟩
   rw [len_dyn (k := { k with d := .v e.length }) htl hd',len_dyn htl hd]; simp
theorem sStore_ok (hS : Sat e σ s) {tf : TF} {v vx : SV} {a x : AV} {r : SR} (ha : Wk a (v.inst e (lnOf e σ.H))) (hx : Wk x (vx.inst e (lnOf e σ.H))) (hxk : vx.ok e.length = true) (h : sStore σ e.length tf vx v = some r) (hr : runE r.em e = some e') :
 ∃ o b blk k k',e' = e ++ o ∧ wrA tf.sz s.H x a = some (b,blk) ∧ r.up = [(b,k')] ∧ r.rb = [b] ∧ r.v = .junk ∧ getB σ.H b = some k ∧ WkB blk (k'.inst e' (lnOf e σ.H)) ∧ k'.len e' = k.len e ∧ ∃ xs,k'.d.val e' = .sl xs := by
 unfold sStore at h
 split at h
 · rename_i b i j
   rw [wk_ptr ha]
   split at h
   · rename_i k hk
     split at h
     · rename_i hcond
       simp only [Bool.and_eq_true,Bool.not_eq_true',beq_iff_eq] at hcond
       obtain ⟨⟨hfz,hcl⟩,hone⟩ := hcond
       have hc1 := wk_cells hx hone
       have hc2 := wk_cells_one hS.wf hxk hx hone
       split at h
       · rename_i hn
         obtain ⟨blk,hb,hw⟩ := hS.blk hk
         have hR := hw.2.2.2.2
         have hrows : (k.inst e (lnOf e σ.H)).rows = _ := rows_nil hn
         rw [hrows] at hR
         have hlen : lnOf e σ.H b = (k.tl.map (SV.instL e (lnOf e σ.H))).length := by rw [lnOf_some hk,len_nil hn]; simp
         rw [hlen]
         split at h
         · rename_i row hrow
           split at h
           · rename_i hle
             cases h
             obtain rfl := runE0 hr
             have hg : (k.tl.map (SV.instL e (lnOf e σ.H)))[i]? = some (SV.instL e (lnOf e σ.H) row) := by rw [List.getElem?_map,hrow]; rfl
             obtain ⟨x',w1,w2,w3,w4,w5,w6⟩ := wr_ptr (j := j) (sz := tf.sz) hb (hw.1.trans hfz) hR hg hc1 hc2 (by rw [instL_len]; exact hcl) (by rw [instL_len]; exact Nat.le_of_ble_eq_true hle)
             refine ⟨[],b,x',k,_,by simp,w1,rfl,rfl,rfl,hk,⟨w2.trans hw.1,w3.trans hw.2.1,w4.trans hw.2.2.1,w5.trans hw.2.2.2.1,?_⟩,?_⟩
             · show WkR x'.rows (SB.rows _ _ _)
               rw [rows_nil (k := { k with tl := k.tl.set i (setAtS row j vx.cells) }) hn]
               simp only [List.map_set]
               rw [instL_setAt]
               exact w6
             · refine ⟨?_,[],?_⟩
               · rw [len_nil (k := { k with tl := k.tl.set i (setAtS row j vx.cells) }) hn,len_nil hn]; simp
               · show k.d.val e = _
                 rw [sNil_eq hn]; rfl
           · simp at h
         · simp at h
       · split at h
         · rename_i htl
           split at h
           · rename_i as has
             cases h
             obtain ⟨o,ho,rfl⟩ := runE1 hr
             simp only [List.map_cons] at ho
             rw [atoms_eq has,instL_atoms] at hc1
             obtain ⟨x',w1,w2,w3⟩ := dyn_wr hS hk htl hfz ho (i := i) (by simp [SA.val,D.num]) hc1 hc2
             exact ⟨o,b,x',k,_,rfl,w1,rfl,rfl,rfl,hk,w2,w3⟩
           · simp at h
         · simp at h
     · simp at h
   · simp at h
 · rename_i b y j
   rw [wk_ptr ha]
   split at h
   · rename_i k hk
     split at h
     · rename_i hcond
       simp only [Bool.and_eq_true,Bool.not_eq_true',beq_iff_eq] at hcond
       obtain ⟨⟨⟨hfz,hcl⟩,hone⟩,htl⟩ := hcond
       have hc1 := wk_cells hx hone
       have hc2 := wk_cells_one hS.wf hxk hx hone
       split at h
       · rename_i as has
         cases h
         obtain ⟨o,ho,rfl⟩ := runE1 hr
         simp only [List.map_cons] at ho
         rw [atoms_eq has,instL_atoms] at hc1
         obtain ⟨x',w1,w2,w3⟩ := dyn_wr hS hk htl hfz ho rfl hc1 hc2
         exact ⟨o,b,x',k,_,rfl,w1,rfl,rfl,rfl,hk,w2,w3⟩
       · simp at h
     · simp at h
   · simp at h
 · simp at h
variable (hS : Sat e σ s) (hG : GOK G SG) (hT : TOK P T)
include hS hG hT
theorem ok_load {t : TypeId} {a : Operand} {r : SR} (h : symOp T SG σ e.length id (.load t a) = some r) (hr : runE r.em e = some e') : ∃ res,UpdOK P G id (.load t a) e e' σ s r res := by
 simp only [symOp] at h
 split at h
 · rename_i tf htf
   split at h
   · rename_i hc
     simp only [Bool.and_eq_true] at hc
     have ht := hT _ _ htf
     obtain ⟨av,h1,h2,h3⟩ := sLoad_ok hS (hev hS hG a) (hok hS hG a) h hr
     obtain ⟨o,rfl,_⟩ := runE_len hr
     refine UpdOK.pureR hS h3 (av := av) ?_ h2
     simp only [execA,ht.ti,ht.tu,hc.1,hc.2,and_self,if_true,ht.agg,ht.sz,h1]
   · simp at h
 · simp at h
theorem ok_store {t : TypeId} {a x : Operand} {r : SR} (h : symOp T SG σ e.length id (.store t a x) = some r) (hr : runE r.em e = some e') : ∃ res,UpdOK P G id (.store t a x) e e' σ s r res := by
 simp only [symOp] at h
 split at h
 · rename_i tf htf
   split at h
   · rename_i hc
     have ht := hT _ _ htf
     obtain ⟨o,b,blk,k,k',rfl,h1,h2,h3,h4,h5,h6,h7,h8⟩ := sStore_ok hS (hev hS hG a) (hev hS hG x) (hok hS hG x) h hr
     refine UpdOK.oneR hS h2 (av := .junk) (blk := blk) (ln := lnOf e σ.H) ?_ (ln_same hS h5 h7) (by rw [h4]; exact .junk _) h6 (fun _ => by rw [h7,lnOf_some h5]) h8
     simp only [execA,ht.ti,hc,if_true,ht.sz,h1,h3]
   · simp at h
 · simp at h
end
end Am
