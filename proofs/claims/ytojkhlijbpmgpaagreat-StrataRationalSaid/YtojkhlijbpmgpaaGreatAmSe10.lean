/- The abstract machine and its reader: lemmas. -/
import Derived.Test.YtojkhlijbpmgpaaGreatAmSe9
set_option linter.unusedSimpArgs false
set_option linter.unusedVariables false
set_option linter.unusedSectionVars false
namespace Am
open Go
variable {P : Program} {G : Glob}
section
variable {T : Tab} {SG : SGlob} {σ : SS} {e e' : Env} {s : Sta} {id : Nat}
theorem fill_ok (hS : Sat e σ s) {pl : List (Nat × Nat)} : ∀ {parts : List (Nat × SV)} {ps : List (Nat × AV)} {cs0 cs : List SV} {l : List AV},parts.length = ps.length →
 (∀ (i : Nat) (p : Nat × SV) (q : Nat × AV),parts[i]? = some p → ps[i]? = some q → p.1 = q.1 ∧ Wk q.2 (p.2.inst e (lnOf e σ.H)) ∧ p.2.ok e.length = true) →
 WkL l (SV.instL e (lnOf e σ.H) cs0) → sFill pl cs0 parts = some cs → ∃ l',fillA (fun i => pl[i]?) l ps = some l' ∧ WkL l' (SV.instL e (lnOf e σ.H) cs) := by
 intro parts
 induction parts with
 | nil =>
  intro ps cs0 cs l hl hp hw h
  simp only [sFill] at h; cases h
  have : ps = [] := List.eq_nil_of_length_eq_zero (by simpa using hl.symm)
  subst this
  exact ⟨l,rfl,hw⟩
 | cons p parts ih =>
  intro ps cs0 cs l hl hp hw h
  cases ps with
  | nil => simp at hl
  | cons q ps =>
   obtain ⟨i,v⟩ := p
   obtain ⟨i',a⟩ := q
   obtain ⟨h1,h2,h3⟩ := hp 0 _ _ rfl rfl
   simp only at h1 h2 h3
   subst h1
   simp only [sFill] at h
   split at h
   · rename_i off size hpl
     split at h
     · rename_i hc
       simp only [Bool.and_eq_true,beq_iff_eq] at hc
       have hc1 := wk_cells h2 hc.2
       have hc2 := wk_cells_one hS.wf h3 h2 hc.2
       have e1 : a.cells.length = size := by rw [hc1.1,instL_len]; exact hc.1.1
       have e2 : off + size ≤ l.length := by rw [hw.1,instL_len]; exact Nat.le_of_ble_eq_true hc.1.2
       obtain ⟨l',g1,g2⟩ := ih (ps := ps) (cs0 := setAtS cs0 off v.cells) (cs := cs) (l := setAt l off a.cells) (by simpa using hl)
        (fun j p q hp' hq' => hp (j + 1) p q (by simpa using hp') (by simpa using hq')) (by rw [instL_setAt]; exact hw.setAt hc1 off) h
       refine ⟨l',?_,g2⟩
       simp only [fillA,hpl,e1,e2,hc2,and_self,if_true]
       exact g1
     · simp at h
   · simp at h
theorem bytes_of : ∀ {xs : List (List D)} {l : List UInt8},bytesD xs = some l → bytesA (xs.map (·.map .d)) = some l := by
 intro xs
 induction xs with
 | nil => intro l h; simp [bytesD] at h; subst h; rfl
 | cons r xs ih =>
  intro l h
  unfold bytesD at h
  split at h
  · rename_i hr; simp at hr
  · rename_i c rest hr
    simp only [List.cons.injEq] at hr
    obtain ⟨rfl,rfl⟩ := hr
    split at h
    · rename_i hc
      split at h
      · rename_i l' hl'
        simp only [Option.some.injEq] at h; subst h
        simp only [List.map_cons,List.map_nil,bytesA,hc,and_self,if_true,ih hl']
      · simp at h
    · simp at h
  · simp at h
theorem toS_inv {a : D} {o : List D} (h : PO.eval .toS [a] = some o) : ∃ xs l,a = .sl xs ∧ bytesD xs = some l ∧ o = [.str l] := by
 cases a <;> simp only [PO.eval,reduceCtorEq] at h
 simp only [Option.map_eq_some_iff] at h
 obtain ⟨l,hl,rfl⟩ := h
 exact ⟨_,l,rfl,hl,rfl⟩
theorem toB_inv {a : D} {o : List D} (h : PO.eval .toB [a] = some o) : ∃ l,a = .str l ∧ o = [.sl (l.map fun c => [.int .u8 c.toNat])] := by
 cases a <;> simp only [PO.eval,reduceCtorEq] at h
 exact ⟨_,rfl,(Option.some.inj h).symm⟩
theorem isBytes_eq (hT : TOK P T) {t : Nat} {tf : TF} (ht : TFok P t tf) (h : isBytes T tf = true) : (telem P t).bind (tint P) = some .u8 := by
 unfold isBytes at h
 split at h
 · rename_i e0 he
   split at h
   · rename_i te hte
     simp only [Bool.and_eq_true,decide_eq_true_eq] at h
     rw [ht.elem,he]
     simp only [Option.bind_some,(hT _ _ hte).int,h.1]
   · simp at h
 · simp at h
theorem own_rows (hS : Sat e σ s) {b : Nat} {k : SB} (hk : getB σ.H b = some k) : ∃ x,s.H b = some x ∧ WkB x (k.inst e (lnOf e σ.H)) ∧ x.rows.length = lnOf e σ.H b ∧ rowsOf s.H (.own b (lnOf e σ.H b) 0 (lnOf e σ.H b)) = some (x.rows,[b]) := by
 obtain ⟨x,hb,hwb⟩ := hS.blk hk
 have hl : x.rows.length = lnOf e σ.H b := by rw [lnOf_some hk,← SB.rows_len e (lnOf e σ.H)]; exact hwb.2.2.2.2.1
 refine ⟨x,hb,hwb,hl,?_⟩
 simp only [rowsOf,hb,hl,Nat.zero_add,Nat.le_refl,and_self,if_true,List.drop_zero]
 rw [← hl,List.take_length]
theorem wkR_bytes : ∀ {xs : List (List D)} {X : List (List AV)} {l : List UInt8},bytesD xs = some l → WkR X (xs.map (·.map .d)) → X = xs.map (·.map .d) := by
 intro xs
 induction xs with
 | nil => intro X l _ h; exact List.eq_nil_of_length_eq_zero (by simpa using h.1)
 | cons r xs ih =>
  intro X l hb h
  cases X with
  | nil => have := h.1; simp at this
  | cons y X =>
   unfold bytesD at hb
   split at hb
   · rename_i hr; simp at hr
   · rename_i c rest hr
     simp only [List.cons.injEq] at hr
     obtain ⟨rfl,rfl⟩ := hr
     split at hb
     · split at hb
       · rename_i l' hl'
         have h0 : WkL y [.d (.int .u8 c)] := h.2 0 (by simp) (by simp)
         obtain ⟨a,y',rfl,h1,h2⟩ := h0.inv_cons
         rw [h2.inv_nil,wk_int h1]
         have ht : WkR X (xs.map (·.map .d)) := ⟨by have := h.1; simpa using this,fun i hi hi' => h.2 (i + 1) (by simpa using hi) (by simpa using hi')⟩
         rw [ih hl' ht]
         rfl
       · simp at hb
     · simp at hb
   · simp at hb
section
variable (hS : Sat e σ s) (hG : GOK G SG) (hT : TOK P T)
include hS hG hT
theorem ok_build {t : TypeId} {parts : Array (Nat × Operand)} {r : SR} (h : symOp T SG σ e.length id (.build t parts) = some r) (hr : runE r.em e = some e') : ∃ res,UpdOK P G id (.build t parts) e e' σ s r res := by
 simp only [symOp] at h
 split at h
 · rename_i tf htf
   have ht := hT _ _ htf
   split at h
   · rename_i z pl hz hpl
     split at h
     · rename_i cs0 hcs0
       split at h
       · rename_i cs hcs
         cases h
         obtain rfl := runE0 hr
         have hv : ofVal z = .agg (SV.instL e (lnOf e σ.H) cs0) := by rw [← inst_val (e := e) (ln := lnOf e σ.H),hcs0]; rfl
         obtain ⟨l',h1,h2⟩ := fill_ok hS (pl := pl) (ps := parts.toList.map fun p => (p.1,evA G s.tm p.2)) (l := SV.instL e (lnOf e σ.H) cs0) (by simp) (fun i p q hp hq => by
          simp only [List.getElem?_map,Option.map_eq_some_iff] at hp hq
          obtain ⟨x,hx,rfl⟩ := hp
          obtain ⟨y,hy,rfl⟩ := hq
          rw [hx] at hy; cases hy
          exact ⟨rfl,hev hS hG x.2,hok hS hG x.2⟩) (.refl _) hcs
         refine UpdOK.pure0 hS (av := .agg l') ?_ (.agg _ _ h2.1 h2.2)
         simp only [execA,ht.zero,hz,ht.place pl hpl,hv,h1]; rfl
       · simp at h
     · simp at h
   · simp at h
 · simp at h
theorem ok_convert {t t' : TypeId} {x : Operand} {r : SR} (h : symOp T SG σ e.length id (.convert t t' x) = some r) (hr : runE r.em e = some e') : ∃ res,UpdOK P G id (.convert t t' x) e e' σ s r res := by
 have hw := hev hS hG x
 simp only [symOp] at h
 split at h
 · rename_i ts tt hts htt
   have h1 := hT _ _ hts
   have h2 := hT _ _ htt
   split at h
   · rename_i htu
     split at h
     · rename_i p hp
       rw [hp] at hw
       split at h
       · rename_i k hk
         cases h
         obtain ⟨o,ho,rfl⟩ := runE1 hr
         simp only [List.map_cons,List.map_nil] at ho
         obtain ⟨k',n,h3,rfl⟩ := conv_inv ho
         simp only [SV.inst,h3] at hw
         refine UpdOK.pure hS (av := .d (.int k (k.wrap n))) ?_ (by simp only [SV.inst,val_new]; exact .refl _)
         simp only [execA,wk_int hw,h2.int,hk,h1.tu,htu,if_true]; rfl
       · rename_i hk
         split at h
         · rename_i hs
           split at h
           · cases h
             obtain ⟨o,ho,rfl⟩ := runE1 hr
             simp only [List.map_cons,List.map_nil] at ho
             obtain ⟨l,h3,rfl⟩ := convS_inv ho
             simp only [SV.inst,h3] at hw
             refine UpdOK.pure hS (av := .d (.str l)) ?_ (by simp only [SV.inst,val_new]; exact .refl _)
             simp only [execA,wk_str hw,h2.int,hk,h2.str,hs,h1.tu,htu,if_true]; rfl
           · split at h
             · rename_i hby
               cases h
               obtain ⟨o,ho,rfl⟩ := runE1 hr
               simp only [List.map_cons,List.map_nil] at ho
               obtain ⟨xs,l,h3,h4,rfl⟩ := toS_inv ho
               simp only [SV.inst,h3] at hw
               refine UpdOK.pure hS (av := .d (.str l)) ?_ (by simp only [SV.inst,val_new]; exact .refl _)
               simp only [execA,wk_sl hw,h2.int,hk,h2.str,hs,isBytes_eq hT h1 hby,if_true,rowsOf,bytes_of h4]
             · simp at h
         · rename_i hns
           split at h
           · rename_i hcb
             simp only [Bool.and_eq_true] at hcb
             split at h
             · rename_i e0 he0
               cases h
               obtain ⟨o,ho,rfl⟩ := runE1 hr
               simp only [List.map_cons,List.map_nil] at ho
               obtain ⟨l,h3,rfl⟩ := toB_inv ho
               simp only [SV.inst,h3] at hw
               have hby := isBytes_eq hT h2 hcb.2
               rw [h2.elem,he0,Option.bind_some] at hby
               have hdv : (SA.v e.length).val (e ++ [D.sl (l.map fun c => [.int .u8 c.toNat])]) = .sl (l.map fun c => [.int .u8 c.toNat]) := val_new e _ []
               refine UpdOK.one hS (av := .own id l.length 0 l.length) (blk := { fz := false,ap := false,ty := e0,sz := 1,rows := l.map fun c => [.d (.int .u8 c.toNat)] }) ?_
                (ln := fun x => if x = id then l.length else lnOf e σ.H x) ?_ ?_ ⟨rfl,rfl,rfl,rfl,?_⟩ (by simp [inL]) ⟨_,hdv⟩
               · simp only [execA,wk_str hw,h2.int,hk,h2.str,hns,h1.tu,htu,h1.str,hcb.1,h2.elem,he0,hby,and_self,if_true]
               · funext x
                 rw [len_dyn (k := { fz := false,ap := false,ty := e0,sz := 1,d := .v e.length,tl := [] }) rfl hdv,List.length_map]
               · simp only [SV.inst,if_true]; exact .refl _
               · show WkR _ (SB.rows _ _ _)
                 rw [rows_dyn (k := { fz := false,ap := false,ty := e0,sz := 1,d := .v e.length,tl := [] }) rfl hdv]
                 simp only [List.map_map]
                 exact .refl _
             · simp at h
           · simp at h
     · rename_i b hp
       rw [hp] at hw
       split at h
       · rename_i k hk
         split at h
         · rename_i hc
           simp only [Bool.and_eq_true,Option.isNone_iff_eq_none] at hc
           cases h
           obtain ⟨o,ho,rfl⟩ := runE1 hr
           simp only [List.map_cons,List.map_nil] at ho
           obtain ⟨xs,l,h3,h4,rfl⟩ := toS_inv ho
           obtain ⟨blk,hb1,hwb,hl,hro⟩ := own_rows hS hk
           have hrows : (k.inst e (lnOf e σ.H)).rows = xs.map (·.map .d) := rows_dyn hc.2 h3
           have hR := hwb.2.2.2.2
           rw [hrows] at hR
           rw [wkR_bytes h4 hR] at hro
           refine UpdOK.pure hS (av := .d (.str l)) ?_ (by simp only [SV.inst,val_new]; exact .refl _)
           simp only [execA,wk_own hw,h2.int,hc.1.1.1,h2.str,hc.1.1.2,isBytes_eq hT h1 hc.1.2,if_true,hro,bytes_of h4]
         · simp at h
       · simp at h
     · simp at h
   · simp at h
 · simp at h
theorem lo_ok {lo : Option Operand} {l : SA} {k : IntKind} {n : Int} (h : sLo (sev SG σ) lo = some l) (hv : l.val e = .int k n) : ∃ k',(lo.map (evA G s.tm)).getD (.d (.int .i64 0)) = .d (.int k' n) := by
 cases lo with
 | none => simp only [sLo] at h; cases h; simp only [SA.val] at hv; cases hv; exact ⟨.i64,rfl⟩
 | some x =>
  simp only [sLo] at h
  have hw := hev hS hG x
  unfold SV.atom at h
  split at h
  · rename_i q hq
    cases h
    rw [hq] at hw
    simp only [SV.inst,hv] at hw
    exact ⟨k,by simp only [Option.map_some,Option.getD_some]; exact wk_int hw⟩
  · simp at h
theorem hi_ok {x : Operand} {h0 : SA} {k : IntKind} {n : Int} (h : (sev SG σ x).atom = some h0) (hv : h0.val e = .int k n) : evA G s.tm x = .d (.int k n) := by
 have hw := hev hS hG x
 unfold SV.atom at h
 split at h
 · rename_i q hq
   cases h
   rw [hq] at hw
   simp only [SV.inst,hv] at hw
   exact wk_int hw
 · simp at h
theorem ok_slice {t : TypeId} {x : Operand} {lo hi mx : Option Operand} {r : SR} (h : symOp T SG σ e.length id (.slice t x lo hi mx) = some r) (hok : okEm e.length r.em = true) (hr : runE r.em e = some e') : ∃ res,UpdOK P G id (.slice t x lo hi mx) e e' σ s r res := by
 cases mx with
 | some _ => simp [symOp] at h
 | none =>
 have hw := hev hS hG x
 simp only [symOp] at h
 split at h
 · rename_i tf q htf hq
   rw [hq] at hw
   have ht := hT _ _ htf
   split at h
   · rename_i l hl
     split at h
     · rename_i hs
       split at h
       · cases h
         obtain ⟨o,o',ho,ho',rfl⟩ := runE2 hr
         simp only [List.map_cons,List.map_nil] at ho ho'
         obtain ⟨str,h1,rfl⟩ := lenS_inv ho
         simp only [okEm,PO.okP,List.all_cons,List.all_nil,Bool.and_true,Bool.true_and,Bool.and_eq_true] at hok
         rw [SA.val_ext _ hok.1,val_new] at ho'
         obtain ⟨str',k,n,k',n',h2,h3,h4,h5,rfl⟩ := subS_inv ho'
         rw [h1] at h2; cases h2; cases h4
         simp only [SV.inst,h1] at hw
         have hl0 : l.val e = .int k n := by
          cases lo with
          | none => simp only [sLo] at hl; cases hl; exact h3
          | some y =>
           have hly : l.ok e.length = true := by
            have hyk := hok.2.2.1
            cases l with
            | v z =>
             simp only [sLo] at hl
             have := Am.hok hS hG y
             unfold SV.atom at hl
             split at hl
             · rename_i q' hq'; cases hl; rw [hq'] at this; exact this
             · simp at hl
            | c d => exact hyk
           rw [← SA.val_ext _ hly]; exact h3
         obtain ⟨k0,hlo⟩ := lo_ok hS hG hT hl hl0
         refine UpdOK.pure hS (av := .d (.str ((str.take (str.length : Int).toNat).drop n.toNat))) ?_ ?_
         · simp only [execA,wk_str hw,ht.str,hs,if_true,hlo,Option.map_none,Option.getD_none]
           rw [if_pos h5]; rfl
         · simp only [SV.inst]
           have : (SA.v (e.length + 1)).val (e ++ ([D.int .i64 str.length] ++ [D.str ((str.take (str.length : Int).toNat).drop n.toNat)])) = D.str ((str.take (str.length : Int).toNat).drop n.toNat) := by simp [SA.val]
           rw [this]; exact .refl _
       · rename_i hh
         split at h
         · rename_i h0 hh0
           cases h
           obtain ⟨o,ho,rfl⟩ := runE1 hr
           simp only [List.map_cons,List.map_nil] at ho
           obtain ⟨str,k,n,k',n',h1,h2,h3,h4,rfl⟩ := subS_inv ho
           simp only [SV.inst,h1] at hw
           obtain ⟨k0,hlo⟩ := lo_ok hS hG hT hl h2
           have hhi := hi_ok hS hG hT hh0 h3
           refine UpdOK.pure hS (av := .d (.str ((str.take n'.toNat).drop n.toNat))) ?_ (by simp only [SV.inst,val_new]; exact .refl _)
           simp only [execA,wk_str hw,ht.str,hs,if_true,hlo,Option.map_some,Option.getD_some,hhi]
           rw [if_pos h4]; rfl
         · simp at h
     · split at h
       · rename_i e0 he0
         split at h
         · rename_i te hte
           have hte' := hT _ _ hte
           split at h
           · rename_i hc
             simp only [Bool.and_eq_true,blt_lt] at hc
             have hcond : tin P e0 = true ∧ 0 < tsz P e0 := ⟨by rw [hte'.ti]; exact hc.1,by rw [hte'.sz]; exact hc.2⟩
             split at h
             · cases h
               obtain ⟨o,o',ho,ho',rfl⟩ := runE2 hr
               simp only [List.map_cons,List.map_nil] at ho ho'
               obtain ⟨xs,h1,rfl⟩ := lenL_inv ho
               simp only [okEm,PO.okP,List.all_cons,List.all_nil,Bool.and_true,Bool.true_and,Bool.and_eq_true] at hok
               rw [SA.val_ext _ hok.1,val_new] at ho'
               obtain ⟨xs',k,n,k',n',h2,h3,h4,h5,rfl⟩ := subL_inv ho'
               rw [h1] at h2; cases h2; cases h4
               simp only [SV.inst,h1] at hw
               have hl0 : l.val e = .int k n := by
                cases lo with
                | none => simp only [sLo] at hl; cases hl; exact h3
                | some y =>
                 have hly : l.ok e.length = true := by
                  have hyk := hok.2.2.1
                  cases l with
                  | v z =>
                   simp only [sLo] at hl
                   have := Am.hok hS hG y
                   unfold SV.atom at hl
                   split at hl
                   · rename_i q' hq'; cases hl; rw [hq'] at this; exact this
                   · simp at hl
                  | c d => exact hyk
                 rw [← SA.val_ext _ hly]; exact h3
               obtain ⟨k0,hlo⟩ := lo_ok hS hG hT hl hl0
               refine UpdOK.pure hS (av := .d (.sl ((xs.take (xs.length : Int).toNat).drop n.toNat))) ?_ ?_
               · simp only [execA,wk_sl hw,ht.elem,he0]
                 rw [if_pos hcond]
                 simp only [hlo,Option.map_none,Option.getD_none,hte'.sz]
                 rw [if_pos h5]; rfl
               · simp only [SV.inst]
                 have : (SA.v (e.length + 1)).val (e ++ ([D.int .i64 xs.length] ++ [D.sl ((xs.take (xs.length : Int).toNat).drop n.toNat)])) = D.sl ((xs.take (xs.length : Int).toNat).drop n.toNat) := by simp [SA.val]
                 rw [this]; exact .refl _
             · split at h
               · rename_i h0 hh0
                 cases h
                 obtain ⟨o,ho,rfl⟩ := runE1 hr
                 simp only [List.map_cons,List.map_nil] at ho
                 obtain ⟨xs,k,n,k',n',h1,h2,h3,h4,rfl⟩ := subL_inv ho
                 simp only [SV.inst,h1] at hw
                 obtain ⟨k0,hlo⟩ := lo_ok hS hG hT hl h2
                 have hhi := hi_ok hS hG hT hh0 h3
                 refine UpdOK.pure hS (av := .d (.sl ((xs.take n'.toNat).drop n.toNat))) ?_ (by simp only [SV.inst,val_new]; exact .refl _)
                 simp only [execA,wk_sl hw,ht.elem,he0]
                 rw [if_pos hcond]
                 simp only [hlo,Option.map_some,Option.getD_some,hhi,hte'.sz]
                 rw [if_pos h4]; rfl
               · simp at h
           · simp at h
         · simp at h
       · simp at h
   · simp at h
 · simp at h
end
end
end Am
