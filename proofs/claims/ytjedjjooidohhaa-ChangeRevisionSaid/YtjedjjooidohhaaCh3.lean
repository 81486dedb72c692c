/- Plain programs of the functions of the program and lemmas about what they compute. -/
import Derived.Test.YtjedjjooidohhaaCh
set_option linter.unusedSimpArgs false
set_option linter.unusedVariables false
set_option linter.unusedSectionVars false
namespace Go.Proofs.Ytjedjjooidohhaa
open Go Am
set_option maxRecDepth 100000
set_option linter.unusedSimpArgs false
set_option linter.unusedVariables false
theorem revision_run (l0 : List Int) : run tb 7 [numsD l0] = some [.bool true] := by
  obtain ⟨l, n, rs, f, g, p, q, b, c, e, hl, hn, hrs, hf, hg, e1, e2, e3, e4, e5⟩ := given33 l0
  refine run_ir (x := ir7) rfl ?_
  have hn6 : n ≤ 6 := by omega
  have hv := vocN_ok hn6
  have ho := some_ok hn6 hrs
  obtain ⟨f1, f2, f3, f4, f5, f6⟩ := made_models hn6 (Nat.le_refl 3) hf
  obtain ⟨g1, g2, g3, g4, g5, g6⟩ := made_models hn6 (Nat.le_refl 3) hg
  have hpow := pow3 hn6
  have hp6 := pow6 hn6
  have hnl : (normS rs).length < 1000000000 := by rw [norm_len]; omega
  have hvl := (short_ok hv).1
  have hce : ∀ h : F, modelsE (vocN n) h = 0 → chE (vocN n) (normS rs) h = 0 := fun h hh => by unfold chE; rw [ho, hh]; rfl
  have hL := leastS_lst ho
  have hA := has_all ho
  have hM : ∀ w, has (modN (vocN n) f (2 ^ n)) w → w < (normS rs).length := fun w hw => by
    rw [norm_len, hrs]; exact ((has_bits (pow6 hn6)).1 hw).1
  have hbel := beliefs3_run (vocN n) (normS rs) hvl (short_ok hv).2 hnl
  have hmod := modelsR_run (vocN n) f hvl (short_ok hv).2 (by omega) (good_nameB f1)
  have hmog := modelsR_run (vocN n) g hvl (short_ok hv).2 (by omega) (good_nameB g1)
  have hall := all3_run (vocN n) hvl (short_ok hv).2
  have hma : modN (vocN n) f (2 ^ n) &&& allS (vocN n) = modN (vocN n) f (2 ^ n) := set_eq fun w => by
    rw [has_and]; exact ⟨fun h => h.1, fun h => ⟨h, (hA w).2 (hM w h)⟩⟩
  rw [f5, f6] at hmod
  rw [g5, g6] at hmog
  have aw := awake33_run
  have tht := theory33_run (vocN n) (numsD (normS rs)) hv (modN (vocN n) f (2 ^ n))
  rw [hma] at tht
  obtain ⟨t1, t2⟩ := thy_models hv (modN (vocN n) f (2 ^ n))
  rw [hma] at t2
  have ht := (thy_ok (vocOk_names hv) (modN (vocN n) f (2 ^ n))).2.1
  rw [vocN_len] at ht
  obtain ⟨p1, p2⟩ := pr5_models hv f1 g1 f2 g2 f3 g3 f4 g4
  rw [vocN_len] at p2
  have hps : (pr 5 f g).size < 1000000000 := by simp only [pr, F.size, F.sizes]; omega
  have rf := revise_run (vocN n) (normS rs) f hvl hnl (by omega)
  have xf := expand_run (vocN n) (normS rs) f hvl hnl (by omega)
  have rp := revise_run (vocN n) (normS rs) (pr 5 f g) hvl hnl hps
  have rt := revise_run (vocN n) (normS rs) (thy (vocN n) (modN (vocN n) f (2 ^ n))) hvl hnl (by omega)
  rw [hce _ f5, if_pos rfl, f6] at rf xf
  rw [hce _ p1, if_pos rfl, p2] at rp
  rw [hce _ t1, if_pos rfl, t2] at rt
  have k1 := rev1 hL (M := modN (vocN n) f (2 ^ n))
  have k2 := rev2 hL (M := modN (vocN n) f (2 ^ n))
  have k3 := rev3 hL (M := modN (vocN n) f (2 ^ n))
  have k4 := rev4 hL hM
  have k6 := rev6 hL (M := modN (vocN n) f (2 ^ n)) (K := modN (vocN n) g (2 ^ n))
  have k7 := rev7 hL (M := modN (vocN n) f (2 ^ n)) (K := modN (vocN n) g (2 ^ n))
  have hprf : PO.eval (.mk 3 2) [.int .i64 f.op, .str f.name, .sl (F.encs f.args), .int .i64 g.op, .str g.name, .sl (F.encs g.args)] = some [.sl (F.encs [f, g])] := by rw [ev_mk32]; simp [F.encs, F.enc_eq]
  have hrp : rowF (pr 5 f g) = [.int .i64 5, .str [], .sl (F.encs [f, g])] := rfl
  rw [hrp] at rp
  unfold beliefsS at hbel xf
  simp only [rowF, List.cons_append, List.nil_append] at rf xf rp rt hmod hmog tht
  clear hce hL hA hM hma t2 f6 g6 p2
  generalize thy (vocN n) (modN (vocN n) f (2 ^ n)) = tf at *
  generalize leastS (vocN n) (normS rs) (modN (vocN n) f (2 ^ n) &&& modN (vocN n) g (2 ^ n)) = R2 at *
  generalize leastS (vocN n) (normS rs) (modN (vocN n) f (2 ^ n)) = R at *
  generalize leastS (vocN n) (normS rs) (BitVec.allOnes 64) = B at *
  generalize modN (vocN n) f (2 ^ n) = M at *
  generalize modN (vocN n) g (2 ^ n) = K at *
  generalize allS (vocN n) = A at *
  generalize hX : B &&& M = X at *
  by_cases d1 : X = 0#64
  · by_cases d2 : R = 0#64
    · have k4' := k4 d2
      by_cases d3 : R &&& K = 0#64
      · simp (disch := omega) only [ir7, ir7p0, stepQ, List.map_cons, List.map_nil, List.cons_append, List.nil_append, List.append_nil, List.length_map, List.getElem?_cons_zero, List.getElem?_cons_succ, eq_self, aBin, aUn_not, aUn_neg, reduceIte, Int.reduceEq, Int.reduceLT, Int.reduceLE, Int.reduceGT, Int.reduceGE, bvQ, wu, shl_norm, shr_norm, and1_norm, e1, e2, e3, e4, e5, hmod, hmog, rf, xf, hprf, rp, tht, rt, callQ_tvi, ibne, k1, k2, k6, aw, eq_true d1, eq_true d2, eq_true k4', eq_true d3]
      · have k7' := k7 d3
        simp (disch := omega) only [ir7, ir7p0, stepQ, List.map_cons, List.map_nil, List.cons_append, List.nil_append, List.append_nil, List.length_map, List.getElem?_cons_zero, List.getElem?_cons_succ, eq_self, aBin, aUn_not, aUn_neg, reduceIte, Int.reduceEq, Int.reduceLT, Int.reduceLE, Int.reduceGT, Int.reduceGE, bvQ, wu, shl_norm, shr_norm, and1_norm, e1, e2, e3, e4, e5, hmod, hmog, rf, xf, hprf, rp, tht, rt, callQ_tvi, ibne, k1, k2, k6, aw, eq_true d1, eq_true d2, eq_true k4', d3, k7']
    · by_cases d3 : R &&& K = 0#64
      · simp (disch := omega) only [ir7, ir7p0, stepQ, List.map_cons, List.map_nil, List.cons_append, List.nil_append, List.append_nil, List.length_map, List.getElem?_cons_zero, List.getElem?_cons_succ, eq_self, aBin, aUn_not, aUn_neg, reduceIte, Int.reduceEq, Int.reduceLT, Int.reduceLE, Int.reduceGT, Int.reduceGE, bvQ, wu, shl_norm, shr_norm, and1_norm, e1, e2, e3, e4, e5, hmod, hmog, rf, xf, hprf, rp, tht, rt, callQ_tvi, ibne, k1, k2, k6, aw, eq_true d1, d2, eq_true d3]
      · have k7' := k7 d3
        simp (disch := omega) only [ir7, ir7p0, stepQ, List.map_cons, List.map_nil, List.cons_append, List.nil_append, List.append_nil, List.length_map, List.getElem?_cons_zero, List.getElem?_cons_succ, eq_self, aBin, aUn_not, aUn_neg, reduceIte, Int.reduceEq, Int.reduceLT, Int.reduceLE, Int.reduceGT, Int.reduceGE, bvQ, wu, shl_norm, shr_norm, and1_norm, e1, e2, e3, e4, e5, hmod, hmog, rf, xf, hprf, rp, tht, rt, callQ_tvi, ibne, k1, k2, k6, aw, eq_true d1, d2, d3, k7']
  · have k3' := k3 d1
    subst k3'
    by_cases d3 : R &&& K = 0#64
    · simp (disch := omega) only [ir7, ir7p0, stepQ, List.map_cons, List.map_nil, List.cons_append, List.nil_append, List.append_nil, List.length_map, List.getElem?_cons_zero, List.getElem?_cons_succ, eq_self, aBin, aUn_not, aUn_neg, reduceIte, Int.reduceEq, Int.reduceLT, Int.reduceLE, Int.reduceGT, Int.reduceGE, bvQ, wu, shl_norm, shr_norm, and1_norm, e1, e2, e3, e4, e5, hmod, hmog, rf, xf, hprf, rp, tht, rt, callQ_tvi, ibne, k1, k2, k6, aw, d1, eq_true d3]
    · have k7' := k7 d3
      simp (disch := omega) only [ir7, ir7p0, stepQ, List.map_cons, List.map_nil, List.cons_append, List.nil_append, List.append_nil, List.length_map, List.getElem?_cons_zero, List.getElem?_cons_succ, eq_self, aBin, aUn_not, aUn_neg, reduceIte, Int.reduceEq, Int.reduceLT, Int.reduceLE, Int.reduceGT, Int.reduceGE, bvQ, wu, shl_norm, shr_norm, and1_norm, e1, e2, e3, e4, e5, hmod, hmog, rf, xf, hprf, rp, tht, rt, callQ_tvi, ibne, k1, k2, k6, aw, d1, d3, k7']
theorem identities_run (l0 : List Int) : run tb 6 [numsD l0] = some [.bool true] := by
  obtain ⟨l, n, rs, f, g, p, q, b, c, e, hl, hn, hrs, hf, hg, e1, e2, e3, e4, e5⟩ := given33 l0
  refine run_ir (x := ir6) rfl ?_
  have hn6 : n ≤ 6 := by omega
  have hv := vocN_ok hn6
  have ho := some_ok hn6 hrs
  obtain ⟨f1, f2, f3, f4, f5, f6⟩ := made_models hn6 (Nat.le_refl 3) hf
  obtain ⟨g1, g2, g3, g4, g5, g6⟩ := made_models hn6 (Nat.le_refl 3) hg
  have hpow := pow3 hn6
  have hp6 := pow6 hn6
  have hnl : (normS rs).length < 1000000000 := by rw [norm_len]; omega
  have hvl := (short_ok hv).1
  have hce : ∀ h : F, modelsE (vocN n) h = 0 → chE (vocN n) (normS rs) h = 0 := fun h hh => by unfold chE; rw [ho, hh]; rfl
  have hL := leastS_lst ho
  have hA := has_all ho
  have hM : ∀ w, has (modN (vocN n) f (2 ^ n)) w → w < (normS rs).length := fun w hw => by
    rw [norm_len, hrs]; exact ((has_bits (pow6 hn6)).1 hw).1
  have hbel := beliefs3_run (vocN n) (normS rs) hvl (short_ok hv).2 hnl
  have hmod := modelsR_run (vocN n) f hvl (short_ok hv).2 (by omega) (good_nameB f1)
  have hmog := modelsR_run (vocN n) g hvl (short_ok hv).2 (by omega) (good_nameB g1)
  have hall := all3_run (vocN n) hvl (short_ok hv).2
  have hma : modN (vocN n) f (2 ^ n) &&& allS (vocN n) = modN (vocN n) f (2 ^ n) := set_eq fun w => by
    rw [has_and]; exact ⟨fun h => h.1, fun h => ⟨h, (hA w).2 (hM w h)⟩⟩
  rw [f5, f6] at hmod
  rw [g5, g6] at hmog
  have aw := awake33_run
  obtain ⟨n1, n2⟩ := ng_models hv f1 f2 f3 f4
  rw [vocN_len] at n2
  have hns : (ng f).size < 1000000000 := by simp only [ng, F.size, F.sizes]; omega
  have rf := revise_run (vocN n) (normS rs) f hvl hnl (by omega)
  have rn := revise_run (vocN n) (normS rs) (ng f) hvl hnl hns
  have cf := contract_run (vocN n) (normS rs) f hvl hnl (by omega)
  have cn := contract_run (vocN n) (normS rs) (ng f) hvl hnl hns
  rw [hce _ f5, if_pos rfl, f6] at rf cf
  rw [hce _ n1, if_pos rfl, n2] at rn cn
  have k1 := ide1 hL hA hM
  have k2 := con4 hL hA (M := modN (vocN n) f (2 ^ n))
  have hrn : rowF (ng f) = [.int .i64 4, .str [], .sl [[.int .i64 f.op, .str f.name, .sl (F.encs f.args)]]] := by simp [ng, rowF, F.op_mk, F.name_mk, F.args_mk, F.encs, F.enc_eq]
  rw [hrn] at rn cn
  unfold beliefsS at hbel cf cn
  simp only [rowF, List.cons_append, List.nil_append] at rf rn cf cn hmod
  clear hce hL hA hM hma f6 g6 n2 hmog
  simp (disch := omega) only [ir6, stepQ, List.map_cons, List.map_nil, List.cons_append, List.nil_append, List.append_nil, List.length_map, List.getElem?_cons_zero, List.getElem?_cons_succ, eq_self, aBin, aUn_not, aUn_neg, reduceIte, Int.reduceEq, Int.reduceLT, Int.reduceLE, Int.reduceGT, Int.reduceGE, bvQ, wu, shl_norm, shr_norm, and1_norm, e1, e2, e3, e4, hbel, hmod, rf, cn, cf, rn, callQ_tvi, ibne, k1, k2, aw]
theorem withdrawal_run (l0 : List Int) : run tb 5 [numsD l0] = some [.bool true] := by
  obtain ⟨l, n, rs, f, g, p, q, b, c, e, hl, hn, hrs, hf, hg, e1, e2, e3, e4, e5⟩ := given33 l0
  refine run_ir (x := ir5) rfl ?_
  have hn6 : n ≤ 6 := by omega
  have hv := vocN_ok hn6
  have ho := some_ok hn6 hrs
  obtain ⟨f1, f2, f3, f4, f5, f6⟩ := made_models hn6 (Nat.le_refl 3) hf
  obtain ⟨g1, g2, g3, g4, g5, g6⟩ := made_models hn6 (Nat.le_refl 3) hg
  have hpow := pow3 hn6
  have hp6 := pow6 hn6
  have hnl : (normS rs).length < 1000000000 := by rw [norm_len]; omega
  have hvl := (short_ok hv).1
  have hce : ∀ h : F, modelsE (vocN n) h = 0 → chE (vocN n) (normS rs) h = 0 := fun h hh => by unfold chE; rw [ho, hh]; rfl
  have hL := leastS_lst ho
  have hA := has_all ho
  have hM : ∀ w, has (modN (vocN n) f (2 ^ n)) w → w < (normS rs).length := fun w hw => by
    rw [norm_len, hrs]; exact ((has_bits (pow6 hn6)).1 hw).1
  have hbel := beliefs3_run (vocN n) (normS rs) hvl (short_ok hv).2 hnl
  have hmod := modelsR_run (vocN n) f hvl (short_ok hv).2 (by omega) (good_nameB f1)
  have hmog := modelsR_run (vocN n) g hvl (short_ok hv).2 (by omega) (good_nameB g1)
  have hall := all3_run (vocN n) hvl (short_ok hv).2
  have hma : modN (vocN n) f (2 ^ n) &&& allS (vocN n) = modN (vocN n) f (2 ^ n) := set_eq fun w => by
    rw [has_and]; exact ⟨fun h => h.1, fun h => ⟨h, (hA w).2 (hM w h)⟩⟩
  rw [f5, f6] at hmod
  rw [g5, g6] at hmog
  have aw := awake33_run
  have tht := theory33_run (vocN n) (numsD (normS rs)) hv (modN (vocN n) f (2 ^ n))
  rw [hma] at tht
  obtain ⟨t1, t2⟩ := thy_models hv (modN (vocN n) f (2 ^ n))
  rw [hma] at t2
  have ht := (thy_ok (vocOk_names hv) (modN (vocN n) f (2 ^ n))).2.1
  rw [vocN_len] at ht
  have wf := withdraw_run (vocN n) (normS rs) f hvl hnl (by omega)
  have wg := withdraw_run (vocN n) (normS rs) g hvl hnl (by omega)
  have cf := contract_run (vocN n) (normS rs) f hvl hnl (by omega)
  have wt := withdraw_run (vocN n) (normS rs) (thy (vocN n) (modN (vocN n) f (2 ^ n))) hvl hnl (by omega)
  rw [hce _ f5, if_pos rfl, f6] at wf cf
  rw [hce _ g5, if_pos rfl, g6] at wg
  rw [hce _ t1, if_pos rfl, t2] at wt
  have hW := withS_wth ho (modN (vocN n) f (2 ^ n))
  have hV := withS_wth ho (modN (vocN n) g (2 ^ n))
  have k1 := wit1 hL hW
  have k2 := wit2 hL hW
  have k3 := wit3 hL hA hM hW
  have k5 := wit5 hL hA hW
  have k6 := wit6 hW hV
  unfold beliefsS at hbel cf
  simp only [rowF, List.cons_append, List.nil_append] at wf wg cf wt hmod tht
  clear hce hL hA hM hma t2 f6 g6 hmog hW hV
  generalize thy (vocN n) (modN (vocN n) f (2 ^ n)) = tf at *
  generalize leastS (vocN n) (normS rs) (allS (vocN n) &&& ~~~modN (vocN n) f (2 ^ n)) = La at *
  generalize withS (vocN n) (normS rs) (modN (vocN n) f (2 ^ n)) = W at *
  generalize withS (vocN n) (normS rs) (modN (vocN n) g (2 ^ n)) = V at *
  generalize leastS (vocN n) (normS rs) (BitVec.allOnes 64) = B at *
  generalize modN (vocN n) f (2 ^ n) = M at *
  generalize modN (vocN n) g (2 ^ n) = K at *
  generalize allS (vocN n) = A at *
  by_cases d1 : B &&& ~~~M = 0#64
  · by_cases d2 : M = A
    · subst d2
      by_cases d3 : W &&& ~~~V = 0#64
      · simp (disch := omega) only [ir5, ir5p0, stepQ, List.map_cons, List.map_nil, List.cons_append, List.nil_append, List.append_nil, List.length_map, List.getElem?_cons_zero, List.getElem?_cons_succ, eq_self, aBin, aUn_not, aUn_neg, reduceIte, Int.reduceEq, Int.reduceLT, Int.reduceLE, Int.reduceGT, Int.reduceGE, bvQ, wu, shl_norm, shr_norm, and1_norm, e1, e2, e3, e4, e5, hbel, hmod, hall, wf, wg, cf, tht, wt, ibne, k1, k5, aw, d1, d3]
      · have k6' := k6 d3
        simp (disch := omega) only [ir5, ir5p0, stepQ, List.map_cons, List.map_nil, List.cons_append, List.nil_append, List.append_nil, List.length_map, List.getElem?_cons_zero, List.getElem?_cons_succ, eq_self, aBin, aUn_not, aUn_neg, reduceIte, Int.reduceEq, Int.reduceLT, Int.reduceLE, Int.reduceGT, Int.reduceGE, bvQ, wu, shl_norm, shr_norm, and1_norm, e1, e2, e3, e4, e5, hbel, hmod, hall, wf, wg, cf, tht, wt, ibne, k1, k5, aw, d1, d3, k6']
    · have k3' := k3 d2
      by_cases d3 : W &&& ~~~V = 0#64
      · simp (disch := omega) only [ir5, ir5p0, stepQ, List.map_cons, List.map_nil, List.cons_append, List.nil_append, List.append_nil, List.length_map, List.getElem?_cons_zero, List.getElem?_cons_succ, eq_self, aBin, aUn_not, aUn_neg, reduceIte, Int.reduceEq, Int.reduceLT, Int.reduceLE, Int.reduceGT, Int.reduceGE, bvQ, wu, shl_norm, shr_norm, and1_norm, e1, e2, e3, e4, e5, hbel, hmod, hall, wf, wg, cf, tht, wt, ibne, k1, k5, aw, d1, d2, k3', d3]
      · have k6' := k6 d3
        simp (disch := omega) only [ir5, ir5p0, stepQ, List.map_cons, List.map_nil, List.cons_append, List.nil_append, List.append_nil, List.length_map, List.getElem?_cons_zero, List.getElem?_cons_succ, eq_self, aBin, aUn_not, aUn_neg, reduceIte, Int.reduceEq, Int.reduceLT, Int.reduceLE, Int.reduceGT, Int.reduceGE, bvQ, wu, shl_norm, shr_norm, and1_norm, e1, e2, e3, e4, e5, hbel, hmod, hall, wf, wg, cf, tht, wt, ibne, k1, k5, aw, d1, d2, k3', d3, k6']
  · have k2' := k2 d1
    subst k2'
    by_cases d2 : M = A
    · subst d2
      by_cases d3 : W &&& ~~~V = 0#64
      · simp (disch := omega) only [ir5, ir5p0, stepQ, List.map_cons, List.map_nil, List.cons_append, List.nil_append, List.append_nil, List.length_map, List.getElem?_cons_zero, List.getElem?_cons_succ, eq_self, aBin, aUn_not, aUn_neg, reduceIte, Int.reduceEq, Int.reduceLT, Int.reduceLE, Int.reduceGT, Int.reduceGE, bvQ, wu, shl_norm, shr_norm, and1_norm, e1, e2, e3, e4, e5, hbel, hmod, hall, wf, wg, cf, tht, wt, ibne, k1, k5, aw, d1, d3]
      · have k6' := k6 d3
        simp (disch := omega) only [ir5, ir5p0, stepQ, List.map_cons, List.map_nil, List.cons_append, List.nil_append, List.append_nil, List.length_map, List.getElem?_cons_zero, List.getElem?_cons_succ, eq_self, aBin, aUn_not, aUn_neg, reduceIte, Int.reduceEq, Int.reduceLT, Int.reduceLE, Int.reduceGT, Int.reduceGE, bvQ, wu, shl_norm, shr_norm, and1_norm, e1, e2, e3, e4, e5, hbel, hmod, hall, wf, wg, cf, tht, wt, ibne, k1, k5, aw, d1, d3, k6']
    · have k3' := k3 d2
      by_cases d3 : W &&& ~~~V = 0#64
      · simp (disch := omega) only [ir5, ir5p0, stepQ, List.map_cons, List.map_nil, List.cons_append, List.nil_append, List.append_nil, List.length_map, List.getElem?_cons_zero, List.getElem?_cons_succ, eq_self, aBin, aUn_not, aUn_neg, reduceIte, Int.reduceEq, Int.reduceLT, Int.reduceLE, Int.reduceGT, Int.reduceGE, bvQ, wu, shl_norm, shr_norm, and1_norm, e1, e2, e3, e4, e5, hbel, hmod, hall, wf, wg, cf, tht, wt, ibne, k1, k5, aw, d1, d2, k3', d3]
      · have k6' := k6 d3
        simp (disch := omega) only [ir5, ir5p0, stepQ, List.map_cons, List.map_nil, List.cons_append, List.nil_append, List.append_nil, List.length_map, List.getElem?_cons_zero, List.getElem?_cons_succ, eq_self, aBin, aUn_not, aUn_neg, reduceIte, Int.reduceEq, Int.reduceLT, Int.reduceLE, Int.reduceGT, Int.reduceGE, bvQ, wu, shl_norm, shr_norm, and1_norm, e1, e2, e3, e4, e5, hbel, hmod, hall, wf, wg, cf, tht, wt, ibne, k1, k5, aw, d1, d2, k3', d3, k6']
end Go.Proofs.Ytjedjjooidohhaa
