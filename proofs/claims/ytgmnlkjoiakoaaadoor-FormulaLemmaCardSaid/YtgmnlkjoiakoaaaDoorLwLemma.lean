/- Plain programs of the functions of the program and lemmas about what they compute. -/
import Derived.Test.YtgmnlkjoiakoaaaDoorPl10
import Derived.Test.YtgmnlkjoiakoaaaDoorPlAw
import Derived.Test.YtgmnlkjoiakoaaaDoorRw0
set_option linter.unusedSimpArgs false
set_option linter.unusedVariables false
set_option linter.unusedSectionVars false
namespace Go.Proofs.YtgmnlkjoiakoaaaDoor
open Go Am
set_option maxRecDepth 100000
set_option linter.unusedSimpArgs false
set_option linter.unusedVariables false
/-- the atoms that are true where the atom has the value of g -/
def withP (ys : List (List UInt8)) (p : List UInt8) (b : Bool) : List (List UInt8) := (ys.filter fun s => !(s == p)) ++ if b then [p] else []
theorem withP_p (ys : List (List UInt8)) (p : List UInt8) (b : Bool) : (withP ys p b).contains p = b := by
  cases b <;> simp [withP]
theorem withP_s (ys : List (List UInt8)) (p : List UInt8) (b : Bool) (s : List UInt8) (h : s ≠ p) : (withP ys p b).contains s = ys.contains s := by
  cases b <;> simp [withP, h]
theorem lemma_run (l0 : List Int) (aw : run tb 20 [] = some [.bool true]) : run tb 5 [numsD l0] = some [.bool true] := by
  obtain ⟨l, hl, hn⟩ := new_run l0
  obtain ⟨f, p, hp, hf, hrf⟩ := formula_run 4 (by omega) (by omega) l hl 3 (by omega) 0 (by omega)
  obtain ⟨g, q, hq, hg, hrg⟩ := formula_run 4 (by omega) (by omega) l hl 3 (by omega) p hp
  have sf : f.size ≤ 256 := hf.2.2.1
  have sg : g.size ≤ 256 := hg.2.2.1
  obtain ⟨hf, -⟩ := hf
  obtain ⟨hg, -⟩ := hg
  have hl4 : ((4 : Nat) : Int) = 4 := rfl
  have key := loop_k (run := run tb) (body := ir5p3) (e := [numsD l0, numsD l, .int .i64 0] ++ rowF f ++ [numsD l, .int .i64 p] ++ rowF g ++ [numsD l, .int .i64 q]) (J := []) (σ := Nat) 4
    (fun i s => s ≤ l.length) (fun i s => [.int .i64 i, numsD l, .int .i64 s]) (fun _ _ => [.bool true])
    (by
      intro i s L hi hs hL
      have hi' : (i : Int) < 4 := by omega
      obtain ⟨r, b, r0, r1, hb, hr⟩ := n_run 4 l s hl hs (by omega) (by omega)
      obtain ⟨ys, b2, hy, hb2, hyr⟩ := yes_run l b hl hb
      generalize hP : (97 + r).toNat.toUInt8 = c
      have inner := loop_k (run := run tb) (body := ir5p2) (e := [numsD l0, numsD l, .int .i64 0] ++ rowF f ++ [numsD l, .int .i64 p] ++ rowF g ++ [numsD l, .int .i64 q, .int .i64 i, numsD l, .int .i64 s, .bool true, .int .i64 r, numsD l, .int .i64 b, .int .i64 (97 + r), .int .u8 (97 + r), .sl [[.int .u8 (97 + r)]], .str [c], strsD ys, numsD l, .int .i64 b2, .int .i64 ys.length]) (J := [L]) (σ := Unit) ys.length
        (fun _ _ => True) (fun j _ => [.int .i64 j, strsD ((ys.take j).filter fun s => !(s == [c]))]) (fun _ _ => [.bool true])
        (by
          intro j u M hj _ hM
          have ht : ((ys.take j).filter fun s => !(s == [c])).length < 1000000000000 := by
            have := List.length_filter_le (fun s => !(s == [c])) (ys.take j)
            simp only [List.length_take] at this; omega
          have hnext := hM () trivial
          rw [← take_snoc hj, List.filter_append] at hnext
          cases hc : ys[j] == [c] with
          | true =>
            simp only [hc, List.filter_cons, List.filter_nil, Bool.not_true, if_false, Bool.false_eq_true, List.append_nil] at hnext
            simp (disch := omega) only [ir5p2, ir5p0, rowF, k_op, k_call, k_ite, k_letj, k_jump, k_ret, k_loop, opQ_s, iteQ_t, iteQ_f, jumpQ_s, contQ_a, val_c, val_v, List.map_cons, List.map_nil, getD_0, getD_s, List.cons_append, List.nil_append, List.append_nil, ev_binI, ev_binS, aBin, one1_s, reduceIte, callQ_0, callQ_1, callQ_2, callQ_3, callQ_4, callQ_5, callQ_6, callQ_7, callQ_8, callQ_9, ev_un, aUn, ev_lenS, ev_lenL, F.encs_len, List.length_map, Int.natCast_eq_zero, nat_lt, nat_le, nat_gt, nat_ge, nat_eq, ev_cat, ev_min, ev_max, ev_pick, ev_mk1, ev_mk3, ev_conv, ev_convS, List.getElem?_cons_zero, List.getElem?_cons_succ, decide_true, decide_false, Int.cast_ofNat_Int, nat0, natP, ibeq, eq_self, Int.reduceEq, Int.reduceLT, Int.reduceLE, Int.reduceGT, Int.reduceGE, Bool.not_true, Bool.not_false, Bool.true_and, Bool.false_and, Bool.and_true, Bool.and_false, Bool.true_or, Bool.false_or, Bool.or_true, Bool.or_false, beq_tt, beq_tf, beq_ft, beq_ff, bne_tt, bne_tf, bne_ft, bne_ff, ff_eq_tt, tt_eq_ff, hj, row_S, hc, wr, natS, hnext]
          | false =>
            simp only [hc, List.filter_cons, List.filter_nil, Bool.not_false, if_true] at hnext
            simp (disch := omega) only [ir5p2, ir5p0, rowF, k_op, k_call, k_ite, k_letj, k_jump, k_ret, k_loop, opQ_s, iteQ_t, iteQ_f, jumpQ_s, contQ_a, val_c, val_v, List.map_cons, List.map_nil, getD_0, getD_s, List.cons_append, List.nil_append, List.append_nil, ev_binI, ev_binS, aBin, one1_s, reduceIte, callQ_0, callQ_1, callQ_2, callQ_3, callQ_4, callQ_5, callQ_6, callQ_7, callQ_8, callQ_9, ev_un, aUn, ev_lenS, ev_lenL, F.encs_len, List.length_map, Int.natCast_eq_zero, nat_lt, nat_le, nat_gt, nat_ge, nat_eq, ev_cat, ev_min, ev_max, ev_pick, ev_mk1, ev_mk3, ev_conv, ev_convS, List.getElem?_cons_zero, List.getElem?_cons_succ, decide_true, decide_false, Int.cast_ofNat_Int, nat0, natP, ibeq, eq_self, Int.reduceEq, Int.reduceLT, Int.reduceLE, Int.reduceGT, Int.reduceGE, Bool.not_true, Bool.not_false, Bool.true_and, Bool.false_and, Bool.and_true, Bool.and_false, Bool.true_or, Bool.false_or, Bool.or_true, Bool.or_false, beq_tt, beq_tf, beq_ft, beq_ff, bne_tt, bne_tf, bne_ft, bne_ff, ff_eq_tt, tt_eq_ff, hj, row_S, hc, wr, natS, app_S, hnext])
        (by
          intro u M _
          have hle : (ys.filter fun s => !(s == [c])).length ≤ ys.length := List.length_filter_le _ _
          have eg := eval_run ys (by omega) g (by omega) hg
          have hs2 : (F.subst [c] g f).size ≤ 65536 := Nat.le_trans (size_subst [c] g f) (Nat.mul_le_mul sf sg)
          have es := eval_run ys (by omega) (F.subst [c] g f) (by omega) (good_subst [c] hg f hf)
          have hv := val_subst ys (withP ys [c] (g.val ys)) [c] g (withP_p _ _ _) (fun s h => withP_s _ _ _ s h) f hf
          have ef := eval_run (withP ys [c] (g.val ys)) (by unfold withP; rw [List.length_append]; split <;> simp <;> omega) f (by omega) hf
          rw [← hv] at ef
          have hsub := subst_run [c] f g (by omega) (by omega)
          have hnext := hL b2 hb2
          rw [F.enc_eq] at eg es ef
          simp only [rowF, List.cons_append, List.nil_append] at eg es ef hsub
          have hw := app_S (l := ys.filter fun s => !(s == [c])) (s := [c]) (by omega)
          cases hb : g.val ys with
          | true =>
            simp only [hb, withP, if_true] at ef eg
            cases hx : F.val ys (F.subst [c] g f) <;>
            · simp only [hx] at ef es
              simp (disch := omega) only [ir5p2, ir5p1, ir5p0, rowF, k_op, k_call, k_ite, k_letj, k_jump, k_ret, k_loop, opQ_s, iteQ_t, iteQ_f, jumpQ_s, contQ_a, val_c, val_v, List.map_cons, List.map_nil, getD_0, getD_s, List.cons_append, List.nil_append, List.append_nil, ev_binI, ev_binS, aBin, one1_s, reduceIte, callQ_0, callQ_1, callQ_2, callQ_3, callQ_4, callQ_5, callQ_6, callQ_7, callQ_8, callQ_9, ev_un, aUn, ev_lenS, ev_lenL, F.encs_len, List.length_map, Int.natCast_eq_zero, nat_lt, nat_le, nat_gt, nat_ge, nat_eq, ev_cat, ev_min, ev_max, ev_pick, ev_mk1, ev_mk3, ev_conv, ev_convS, List.getElem?_cons_zero, List.getElem?_cons_succ, decide_true, decide_false, Int.cast_ofNat_Int, nat0, natP, ibeq, eq_self, Int.reduceEq, Int.reduceLT, Int.reduceLE, Int.reduceGT, Int.reduceGE, Bool.not_true, Bool.not_false, Bool.true_and, Bool.false_and, Bool.and_true, Bool.and_false, Bool.true_or, Bool.false_or, Bool.or_true, Bool.or_false, beq_tt, beq_tf, beq_ft, beq_ff, bne_tt, bne_tf, bne_ft, bne_ff, ff_eq_tt, tt_eq_ff, Nat.lt_irrefl, take_all, eg, hw, ef, es, hsub, ev_binB, wr, natS, callQ_t, hnext, List.length_cons, List.length_nil, List.all_cons, List.all_nil, D.scal, true_and, and_true, Nat.zero_add]
          | false =>
            simp only [hb, withP, if_false, Bool.false_eq_true, List.append_nil] at ef eg
            cases hx : F.val ys (F.subst [c] g f) <;>
            · simp only [hx] at ef es
              simp (disch := omega) only [ir5p2, ir5p1, ir5p0, rowF, k_op, k_call, k_ite, k_letj, k_jump, k_ret, k_loop, opQ_s, iteQ_t, iteQ_f, jumpQ_s, contQ_a, val_c, val_v, List.map_cons, List.map_nil, getD_0, getD_s, List.cons_append, List.nil_append, List.append_nil, ev_binI, ev_binS, aBin, one1_s, reduceIte, callQ_0, callQ_1, callQ_2, callQ_3, callQ_4, callQ_5, callQ_6, callQ_7, callQ_8, callQ_9, ev_un, aUn, ev_lenS, ev_lenL, F.encs_len, List.length_map, Int.natCast_eq_zero, nat_lt, nat_le, nat_gt, nat_ge, nat_eq, ev_cat, ev_min, ev_max, ev_pick, ev_mk1, ev_mk3, ev_conv, ev_convS, List.getElem?_cons_zero, List.getElem?_cons_succ, decide_true, decide_false, Int.cast_ofNat_Int, nat0, natP, ibeq, eq_self, Int.reduceEq, Int.reduceLT, Int.reduceLE, Int.reduceGT, Int.reduceGE, Bool.not_true, Bool.not_false, Bool.true_and, Bool.false_and, Bool.and_true, Bool.and_false, Bool.true_or, Bool.false_or, Bool.or_true, Bool.or_false, beq_tt, beq_tf, beq_ft, beq_ff, bne_tt, bne_tf, bne_ft, bne_ff, ff_eq_tt, tt_eq_ff, Nat.lt_irrefl, take_all, eg, hw, ef, es, hsub, ev_binB, wr, natS, callQ_t, hnext, List.length_cons, List.length_nil, List.all_cons, List.all_nil, D.scal, true_and, and_true, Nat.zero_add])
      have hk := inner 0 () (by omega) trivial
      simp only [rowF, nat0, List.take_zero, List.filter_nil, List.cons_append, List.nil_append, ← strs_nil] at hk
      simp (disch := omega) only [ir5p3, rowF, k_op, k_call, k_ite, k_letj, k_jump, k_ret, k_loop, opQ_s, iteQ_t, iteQ_f, jumpQ_s, contQ_a, val_c, val_v, List.map_cons, List.map_nil, getD_0, getD_s, List.cons_append, List.nil_append, List.append_nil, ev_binI, ev_binS, aBin, one1_s, reduceIte, callQ_0, callQ_1, callQ_2, callQ_3, callQ_4, callQ_5, callQ_6, callQ_7, callQ_8, callQ_9, ev_un, aUn, ev_lenS, ev_lenL, F.encs_len, List.length_map, Int.natCast_eq_zero, nat_lt, nat_le, nat_gt, nat_ge, nat_eq, ev_cat, ev_min, ev_max, ev_pick, ev_mk1, ev_mk3, ev_conv, ev_convS, List.getElem?_cons_zero, List.getElem?_cons_succ, decide_true, decide_false, Int.cast_ofNat_Int, nat0, natP, ibeq, eq_self, Int.reduceEq, Int.reduceLT, Int.reduceLE, Int.reduceGT, Int.reduceGE, Bool.not_true, Bool.not_false, Bool.true_and, Bool.false_and, Bool.and_true, Bool.and_false, Bool.true_or, Bool.false_or, Bool.or_true, Bool.or_false, beq_tt, beq_tf, beq_ft, beq_ff, bne_tt, bne_tf, bne_ft, bne_ff, ff_eq_tt, tt_eq_ff, hi', hr, wr, w8, ev_toS1, hP, hyr, len_S, hk])
    (by
      intro s L hs
      simp (disch := omega) only [ir5p3, rowF, k_op, k_call, k_ite, k_letj, k_jump, k_ret, k_loop, opQ_s, iteQ_t, iteQ_f, jumpQ_s, contQ_a, val_c, val_v, List.map_cons, List.map_nil, getD_0, getD_s, List.cons_append, List.nil_append, List.append_nil, ev_binI, ev_binS, aBin, one1_s, reduceIte, callQ_0, callQ_1, callQ_2, callQ_3, callQ_4, callQ_5, callQ_6, callQ_7, callQ_8, callQ_9, ev_un, aUn, ev_lenS, ev_lenL, F.encs_len, List.length_map, Int.natCast_eq_zero, nat_lt, nat_le, nat_gt, nat_ge, nat_eq, ev_cat, ev_min, ev_max, ev_pick, ev_mk1, ev_mk3, ev_conv, ev_convS, List.getElem?_cons_zero, List.getElem?_cons_succ, decide_true, decide_false, Int.cast_ofNat_Int, nat0, natP, ibeq, eq_self, Int.reduceEq, Int.reduceLT, Int.reduceLE, Int.reduceGT, Int.reduceGE, Bool.not_true, Bool.not_false, Bool.true_and, Bool.false_and, Bool.and_true, Bool.and_false, Bool.true_or, Bool.false_or, Bool.or_true, Bool.or_false, beq_tt, beq_tf, beq_ft, beq_ff, bne_tt, bne_tf, bne_ft, bne_ff, ff_eq_tt, tt_eq_ff, aw])
  have hr := key 0 q (by omega) hq
  simp only [rowF, Int.cast_ofNat_Int, nat0, List.cons_append, List.nil_append] at hrf hrg hr
  refine run_ir (x := ir5) rfl ?_
  simp only [ir5, k_op, k_call, k_ite, k_letj, k_jump, k_ret, k_loop, opQ_s, iteQ_t, iteQ_f, jumpQ_s, contQ_a, val_c, val_v, List.map_cons, List.map_nil, getD_0, getD_s, List.cons_append, List.nil_append, List.append_nil, ev_binI, ev_binS, aBin, one1_s, reduceIte, callQ_0, callQ_1, callQ_2, callQ_3, callQ_4, callQ_5, callQ_6, callQ_7, callQ_8, callQ_9, ev_un, aUn, ev_lenS, ev_lenL, F.encs_len, List.length_map, Int.natCast_eq_zero, nat_lt, nat_le, nat_gt, nat_ge, nat_eq, ev_cat, ev_min, ev_max, ev_pick, ev_mk1, ev_mk3, ev_conv, ev_convS, List.getElem?_cons_zero, List.getElem?_cons_succ, decide_true, decide_false, Int.cast_ofNat_Int, nat0, natP, ibeq, eq_self, Int.reduceEq, Int.reduceLT, Int.reduceLE, Int.reduceGT, Int.reduceGE, Bool.not_true, Bool.not_false, Bool.true_and, Bool.false_and, Bool.and_true, Bool.and_false, Bool.true_or, Bool.false_or, Bool.or_true, Bool.or_false, beq_tt, beq_tf, beq_ft, beq_ff, bne_tt, bne_tf, bne_ft, bne_ff, ff_eq_tt, tt_eq_ff, hn, hrf, hrg, hr]
theorem formulaLemma_true (I : List (List D)) (hI : Ins Tryd.prog Tryd.f8.params.toList I) : run tb 5 I.flatten = some [.bool true] := by
  rw [Tryd.params8] at hI
  cases hI with
  | cons n h hl hr =>
    cases hr
    obtain ⟨l, rfl, hl⟩ := wt_ints h
    exact lemma_run l awake_run
end Go.Proofs.YtgmnlkjoiakoaaaDoor
