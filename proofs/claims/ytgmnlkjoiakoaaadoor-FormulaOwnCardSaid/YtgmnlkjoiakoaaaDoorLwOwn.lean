/- Plain programs of the functions of the program and lemmas about what they compute. -/
import Derived.Test.YtgmnlkjoiakoaaaDoorPl3
import Derived.Test.YtgmnlkjoiakoaaaDoorPlAw
import Derived.Test.YtgmnlkjoiakoaaaDoorRw0
set_option linter.unusedSimpArgs false
set_option linter.unusedVariables false
set_option linter.unusedSectionVars false
namespace Go.Proofs.YtgmnlkjoiakoaaaDoor
open Go Am
set_option maxRecDepth 100000
set_option linter.unusedSimpArgs false
set_option linter.unusedVariables false
theorem atoms_run (f : F) (hs : f.size < 10000000000) (hd : f.depth < 1000) : run tb 29 (rowF f) = some [strsD (canon (F.atomL f))] := run_ext rfl (atomsE_run f hs hd)
/-- the value depends on the atoms alone -/
theorem val_own (ys ws : List (List UInt8)) : ∀ f : F, good f = true → (∀ s ∈ F.atomL f, ys.contains s = ws.contains s) → F.val ys f = F.val ws f := by
  refine bySizeF fun f ih hf h => ?_
  have hargs := ((good_iff f).1 hf).2.2
  rw [F.val_eq ys f, F.val_eq ws f]
  rw [F.atomL_eq] at h
  by_cases ho : f.op = 3
  · have ha := atom_noargs hf ho
    rw [if_pos ⟨ho, by simp [ha]⟩] at h
    simp only [ho, valO, Int.reduceEq, if_false, if_true]
    exact h _ (by simp)
  · rw [if_neg (fun x => ho x.1)] at h
    have hm : f.args.map (F.val ys) = f.args.map (F.val ws) := by
      apply List.map_congr_left
      intro x hx
      refine ih x hx (hargs x hx) fun s hs => h s ?_
      have : ∀ l : List F, x ∈ l → s ∈ F.atomLs l := by
        intro l
        induction l with
        | nil => intro h; simp at h
        | cons y l ih =>
          intro h
          simp only [F.atomLs, List.mem_append]
          rcases List.mem_cons.1 h with rfl | h
          · exact .inl hs
          · exact .inr (ih h)
      exact this _ hx
    rw [hm]
    unfold valO
    simp only [ho, if_false]
theorem contains_iff (l : List (List UInt8)) (s : List UInt8) : l.contains s = true ↔ s ∈ l := by simp
theorem contains_eq {l l' : List (List UInt8)} {s : List UInt8} (h : s ∈ l ↔ s ∈ l') : l.contains s = l'.contains s := by
  rw [Bool.eq_iff_iff, contains_iff, contains_iff, h]
theorem app_SL {l l' : List (List UInt8)} (h : l.length + l'.length < 1000000000000) : PO.eval (.app 1 16) [strsD l, strsD l'] = some [strsD (l ++ l')] := by
  have := ev_app (sz := 1) (bt := 16) (xs := l.map strR) (ys := l'.map strR) (by simp; omega) (by simp; omega) (by simp [strR])
  simpa [strsD, strR] using this
theorem own_run (l0 : List Int) (more : List (List UInt8)) (aw : run tb 20 [] = some [.bool true]) (hmore : more.length ≤ maxLen) : run tb 6 [numsD l0, strsD more] = some [.bool true] := by
  obtain ⟨l, hl, hn⟩ := new_run l0
  obtain ⟨f, p, hp, hf, hrf⟩ := formula_run 4 (by omega) (by omega) l hl 4 (by omega) 0 (by omega)
  obtain ⟨ys, q, hy, hq, hyr⟩ := yes_run l p hl hp
  have sf : f.size ≤ 1024 := hf.2.2.1
  have df : f.depth ≤ 4 := hf.2.1
  obtain ⟨hf, -⟩ := hf
  have hat := atoms_run f (by omega) (by omega)
  have hal := F.atomL_len f
  have hcl : (canon (F.atomL f)).length ≤ 1024 := by
    have h1 := compact_len (sortL (F.atomL f))
    rw [sortL_len] at h1
    unfold canon; omega
  generalize hA : canon (F.atomL f) = ats at hat hcl
  have hmem : ∀ s, s ∈ ats ↔ s ∈ F.atomL f := fun s => by rw [← hA]; exact canon_mem _ _
  unfold maxLen at hmore

  -- the rest behind the first loop
  have rest : ∀ (i : Nat) (all : List (List UInt8)) (L : PF), all.length ≤ 24 → (∀ s ∈ ats, all.contains s = ys.contains s) →
      den (run tb) ir6p6 ([numsD l0, strsD more, numsD l, .int .i64 0] ++ rowF f ++ [numsD l, .int .i64 p, strsD ys, numsD l, .int .i64 q, strsD ats, strsD ys, .int .i64 i, strsD all, .bool false]) [L] = some [.bool true] := by
    intro i all L hall hin
    have keyC := loop_k (run := run tb) (body := ir6p5) (e := [numsD l0, strsD more, numsD l, .int .i64 0] ++ rowF f ++ [numsD l, .int .i64 p, strsD ys, numsD l, .int .i64 q, strsD ats, strsD ys, .int .i64 i, strsD all, .bool false, .int .i64 ys.length]) (J := [L]) (σ := List (List UInt8)) ys.length
      (fun i few => few.length ≤ i * 1024 ∧ ∀ s, s ∈ few ↔ s ∈ ys.take i ∧ s ∈ ats) (fun i few => [.int .i64 i, strsD few]) (fun _ _ => [.bool true])
      (by
        rintro j few M hj ⟨q1, q2⟩ hM
        have hfl : j * 1024 ≤ 4 * 1024 := Nat.mul_le_mul_right _ (by omega)
        have keyD := loop_k (run := run tb) (body := ir6p4) (e := [numsD l0, strsD more, numsD l, .int .i64 0] ++ rowF f ++ [numsD l, .int .i64 p, strsD ys, numsD l, .int .i64 q, strsD ats, strsD ys, .int .i64 i, strsD all, .bool false, .int .i64 ys.length, .int .i64 j, strsD few, .bool true, .str ys[j], .int .i64 ats.length]) (J := [L, M]) (σ := List (List UInt8)) ats.length
          (fun k fw => fw.length ≤ few.length + k ∧ ∀ s, s ∈ fw ↔ s ∈ few ∨ (s = ys[j] ∧ s ∈ ats.take k)) (fun k fw => [.int .i64 k, strsD fw]) (fun _ _ => [.bool true])
          (by
            rintro k fw N hk ⟨w1, w2⟩ hN
            by_cases hx : ys[j] = ats[k]
            · have hb : (ys[j] == ats[k]) = true := by simpa using hx
              have hnext := hN (fw ++ [ys[j]]) ⟨by simp; omega, fun s => by
                rw [List.mem_append, w2, ← take_snoc hk, List.mem_append, List.mem_singleton, List.mem_singleton]
                constructor
                · rintro ((h | h) | h)
                  · exact .inl h
                  · exact .inr ⟨h.1, .inl h.2⟩
                  · exact .inr ⟨h, .inr (h.trans hx)⟩
                · rintro (h | ⟨h, h' | h'⟩)
                  · exact .inl (.inl h)
                  · exact .inl (.inr ⟨h, h'⟩)
                  · exact .inr h⟩
              simp (disch := omega) only [ir6p4, ir6p3, rowF, k_op, k_call, k_ite, k_letj, k_jump, k_ret, k_loop, opQ_s, iteQ_t, iteQ_f, jumpQ_s, contQ_a, val_c, val_v, List.map_cons, List.map_nil, getD_0, getD_s, List.cons_append, List.nil_append, List.append_nil, ev_binI, ev_binS, aBin, one1_s, reduceIte, callQ_0, callQ_1, callQ_2, callQ_3, callQ_4, callQ_5, callQ_6, callQ_7, callQ_8, callQ_9, ev_un, aUn, ev_lenS, ev_lenL, F.encs_len, List.length_map, Int.natCast_eq_zero, nat_lt, nat_le, nat_gt, nat_ge, nat_eq, ev_cat, ev_min, ev_max, ev_pick, ev_mk1, ev_mk3, ev_conv, ev_convS, List.getElem?_cons_zero, List.getElem?_cons_succ, decide_true, decide_false, Int.cast_ofNat_Int, nat0, natP, ibeq, eq_self, Int.reduceEq, Int.reduceLT, Int.reduceLE, Int.reduceGT, Int.reduceGE, Bool.not_true, Bool.not_false, Bool.true_and, Bool.false_and, Bool.and_true, Bool.and_false, Bool.true_or, Bool.false_or, Bool.or_true, Bool.or_false, beq_tt, beq_tf, beq_ft, beq_ff, bne_tt, bne_tf, bne_ft, bne_ff, ff_eq_tt, tt_eq_ff, hk, row_S, hb, app_S, wr, natS, hnext]
            · have hb : (ys[j] == ats[k]) = false := by simpa using hx
              have hnext := hN fw ⟨by omega, fun s => by
                rw [w2, ← take_snoc hk, List.mem_append, List.mem_singleton]
                constructor
                · rintro (h | h)
                  · exact .inl h
                  · exact .inr ⟨h.1, .inl h.2⟩
                · rintro (h | ⟨h, h' | h'⟩)
                  · exact .inl h
                  · exact .inr ⟨h, h'⟩
                  · exact absurd (h.symm.trans h') hx⟩
              simp (disch := omega) only [ir6p4, ir6p3, rowF, k_op, k_call, k_ite, k_letj, k_jump, k_ret, k_loop, opQ_s, iteQ_t, iteQ_f, jumpQ_s, contQ_a, val_c, val_v, List.map_cons, List.map_nil, getD_0, getD_s, List.cons_append, List.nil_append, List.append_nil, ev_binI, ev_binS, aBin, one1_s, reduceIte, callQ_0, callQ_1, callQ_2, callQ_3, callQ_4, callQ_5, callQ_6, callQ_7, callQ_8, callQ_9, ev_un, aUn, ev_lenS, ev_lenL, F.encs_len, List.length_map, Int.natCast_eq_zero, nat_lt, nat_le, nat_gt, nat_ge, nat_eq, ev_cat, ev_min, ev_max, ev_pick, ev_mk1, ev_mk3, ev_conv, ev_convS, List.getElem?_cons_zero, List.getElem?_cons_succ, decide_true, decide_false, Int.cast_ofNat_Int, nat0, natP, ibeq, eq_self, Int.reduceEq, Int.reduceLT, Int.reduceLE, Int.reduceGT, Int.reduceGE, Bool.not_true, Bool.not_false, Bool.true_and, Bool.false_and, Bool.and_true, Bool.and_false, Bool.true_or, Bool.false_or, Bool.or_true, Bool.or_false, beq_tt, beq_tf, beq_ft, beq_ff, bne_tt, bne_tf, bne_ft, bne_ff, ff_eq_tt, tt_eq_ff, hk, row_S, hb, app_S, wr, natS, hnext])
          (by
            rintro fw N ⟨w1, w2⟩
            have hnext := hM fw ⟨by rw [Nat.add_mul]; omega, fun s => by
              rw [w2, q2, ← take_snoc hj, List.mem_append, List.mem_singleton, List.take_length]
              constructor
              · rintro (⟨h, h'⟩ | ⟨h, h'⟩)
                · exact ⟨.inl h, h'⟩
                · exact ⟨.inr h, h'⟩
              · rintro ⟨h | h, h'⟩
                · exact .inl ⟨h, h'⟩
                · exact .inr ⟨h, h'⟩⟩
            simp (disch := omega) only [ir6p4, ir6p3, rowF, k_op, k_call, k_ite, k_letj, k_jump, k_ret, k_loop, opQ_s, iteQ_t, iteQ_f, jumpQ_s, contQ_a, val_c, val_v, List.map_cons, List.map_nil, getD_0, getD_s, List.cons_append, List.nil_append, List.append_nil, ev_binI, ev_binS, aBin, one1_s, reduceIte, callQ_0, callQ_1, callQ_2, callQ_3, callQ_4, callQ_5, callQ_6, callQ_7, callQ_8, callQ_9, ev_un, aUn, ev_lenS, ev_lenL, F.encs_len, List.length_map, Int.natCast_eq_zero, nat_lt, nat_le, nat_gt, nat_ge, nat_eq, ev_cat, ev_min, ev_max, ev_pick, ev_mk1, ev_mk3, ev_conv, ev_convS, List.getElem?_cons_zero, List.getElem?_cons_succ, decide_true, decide_false, Int.cast_ofNat_Int, nat0, natP, ibeq, eq_self, Int.reduceEq, Int.reduceLT, Int.reduceLE, Int.reduceGT, Int.reduceGE, Bool.not_true, Bool.not_false, Bool.true_and, Bool.false_and, Bool.and_true, Bool.and_false, Bool.true_or, Bool.false_or, Bool.or_true, Bool.or_false, beq_tt, beq_tf, beq_ft, beq_ff, bne_tt, bne_tf, bne_ft, bne_ff, ff_eq_tt, tt_eq_ff, Nat.lt_irrefl, wr, natS, hnext])
        have hk := keyD 0 few (by omega) ⟨by omega, fun s => by simp⟩
        simp only [rowF, nat0, List.cons_append, List.nil_append] at hk
        simp (disch := omega) only [ir6p5, rowF, k_op, k_call, k_ite, k_letj, k_jump, k_ret, k_loop, opQ_s, iteQ_t, iteQ_f, jumpQ_s, contQ_a, val_c, val_v, List.map_cons, List.map_nil, getD_0, getD_s, List.cons_append, List.nil_append, List.append_nil, ev_binI, ev_binS, aBin, one1_s, reduceIte, callQ_0, callQ_1, callQ_2, callQ_3, callQ_4, callQ_5, callQ_6, callQ_7, callQ_8, callQ_9, ev_un, aUn, ev_lenS, ev_lenL, F.encs_len, List.length_map, Int.natCast_eq_zero, nat_lt, nat_le, nat_gt, nat_ge, nat_eq, ev_cat, ev_min, ev_max, ev_pick, ev_mk1, ev_mk3, ev_conv, ev_convS, List.getElem?_cons_zero, List.getElem?_cons_succ, decide_true, decide_false, Int.cast_ofNat_Int, nat0, natP, ibeq, eq_self, Int.reduceEq, Int.reduceLT, Int.reduceLE, Int.reduceGT, Int.reduceGE, Bool.not_true, Bool.not_false, Bool.true_and, Bool.false_and, Bool.and_true, Bool.and_false, Bool.true_or, Bool.false_or, Bool.or_true, Bool.or_false, beq_tt, beq_tf, beq_ft, beq_ff, bne_tt, bne_tf, bne_ft, bne_ff, ff_eq_tt, tt_eq_ff, hj, row_S, len_S, hk])
      (by
        rintro few M ⟨q1, q2⟩
        have hfl : ys.length * 1024 ≤ 4 * 1024 := Nat.mul_le_mul_right _ (by omega)
        have e1 := eval_run ys (by omega) f (by omega) hf
        have e2 := eval_run all (by omega) f (by omega) hf
        have e3 := eval_run few (by omega) f (by omega) hf
        rw [val_own all ys f hf fun s hs => hin s ((hmem s).2 hs)] at e2
        rw [val_own few ys f hf fun s hs => contains_eq (by rw [q2, List.take_length]; exact ⟨fun h => h.1, fun h => ⟨h, (hmem s).2 hs⟩⟩)] at e3
        rw [F.enc_eq] at e1 e2 e3
        simp only [List.cons_append, List.nil_append] at e1 e2 e3
        cases hv : F.val ys f <;>
        · simp only [hv] at e1 e2 e3
          simp (disch := omega) only [ir6p5, rowF, k_op, k_call, k_ite, k_letj, k_jump, k_ret, k_loop, opQ_s, iteQ_t, iteQ_f, jumpQ_s, contQ_a, val_c, val_v, List.map_cons, List.map_nil, getD_0, getD_s, List.cons_append, List.nil_append, List.append_nil, ev_binI, ev_binS, aBin, one1_s, reduceIte, callQ_0, callQ_1, callQ_2, callQ_3, callQ_4, callQ_5, callQ_6, callQ_7, callQ_8, callQ_9, ev_un, aUn, ev_lenS, ev_lenL, F.encs_len, List.length_map, Int.natCast_eq_zero, nat_lt, nat_le, nat_gt, nat_ge, nat_eq, ev_cat, ev_min, ev_max, ev_pick, ev_mk1, ev_mk3, ev_conv, ev_convS, List.getElem?_cons_zero, List.getElem?_cons_succ, decide_true, decide_false, Int.cast_ofNat_Int, nat0, natP, ibeq, eq_self, Int.reduceEq, Int.reduceLT, Int.reduceLE, Int.reduceGT, Int.reduceGE, Bool.not_true, Bool.not_false, Bool.true_and, Bool.false_and, Bool.and_true, Bool.and_false, Bool.true_or, Bool.false_or, Bool.or_true, Bool.or_false, beq_tt, beq_tf, beq_ft, beq_ff, bne_tt, bne_tf, bne_ft, bne_ff, ff_eq_tt, tt_eq_ff, Nat.lt_irrefl, e1, e2, e3, callQ_t, List.length_cons, List.length_nil, List.all_cons, List.all_nil, D.scal, true_and, and_true, Nat.zero_add, ev_binB, aw])
    have hk := keyC 0 [] (by omega) ⟨by simp, fun s => by simp⟩
    simp only [rowF, nat0, List.cons_append, List.nil_append, ← strs_nil] at hk
    simp (disch := omega) only [ir6p6, rowF, k_op, k_call, k_ite, k_letj, k_jump, k_ret, k_loop, opQ_s, iteQ_t, iteQ_f, jumpQ_s, contQ_a, val_c, val_v, List.map_cons, List.map_nil, getD_0, getD_s, List.cons_append, List.nil_append, List.append_nil, ev_binI, ev_binS, aBin, one1_s, reduceIte, callQ_0, callQ_1, callQ_2, callQ_3, callQ_4, callQ_5, callQ_6, callQ_7, callQ_8, callQ_9, ev_un, aUn, ev_lenS, ev_lenL, F.encs_len, List.length_map, Int.natCast_eq_zero, nat_lt, nat_le, nat_gt, nat_ge, nat_eq, ev_cat, ev_min, ev_max, ev_pick, ev_mk1, ev_mk3, ev_conv, ev_convS, List.getElem?_cons_zero, List.getElem?_cons_succ, decide_true, decide_false, Int.cast_ofNat_Int, nat0, natP, ibeq, eq_self, Int.reduceEq, Int.reduceLT, Int.reduceLE, Int.reduceGT, Int.reduceGE, Bool.not_true, Bool.not_false, Bool.true_and, Bool.false_and, Bool.and_true, Bool.and_false, Bool.true_or, Bool.false_or, Bool.or_true, Bool.or_false, beq_tt, beq_tf, beq_ft, beq_ff, bne_tt, bne_tf, bne_ft, bne_ff, ff_eq_tt, tt_eq_ff, len_S, hk]
  have keyA := loop_k (run := run tb) (body := ir6p7) (e := [numsD l0, strsD more, numsD l, .int .i64 0] ++ rowF f ++ [numsD l, .int .i64 p, strsD ys, numsD l, .int .i64 q, strsD ats, strsD ys]) (J := []) (σ := List (List UInt8)) (min more.length 20)
    (fun i all => all.length ≤ 4 + i ∧ ∀ s ∈ ats, all.contains s = ys.contains s) (fun i all => [.int .i64 i, strsD all]) (fun _ _ => [.bool true])
    (by
      rintro i all L hi ⟨q1, q2⟩ hL
      have hi1 : i < more.length := by omega
      have hi2 : (i : Int) < 20 := by omega
      have keyB := loop_k (run := run tb) (body := ir6p2) (e := [numsD l0, strsD more, numsD l, .int .i64 0] ++ rowF f ++ [numsD l, .int .i64 p, strsD ys, numsD l, .int .i64 q, strsD ats, strsD ys, .int .i64 i, strsD all, .bool true, .int .i64 ats.length]) (J := [L, contQ (run tb) ir6p0 ([numsD l0, strsD more, numsD l, .int .i64 0] ++ rowF f ++ [numsD l, .int .i64 p, strsD ys, numsD l, .int .i64 q, strsD ats, strsD ys, .int .i64 i, strsD all, .bool true]) [L]]) (σ := Bool) ats.length
        (fun j own => own = (ats.take j).contains more[i]) (fun j own => [.bool own, .int .i64 j]) (fun _ _ => [.bool true])
        (by
          rintro j own M hj hown hM
          have hc : (ats.take (j + 1)).contains more[i] = (own || ats[j] == more[i]) := by
            rw [hown, Bool.eq_iff_iff, Bool.or_eq_true, contains_iff, contains_iff, ← take_snoc hj, List.mem_append, List.mem_singleton, beq_iff_eq]
            exact ⟨fun h => h.imp_right fun h => h.symm, fun h => h.imp_right fun h => h.symm⟩
          cases own with
          | true =>
            have hnext := hM true (by rw [hc]; rfl)
            simp (disch := omega) only [ir6p2, ir6p1, rowF, k_op, k_call, k_ite, k_letj, k_jump, k_ret, k_loop, opQ_s, iteQ_t, iteQ_f, jumpQ_s, contQ_a, val_c, val_v, List.map_cons, List.map_nil, getD_0, getD_s, List.cons_append, List.nil_append, List.append_nil, ev_binI, ev_binS, aBin, one1_s, reduceIte, callQ_0, callQ_1, callQ_2, callQ_3, callQ_4, callQ_5, callQ_6, callQ_7, callQ_8, callQ_9, ev_un, aUn, ev_lenS, ev_lenL, F.encs_len, List.length_map, Int.natCast_eq_zero, nat_lt, nat_le, nat_gt, nat_ge, nat_eq, ev_cat, ev_min, ev_max, ev_pick, ev_mk1, ev_mk3, ev_conv, ev_convS, List.getElem?_cons_zero, List.getElem?_cons_succ, decide_true, decide_false, Int.cast_ofNat_Int, nat0, natP, ibeq, eq_self, Int.reduceEq, Int.reduceLT, Int.reduceLE, Int.reduceGT, Int.reduceGE, Bool.not_true, Bool.not_false, Bool.true_and, Bool.false_and, Bool.and_true, Bool.and_false, Bool.true_or, Bool.false_or, Bool.or_true, Bool.or_false, beq_tt, beq_tf, beq_ft, beq_ff, bne_tt, bne_tf, bne_ft, bne_ff, ff_eq_tt, tt_eq_ff, hj, row_S, wr, natS, hnext]
          | false =>
            have hnext := hM (ats[j] == more[i]) (by rw [hc]; rfl)
            simp (disch := omega) only [ir6p2, ir6p1, rowF, k_op, k_call, k_ite, k_letj, k_jump, k_ret, k_loop, opQ_s, iteQ_t, iteQ_f, jumpQ_s, contQ_a, val_c, val_v, List.map_cons, List.map_nil, getD_0, getD_s, List.cons_append, List.nil_append, List.append_nil, ev_binI, ev_binS, aBin, one1_s, reduceIte, callQ_0, callQ_1, callQ_2, callQ_3, callQ_4, callQ_5, callQ_6, callQ_7, callQ_8, callQ_9, ev_un, aUn, ev_lenS, ev_lenL, F.encs_len, List.length_map, Int.natCast_eq_zero, nat_lt, nat_le, nat_gt, nat_ge, nat_eq, ev_cat, ev_min, ev_max, ev_pick, ev_mk1, ev_mk3, ev_conv, ev_convS, List.getElem?_cons_zero, List.getElem?_cons_succ, decide_true, decide_false, Int.cast_ofNat_Int, nat0, natP, ibeq, eq_self, Int.reduceEq, Int.reduceLT, Int.reduceLE, Int.reduceGT, Int.reduceGE, Bool.not_true, Bool.not_false, Bool.true_and, Bool.false_and, Bool.and_true, Bool.and_false, Bool.true_or, Bool.false_or, Bool.or_true, Bool.or_false, beq_tt, beq_tf, beq_ft, beq_ff, bne_tt, bne_tf, bne_ft, bne_ff, ff_eq_tt, tt_eq_ff, hj, row_S, wr, natS, hnext])
        (by
          rintro own M hown
          rw [List.take_length] at hown
          cases own with
          | true =>
            have hnext := hL all ⟨by omega, q2⟩
            simp (disch := omega) only [ir6p2, ir6p1, ir6p0, rowF, k_op, k_call, k_ite, k_letj, k_jump, k_ret, k_loop, opQ_s, iteQ_t, iteQ_f, jumpQ_s, contQ_a, val_c, val_v, List.map_cons, List.map_nil, getD_0, getD_s, List.cons_append, List.nil_append, List.append_nil, ev_binI, ev_binS, aBin, one1_s, reduceIte, callQ_0, callQ_1, callQ_2, callQ_3, callQ_4, callQ_5, callQ_6, callQ_7, callQ_8, callQ_9, ev_un, aUn, ev_lenS, ev_lenL, F.encs_len, List.length_map, Int.natCast_eq_zero, nat_lt, nat_le, nat_gt, nat_ge, nat_eq, ev_cat, ev_min, ev_max, ev_pick, ev_mk1, ev_mk3, ev_conv, ev_convS, List.getElem?_cons_zero, List.getElem?_cons_succ, decide_true, decide_false, Int.cast_ofNat_Int, nat0, natP, ibeq, eq_self, Int.reduceEq, Int.reduceLT, Int.reduceLE, Int.reduceGT, Int.reduceGE, Bool.not_true, Bool.not_false, Bool.true_and, Bool.false_and, Bool.and_true, Bool.and_false, Bool.true_or, Bool.false_or, Bool.or_true, Bool.or_false, beq_tt, beq_tf, beq_ft, beq_ff, bne_tt, bne_tf, bne_ft, bne_ff, ff_eq_tt, tt_eq_ff, Nat.lt_irrefl, row_S, wr, natS, hnext]
          | false =>
            have hnext := hL (all ++ [more[i]]) ⟨by simp; omega, fun s hs => by
              rw [← q2 s hs]
              refine contains_eq ?_
              rw [List.mem_append, List.mem_singleton]
              refine ⟨fun h => h.elim id fun h => ?_, .inl⟩
              subst h
              rw [(contains_iff _ _).2 hs] at hown
              simp at hown⟩
            simp (disch := omega) only [ir6p2, ir6p1, ir6p0, rowF, k_op, k_call, k_ite, k_letj, k_jump, k_ret, k_loop, opQ_s, iteQ_t, iteQ_f, jumpQ_s, contQ_a, val_c, val_v, List.map_cons, List.map_nil, getD_0, getD_s, List.cons_append, List.nil_append, List.append_nil, ev_binI, ev_binS, aBin, one1_s, reduceIte, callQ_0, callQ_1, callQ_2, callQ_3, callQ_4, callQ_5, callQ_6, callQ_7, callQ_8, callQ_9, ev_un, aUn, ev_lenS, ev_lenL, F.encs_len, List.length_map, Int.natCast_eq_zero, nat_lt, nat_le, nat_gt, nat_ge, nat_eq, ev_cat, ev_min, ev_max, ev_pick, ev_mk1, ev_mk3, ev_conv, ev_convS, List.getElem?_cons_zero, List.getElem?_cons_succ, decide_true, decide_false, Int.cast_ofNat_Int, nat0, natP, ibeq, eq_self, Int.reduceEq, Int.reduceLT, Int.reduceLE, Int.reduceGT, Int.reduceGE, Bool.not_true, Bool.not_false, Bool.true_and, Bool.false_and, Bool.and_true, Bool.and_false, Bool.true_or, Bool.false_or, Bool.or_true, Bool.or_false, beq_tt, beq_tf, beq_ft, beq_ff, bne_tt, bne_tf, bne_ft, bne_ff, ff_eq_tt, tt_eq_ff, Nat.lt_irrefl, row_S, app_S, wr, natS, hnext])
      have hk := keyB 0 false (by omega) rfl
      simp only [rowF, nat0, List.cons_append, List.nil_append] at hk
      simp (disch := omega) only [ir6p7, ir6p6, rowF, k_op, k_call, k_ite, k_letj, k_jump, k_ret, k_loop, opQ_s, iteQ_t, iteQ_f, jumpQ_s, contQ_a, val_c, val_v, List.map_cons, List.map_nil, getD_0, getD_s, List.cons_append, List.nil_append, List.append_nil, ev_binI, ev_binS, aBin, one1_s, reduceIte, callQ_0, callQ_1, callQ_2, callQ_3, callQ_4, callQ_5, callQ_6, callQ_7, callQ_8, callQ_9, ev_un, aUn, ev_lenS, ev_lenL, F.encs_len, List.length_map, Int.natCast_eq_zero, nat_lt, nat_le, nat_gt, nat_ge, nat_eq, ev_cat, ev_min, ev_max, ev_pick, ev_mk1, ev_mk3, ev_conv, ev_convS, List.getElem?_cons_zero, List.getElem?_cons_succ, decide_true, decide_false, Int.cast_ofNat_Int, nat0, natP, ibeq, eq_self, Int.reduceEq, Int.reduceLT, Int.reduceLE, Int.reduceGT, Int.reduceGE, Bool.not_true, Bool.not_false, Bool.true_and, Bool.false_and, Bool.and_true, Bool.and_false, Bool.true_or, Bool.false_or, Bool.or_true, Bool.or_false, beq_tt, beq_tf, beq_ft, beq_ff, bne_tt, bne_tf, bne_ft, bne_ff, ff_eq_tt, tt_eq_ff, len_S, hi1, hi2, hk])
    (by
      rintro all L ⟨q1, q2⟩
      have hr := rest (min more.length 20) all L (by omega) q2
      simp only [rowF, List.cons_append, List.nil_append] at hr
      by_cases h : more.length ≤ 20
      · have hm : min more.length 20 = more.length := by omega
        rw [hm] at hr ⊢
        simp (disch := omega) only [ir6p7, rowF, k_op, k_call, k_ite, k_letj, k_jump, k_ret, k_loop, opQ_s, iteQ_t, iteQ_f, jumpQ_s, contQ_a, val_c, val_v, List.map_cons, List.map_nil, getD_0, getD_s, List.cons_append, List.nil_append, List.append_nil, ev_binI, ev_binS, aBin, one1_s, reduceIte, callQ_0, callQ_1, callQ_2, callQ_3, callQ_4, callQ_5, callQ_6, callQ_7, callQ_8, callQ_9, ev_un, aUn, ev_lenS, ev_lenL, F.encs_len, List.length_map, Int.natCast_eq_zero, nat_lt, nat_le, nat_gt, nat_ge, nat_eq, ev_cat, ev_min, ev_max, ev_pick, ev_mk1, ev_mk3, ev_conv, ev_convS, List.getElem?_cons_zero, List.getElem?_cons_succ, decide_true, decide_false, Int.cast_ofNat_Int, nat0, natP, ibeq, eq_self, Int.reduceEq, Int.reduceLT, Int.reduceLE, Int.reduceGT, Int.reduceGE, Bool.not_true, Bool.not_false, Bool.true_and, Bool.false_and, Bool.and_true, Bool.and_false, Bool.true_or, Bool.false_or, Bool.or_true, Bool.or_false, beq_tt, beq_tf, beq_ft, beq_ff, bne_tt, bne_tf, bne_ft, bne_ff, ff_eq_tt, tt_eq_ff, len_S, Nat.lt_irrefl, hr]
      · have hm : min more.length 20 = 20 := by omega
        rw [hm] at hr ⊢
        simp only [Int.cast_ofNat_Int] at hr
        have h20 : (20 : Int) < more.length := by omega
        simp (disch := omega) only [ir6p7, rowF, k_op, k_call, k_ite, k_letj, k_jump, k_ret, k_loop, opQ_s, iteQ_t, iteQ_f, jumpQ_s, contQ_a, val_c, val_v, List.map_cons, List.map_nil, getD_0, getD_s, List.cons_append, List.nil_append, List.append_nil, ev_binI, ev_binS, aBin, one1_s, reduceIte, callQ_0, callQ_1, callQ_2, callQ_3, callQ_4, callQ_5, callQ_6, callQ_7, callQ_8, callQ_9, ev_un, aUn, ev_lenS, ev_lenL, F.encs_len, List.length_map, Int.natCast_eq_zero, nat_lt, nat_le, nat_gt, nat_ge, nat_eq, ev_cat, ev_min, ev_max, ev_pick, ev_mk1, ev_mk3, ev_conv, ev_convS, List.getElem?_cons_zero, List.getElem?_cons_succ, decide_true, decide_false, Int.cast_ofNat_Int, nat0, natP, ibeq, eq_self, Int.reduceEq, Int.reduceLT, Int.reduceLE, Int.reduceGT, Int.reduceGE, Bool.not_true, Bool.not_false, Bool.true_and, Bool.false_and, Bool.and_true, Bool.and_false, Bool.true_or, Bool.false_or, Bool.or_true, Bool.or_false, beq_tt, beq_tf, beq_ft, beq_ff, bne_tt, bne_tf, bne_ft, bne_ff, ff_eq_tt, tt_eq_ff, len_S, h20, Int.lt_irrefl, hr])
  have hr := keyA 0 ys (by omega) ⟨by omega, fun s _ => rfl⟩
  have hcopy := app_SL (l := []) (l' := ys) (by simp; omega)
  rw [List.nil_append, ← strs_nil] at hcopy
  simp only [rowF, Int.cast_ofNat_Int, nat0, List.cons_append, List.nil_append] at hrf hyr hat hr
  refine run_ir (x := ir6) rfl ?_
  simp only [ir6, k_op, k_call, k_ite, k_letj, k_jump, k_ret, k_loop, opQ_s, iteQ_t, iteQ_f, jumpQ_s, contQ_a, val_c, val_v, List.map_cons, List.map_nil, getD_0, getD_s, List.cons_append, List.nil_append, List.append_nil, ev_binI, ev_binS, aBin, one1_s, reduceIte, callQ_0, callQ_1, callQ_2, callQ_3, callQ_4, callQ_5, callQ_6, callQ_7, callQ_8, callQ_9, ev_un, aUn, ev_lenS, ev_lenL, F.encs_len, List.length_map, Int.natCast_eq_zero, nat_lt, nat_le, nat_gt, nat_ge, nat_eq, ev_cat, ev_min, ev_max, ev_pick, ev_mk1, ev_mk3, ev_conv, ev_convS, List.getElem?_cons_zero, List.getElem?_cons_succ, decide_true, decide_false, Int.cast_ofNat_Int, nat0, natP, ibeq, eq_self, Int.reduceEq, Int.reduceLT, Int.reduceLE, Int.reduceGT, Int.reduceGE, Bool.not_true, Bool.not_false, Bool.true_and, Bool.false_and, Bool.and_true, Bool.and_false, Bool.true_or, Bool.false_or, Bool.or_true, Bool.or_false, beq_tt, beq_tf, beq_ft, beq_ff, bne_tt, bne_tf, bne_ft, bne_ff, ff_eq_tt, tt_eq_ff, hn, hrf, hyr, hat, hcopy, hr]
theorem formulaOwn_true (I : List (List D)) (hI : Ins Tryd.prog Tryd.f9.params.toList I) : run tb 6 I.flatten = some [.bool true] := by
  rw [Tryd.params9] at hI
  cases hI with
  | cons n h hl hr =>
    cases hr with
    | cons n' h' hl' hr =>
      cases hr
      obtain ⟨l, rfl, hl⟩ := wt_ints h
      obtain ⟨m, rfl, hm, _⟩ := wt_strs h'
      exact own_run l m awake_run hm
end Go.Proofs.YtgmnlkjoiakoaaaDoor
