/- Plain programs of the functions of the program and lemmas about what they compute. -/
import Derived.Test.YtojkhlijbpmgpaaGreatIt3
set_option linter.unusedSimpArgs false
set_option linter.unusedVariables false
set_option linter.unusedSectionVars false
namespace Go.Proofs.YtojkhlijbpmgpaaGreat
open Go Am
set_option maxRecDepth 100000
set_option linter.unusedSimpArgs false
set_option linter.unusedVariables false
theorem ibeliefs_run (l0 : List Int) : run tb 1 [numsD l0] = some [.bool true] := by
 obtain ⟨l, hl, hn⟩ := new_run l0
 obtain ⟨r, p, r1, r2, hp, hr⟩ := range_run 1 3 l 0 hl (by omega) (by omega) (by omega) (by omega)
 obtain ⟨n, rfl⟩ := Int.eq_ofNat_of_zero_le (show 0 ≤ r by omega)
 have hr : run tb 3 [.int .i64 1, .int .i64 3, numsD l, .int .i64 0] = some [.int .i64 n, numsD l, .int .i64 p] := hr
 have hn6 : n ≤ 6 := by omega
 obtain ⟨rs, q, hrs, h2, h3⟩ := some_run n hn6 l p hl hp
 obtain ⟨k, q1, k1, k2, hq1, hk⟩ := range_run 1 3 l q hl h2 (by omega) (by omega) (by omega)
 have hk3 : k = 1 ∨ k = 2 ∨ k = 3 := by omega
 obtain ⟨fs, q2, hq2, hfl, hfs, hfr⟩ := formulas35_run 6 n (by omega) (by omega) (by omega) l hl q1 hq1
 have hfr : run tb 13 [.int .i64 6, .int .i64 n, numsD l, .int .i64 q1] = some [.sl (F.encs fs), numsD l, .int .i64 q2] := hfr
 have aw := awake35_run
 have h64 := pow6 hn6
 have hvl : (vocN n).length < 1000000000 := by rw [vocN_len]; omega
 have hvs : ∀ s ∈ vocN n, s.length < 9223372036854775808 := fun s hs => by rw [vocN_short s hs]; omega
 have oR : Ord (vocN n) (2 ^ n) (normS rs) := ⟨some_ok hn6 hrs, by have := rk_norm rs; rw [hrs] at this; exact this⟩
 have nR := norm_norm rs
 generalize normS rs = R at *
 refine run_ir (x := ir1) rfl ?_
 simp (disch := omega) only [ir1, stepQ, stepL, eq_self, aBin, reduceIte, Int.reduceEq, Int.reduceLT, Int.reduceLE, Int.reduceGT, Int.reduceGE, hn, hr, h3, hk, hfr, len_F]
 refine loop_k (σ := List F) fs.length (fun i gs => gs.length ≤ i ∧ ∀ f ∈ gs, f.size < 1000000000 ∧ modelsE (vocN n) f = 0 ∧ modelsS (vocN n) f ≠ 0#64) (fun i gs => [.int .i64 i, strsD (vocN n), numsD (seqS (vocN n) k R gs), .sl (F.encs gs)]) (fun _ _ => [.bool true]) ?_ ?_ 0 [] (Nat.zero_le _) ⟨Nat.le_refl _, by simp⟩
 · rintro i gs M hi ⟨hg, hgs⟩ hM
   obtain ⟨f1, f2, f3, f4, f5, f6⟩ := made_models hn6 (Nat.le_refl 3) (hfs fs[i] (List.getElem_mem hi))
   have hrow := row_F hi
   generalize fs[i] = f at *
   have oT := seqS_ord hn6 (k := k) oR gs
   have hx := nextF_run hn6 oT hk3 (f := f) (by omega) f5
   have hv := revise3_run (vocN n) (seqS (vocN n) k R gs) f hvl hvs (by rw [oT.rk.1]; omega) (by omega) (good_nameB f1)
   have hce : chE (vocN n) (seqS (vocN n) k R gs) f = 0 := by unfold chE; rw [oT.ok, f5]; rfl
   rw [hce, if_pos rfl] at hv
   have hMN : ∀ w, has (modelsS (vocN n) f) w → w < 2 ^ n := fun w hw => by
    rw [f6] at hw; exact ((has_bits h64).1 hw).1
   by_cases hz : modelsS (vocN n) f = 0#64
   · have hnext := hM gs ⟨by omega, hgs⟩
     rw [if_pos hz] at hx
     rw [hz, least_none] at hv
     generalize seqS (vocN n) k R gs = T at *
     simp (disch := omega) only [ir1p3, ir1p2, ir1p0, rowF, stepQ, stepL, eq_self, aBin, reduceIte, Int.reduceEq, Int.reduceLT, Int.reduceLE, Int.reduceGT, Int.reduceGE, bvQ, wu, shl_norm, shr_norm, and1_norm, hi, hrow, hv, hx, callQ_tvi, ibne, wr, natS, hnext]
   · have hnext := hM (gs ++ [f]) ⟨by simp; omega, fun g hg => by
      rcases List.mem_append.1 hg with hg | hg
      · exact hgs g hg
      · rw [List.mem_singleton.1 hg]; exact ⟨by omega, f5, hz⟩⟩
     rw [if_neg hz] at hx
     rw [seqS_snoc] at hnext
     obtain ⟨z, hzz⟩ := set_ne hz
     obtain ⟨u, hu⟩ := oT.ex (hMN z hzz) hzz
     have hl0 : leastS (vocN n) (seqS (vocN n) k R gs) (modelsS (vocN n) f) ≠ 0#64 := ne_of_has hu
     have oX := seqS_ord hn6 (k := k) oR (gs ++ [f])
     rw [seqS_snoc] at oX
     have hb := beliefs3_run (vocN n) _ hvl hvs (show (nextS (vocN n) k (seqS (vocN n) k R gs) (modelsS (vocN n) f)).length < 1000000000 by rw [oX.rk.1]; omega)
     unfold beliefsS at hb
     rw [next_bel oT hk3 oX ⟨z, hMN z hzz, hzz⟩] at hb
     generalize nextS (vocN n) k (seqS (vocN n) k R gs) (modelsS (vocN n) f) = X at *
     generalize leastS (vocN n) (seqS (vocN n) k R gs) (modelsS (vocN n) f) = Lm at *
     generalize seqS (vocN n) k R gs = T at *
     simp (disch := omega) only [ir1p3, ir1p2, ir1p1, ir1p0, rowF, stepQ, stepL, eq_self, aBin, reduceIte, Int.reduceEq, Int.reduceLT, Int.reduceLE, Int.reduceGT, Int.reduceGE, bvQ, wu, shl_norm, shr_norm, and1_norm, hi, hrow, hv, hx, hb, hl0, callQ_tvi, ibne, app_F, wr, natS, hnext]
 · rintro gs M ⟨hg, hgs⟩
   have hq := sequence_run hn6 oR nR hk3 gs (by omega) hgs
   have oT := seqS_ord hn6 (k := k) oR gs
   have hsm := sameR_run (vocN n) hvl (seqS (vocN n) k R gs) (by rw [oT.rk.1]; omega)
   generalize seqS (vocN n) k R gs = T at *
   simp (disch := omega) only [ir1p3, stepQ, stepL, eq_self, aBin, reduceIte, Int.reduceEq, Int.reduceLT, Int.reduceLE, Int.reduceGT, Int.reduceGE, Nat.lt_irrefl, hq, hsm, aw, callQ_tvi, len_F]
end Go.Proofs.YtojkhlijbpmgpaaGreat
