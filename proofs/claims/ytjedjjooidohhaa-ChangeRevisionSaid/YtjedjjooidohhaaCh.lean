/- Plain programs of the functions of the program and lemmas about what they compute. -/
import Derived.Test.YtjedjjooidohhaaWd
import Derived.Test.YtjedjjooidohhaaOd
import Derived.Test.YtjedjjooidohhaaAm6
set_option linter.unusedSimpArgs false
set_option linter.unusedVariables false
set_option linter.unusedSectionVars false
namespace Go.Proofs.Ytjedjjooidohhaa
open Go Am
set_option maxRecDepth 100000
set_option linter.unusedSimpArgs false
set_option linter.unusedVariables false
/-! # change -/
def chE (names : List (List UInt8)) (ranks : List Int) (f : F) : Int := if orderE names ranks ≠ 0 then orderE names ranks else modelsE names f
theorem chModels_run (names : List (List UInt8)) (ranks : List Int) (f : F) (hn : names.length < 1000000000) (hl : ranks.length < 1000000000) (hf : f.size < 1000000000) :
    run tb 53 (strsD names :: numsD ranks :: rowF f) = some (if orderE names ranks ≠ 0 then [bvD 0#64, bvD 0#64, .int .i64 (orderE names ranks)] else [bvD (modelsS names f), bvD (allS names), .int .i64 (modelsE names f)]) := by
  refine run_ir (x := ir53) rfl ?_
  have h1 := validateO_run names ranks hn hl
  have h2 := modelsW_run names f hn hf
  have h3 := all_run names hn
  simp only [rowF] at h2
  by_cases h : orderE names ranks = 0
  · rw [if_neg (by simp [h])]
    rw [h] at h1
    simp (disch := omega) only [ir53, rowF, stepQ, List.map_cons, List.map_nil, List.cons_append, List.nil_append, List.append_nil, List.length_map, List.getElem?_cons_zero, List.getElem?_cons_succ, eq_self, aBin, aUn_not, aUn_neg, reduceIte, Int.reduceEq, Int.reduceLT, Int.reduceLE, Int.reduceGT, Int.reduceGE, h1, ibne, h2, h3]
  · rw [if_pos h]
    simp (disch := omega) only [ir53, rowF, stepQ, List.map_cons, List.map_nil, List.cons_append, List.nil_append, List.append_nil, List.length_map, List.getElem?_cons_zero, List.getElem?_cons_succ, eq_self, aBin, aUn_not, aUn_neg, reduceIte, Int.reduceEq, Int.reduceLT, Int.reduceLE, Int.reduceGT, Int.reduceGE, bvQ, wu, shl_norm, shr_norm, and1_norm, h1, ibne, h]
theorem expand_run (names : List (List UInt8)) (ranks : List Int) (f : F) (hn : names.length < 1000000000) (hl : ranks.length < 1000000000) (hf : f.size < 1000000000) :
    run tb 33 (strsD names :: numsD ranks :: rowF f) = some [bvD (if chE names ranks f = 0 then beliefsS names ranks &&& modelsS names f else 0#64), .int .i64 (chE names ranks f)] := by
  refine run_ir (x := ir33) rfl ?_
  have h1 := chModels_run names ranks f hn hl hf
  have h2 := beliefsO_run names ranks hn hl
  simp only [rowF] at h1
  by_cases h : orderE names ranks = 0
  · rw [if_neg (by simp [h])] at h1
    have he : chE names ranks f = modelsE names f := by simp [chE, h]
    rw [he]
    by_cases hm : modelsE names f = 0
    · rw [if_pos hm]
      rw [hm] at h1 ⊢
      simp (disch := omega) only [ir33, rowF, stepQ, List.map_cons, List.map_nil, List.cons_append, List.nil_append, List.append_nil, List.length_map, List.getElem?_cons_zero, List.getElem?_cons_succ, eq_self, aBin, aUn_not, aUn_neg, reduceIte, Int.reduceEq, Int.reduceLT, Int.reduceLE, Int.reduceGT, Int.reduceGE, bvQ, wu, shl_norm, shr_norm, and1_norm, h1, ibne, h2]
    · rw [if_neg hm]
      simp (disch := omega) only [ir33, rowF, stepQ, List.map_cons, List.map_nil, List.cons_append, List.nil_append, List.append_nil, List.length_map, List.getElem?_cons_zero, List.getElem?_cons_succ, eq_self, aBin, aUn_not, aUn_neg, reduceIte, Int.reduceEq, Int.reduceLT, Int.reduceLE, Int.reduceGT, Int.reduceGE, bvQ, wu, shl_norm, shr_norm, and1_norm, h1, ibne, hm]
  · rw [if_pos h] at h1
    have he : chE names ranks f = orderE names ranks := by simp [chE, h]
    rw [he, if_neg h]
    simp (disch := omega) only [ir33, rowF, stepQ, List.map_cons, List.map_nil, List.cons_append, List.nil_append, List.append_nil, List.length_map, List.getElem?_cons_zero, List.getElem?_cons_succ, eq_self, aBin, aUn_not, aUn_neg, reduceIte, Int.reduceEq, Int.reduceLT, Int.reduceLE, Int.reduceGT, Int.reduceGE, bvQ, wu, shl_norm, shr_norm, and1_norm, h1, ibne, h]
theorem revise_run (names : List (List UInt8)) (ranks : List Int) (f : F) (hn : names.length < 1000000000) (hl : ranks.length < 1000000000) (hf : f.size < 1000000000) :
    run tb 32 (strsD names :: numsD ranks :: rowF f) = some [bvD (if chE names ranks f = 0 then leastS names ranks (modelsS names f) else 0#64), .int .i64 (chE names ranks f)] := by
  refine run_ir (x := ir32) rfl ?_
  have h1 := chModels_run names ranks f hn hl hf
  have h2 := leastO_run names ranks hn hl (modelsS names f)
  simp only [rowF] at h1
  by_cases h : orderE names ranks = 0
  · rw [if_neg (by simp [h])] at h1
    have he : chE names ranks f = modelsE names f := by simp [chE, h]
    rw [he]
    by_cases hm : modelsE names f = 0
    · rw [if_pos hm]
      rw [hm] at h1 ⊢
      simp (disch := omega) only [ir32, rowF, stepQ, List.map_cons, List.map_nil, List.cons_append, List.nil_append, List.append_nil, List.length_map, List.getElem?_cons_zero, List.getElem?_cons_succ, eq_self, aBin, aUn_not, aUn_neg, reduceIte, Int.reduceEq, Int.reduceLT, Int.reduceLE, Int.reduceGT, Int.reduceGE, bvQ, wu, shl_norm, shr_norm, and1_norm, h1, ibne, h2]
    · rw [if_neg hm]
      simp (disch := omega) only [ir32, rowF, stepQ, List.map_cons, List.map_nil, List.cons_append, List.nil_append, List.append_nil, List.length_map, List.getElem?_cons_zero, List.getElem?_cons_succ, eq_self, aBin, aUn_not, aUn_neg, reduceIte, Int.reduceEq, Int.reduceLT, Int.reduceLE, Int.reduceGT, Int.reduceGE, bvQ, wu, shl_norm, shr_norm, and1_norm, h1, ibne, hm]
  · rw [if_pos h] at h1
    have he : chE names ranks f = orderE names ranks := by simp [chE, h]
    rw [he, if_neg h]
    simp (disch := omega) only [ir32, rowF, stepQ, List.map_cons, List.map_nil, List.cons_append, List.nil_append, List.append_nil, List.length_map, List.getElem?_cons_zero, List.getElem?_cons_succ, eq_self, aBin, aUn_not, aUn_neg, reduceIte, Int.reduceEq, Int.reduceLT, Int.reduceLE, Int.reduceGT, Int.reduceGE, bvQ, wu, shl_norm, shr_norm, and1_norm, h1, ibne, h]
theorem contract_run (names : List (List UInt8)) (ranks : List Int) (f : F) (hn : names.length < 1000000000) (hl : ranks.length < 1000000000) (hf : f.size < 1000000000) :
    run tb 28 (strsD names :: numsD ranks :: rowF f) = some [bvD (if chE names ranks f = 0 then beliefsS names ranks ||| leastS names ranks (allS names &&& ~~~modelsS names f) else 0#64), .int .i64 (chE names ranks f)] := by
  refine run_ir (x := ir28) rfl ?_
  have h1 := chModels_run names ranks f hn hl hf
  have h2 := leastO_run names ranks hn hl (allS names &&& ~~~modelsS names f)
  have h3 := beliefsO_run names ranks hn hl
  simp only [rowF] at h1
  by_cases h : orderE names ranks = 0
  · rw [if_neg (by simp [h])] at h1
    have he : chE names ranks f = modelsE names f := by simp [chE, h]
    rw [he]
    by_cases hm : modelsE names f = 0
    · rw [if_pos hm]
      rw [hm] at h1 ⊢
      simp (disch := omega) only [ir28, rowF, stepQ, List.map_cons, List.map_nil, List.cons_append, List.nil_append, List.append_nil, List.length_map, List.getElem?_cons_zero, List.getElem?_cons_succ, eq_self, aBin, aUn_not, aUn_neg, reduceIte, Int.reduceEq, Int.reduceLT, Int.reduceLE, Int.reduceGT, Int.reduceGE, bvQ, wu, shl_norm, shr_norm, and1_norm, h1, ibne, h2, h3]
    · rw [if_neg hm]
      simp (disch := omega) only [ir28, rowF, stepQ, List.map_cons, List.map_nil, List.cons_append, List.nil_append, List.append_nil, List.length_map, List.getElem?_cons_zero, List.getElem?_cons_succ, eq_self, aBin, aUn_not, aUn_neg, reduceIte, Int.reduceEq, Int.reduceLT, Int.reduceLE, Int.reduceGT, Int.reduceGE, bvQ, wu, shl_norm, shr_norm, and1_norm, h1, ibne, hm]
  · rw [if_pos h] at h1
    have he : chE names ranks f = orderE names ranks := by simp [chE, h]
    rw [he, if_neg h]
    simp (disch := omega) only [ir28, rowF, stepQ, List.map_cons, List.map_nil, List.cons_append, List.nil_append, List.append_nil, List.length_map, List.getElem?_cons_zero, List.getElem?_cons_succ, eq_self, aBin, aUn_not, aUn_neg, reduceIte, Int.reduceEq, Int.reduceLT, Int.reduceLE, Int.reduceGT, Int.reduceGE, bvQ, wu, shl_norm, shr_norm, and1_norm, h1, ibne, h]
theorem withdraw_run (names : List (List UInt8)) (ranks : List Int) (f : F) (hn : names.length < 1000000000) (hl : ranks.length < 1000000000) (hf : f.size < 1000000000) :
    run tb 31 (strsD names :: numsD ranks :: rowF f) = some [bvD (if chE names ranks f = 0 then withS names ranks (modelsS names f) else 0#64), .int .i64 (chE names ranks f)] := by
  refine run_ir (x := ir31) rfl ?_
  have h1 := chModels_run names ranks f hn hl hf
  have h2 := levelsO_run names ranks hn hl
  have h3 := beliefsO_run names ranks hn hl
  unfold withS
  simp only [rowF] at h1
  by_cases h : orderE names ranks = 0
  · rw [if_neg (by simp [h])] at h1
    have he : chE names ranks f = modelsE names f := by simp [chE, h]
    rw [he]
    by_cases hm : modelsE names f = 0
    · rw [if_pos hm]
      rw [hm] at h1 ⊢
      generalize modelsS names f = S at *
      by_cases hz : allS names &&& ~~~S = 0#64
      · rw [if_pos hz]
        simp (disch := omega) only [ir31, rowF, stepQ, List.map_cons, List.map_nil, List.cons_append, List.nil_append, List.append_nil, List.length_map, List.getElem?_cons_zero, List.getElem?_cons_succ, eq_self, aBin, aUn_not, aUn_neg, reduceIte, Int.reduceEq, Int.reduceLT, Int.reduceLE, Int.reduceGT, Int.reduceGE, bvQ, wu, shl_norm, shr_norm, and1_norm, h1, ibne, hz, h3]
      · rw [if_neg hz]
        have hlen : (levelsO names ranks).length < 1000000000 := by
          have hlt := maxR_lt (rkOk_in (orderE_zero h).2.2) (orderE_len h).2
          have := maxR_ge ranks
          unfold levelsO
          rw [if_pos h]
          simp [levelsS]; omega
        generalize levelsO names ranks = ls at *
        simp (disch := omega) only [ir31, rowF, stepQ, List.map_cons, List.map_nil, List.cons_append, List.nil_append, List.append_nil, List.length_map, List.getElem?_cons_zero, List.getElem?_cons_succ, eq_self, aBin, aUn_not, aUn_neg, reduceIte, Int.reduceEq, Int.reduceLT, Int.reduceLE, Int.reduceGT, Int.reduceGE, bvQ, wu, shl_norm, shr_norm, and1_norm, h1, ibne, hz, h2, len_V]
        refine loop_k (σ := BitVec 64) ls.length (fun i acc => upTo S acc (ls.drop i) = upTo S 0#64 ls) (fun i acc => [bvD acc, .int .i64 i]) (fun i _ => [bvD (upTo S 0#64 ls), .int .i64 0]) ?_ ?_ 0 0#64 (Nat.zero_le _) (by rw [List.drop_zero])
        · rintro i acc L hi hp hL
          rw [upTo_drop S acc hi] at hp
          by_cases hc : ls[i] &&& ~~~S = 0#64
          · rw [if_pos hc] at hp
            have hnext := hL _ hp
            simp (disch := omega) only [ir31p1, stepQ, List.map_cons, List.map_nil, List.cons_append, List.nil_append, List.append_nil, List.length_map, List.getElem?_cons_zero, List.getElem?_cons_succ, eq_self, aBin, aUn_not, aUn_neg, reduceIte, Int.reduceEq, Int.reduceLT, Int.reduceLE, Int.reduceGT, Int.reduceGE, bvQ, wu, shl_norm, shr_norm, and1_norm, hi, row_V, hc, wr, natS, hnext]
          · rw [if_neg hc] at hp
            simp (disch := omega) only [ir31p1, ir31p0, stepQ, List.map_cons, List.map_nil, List.cons_append, List.nil_append, List.append_nil, List.length_map, List.getElem?_cons_zero, List.getElem?_cons_succ, eq_self, aBin, aUn_not, aUn_neg, reduceIte, Int.reduceEq, Int.reduceLT, Int.reduceLE, Int.reduceGT, Int.reduceGE, bvQ, wu, shl_norm, shr_norm, and1_norm, hi, row_V, hc, hp]
        · rintro acc L hp
          rw [List.drop_length] at hp
          have hp' : acc = upTo S 0#64 ls := hp
          simp (disch := omega) only [ir31p1, ir31p0, stepQ, List.map_cons, List.map_nil, List.cons_append, List.nil_append, List.append_nil, List.length_map, List.getElem?_cons_zero, List.getElem?_cons_succ, eq_self, aBin, aUn_not, aUn_neg, reduceIte, Int.reduceEq, Int.reduceLT, Int.reduceLE, Int.reduceGT, Int.reduceGE, bvQ, wu, shl_norm, shr_norm, and1_norm, Nat.lt_irrefl, hp']
    · rw [if_neg hm]
      simp (disch := omega) only [ir31, rowF, stepQ, List.map_cons, List.map_nil, List.cons_append, List.nil_append, List.append_nil, List.length_map, List.getElem?_cons_zero, List.getElem?_cons_succ, eq_self, aBin, aUn_not, aUn_neg, reduceIte, Int.reduceEq, Int.reduceLT, Int.reduceLE, Int.reduceGT, Int.reduceGE, bvQ, wu, shl_norm, shr_norm, and1_norm, h1, ibne, hm]
  · rw [if_pos h] at h1
    have he : chE names ranks f = orderE names ranks := by simp [chE, h]
    rw [he, if_neg h]
    simp (disch := omega) only [ir31, rowF, stepQ, List.map_cons, List.map_nil, List.cons_append, List.nil_append, List.append_nil, List.length_map, List.getElem?_cons_zero, List.getElem?_cons_succ, eq_self, aBin, aUn_not, aUn_neg, reduceIte, Int.reduceEq, Int.reduceLT, Int.reduceLE, Int.reduceGT, Int.reduceGE, bvQ, wu, shl_norm, shr_norm, and1_norm, h1, ibne, h]
end Go.Proofs.Ytjedjjooidohhaa

namespace Go.Proofs.Ytjedjjooidohhaa
open Go Am
set_option maxRecDepth 100000
set_option linter.unusedSimpArgs false
set_option linter.unusedVariables false
/-! # the statements about change -/
theorem short_ok {names : List (List UInt8)} (h : vocOk names = true) : names.length < 1000000000 ∧ ∀ s ∈ names, s.length < 4611686018427387904 :=
  ⟨by have := vocOk_len h; omega, fun s hs => by have := validName_le' ((okNames_asc (vocOk_names h)).2 s hs); omega⟩
theorem theory33_run (names : List (List UInt8)) (ranks : D) (hv : vocOk names = true) (S : BitVec 64) : run tb 29 [strsD names, ranks, bvD S] = some (rowF (thy names (S &&& allS names))) := by
  refine run_ir (x := ir29) rfl ?_
  have h1 := all3_run names (short_ok hv).1 (short_ok hv).2
  have h2 := theoryT_run names hv (S &&& allS names)
  simp only [rowF, List.cons_append, List.nil_append] at h2
  simp (disch := omega) only [ir29, rowF, stepQ, List.map_cons, List.map_nil, List.cons_append, List.nil_append, List.append_nil, List.length_map, List.getElem?_cons_zero, List.getElem?_cons_succ, eq_self, aBin, aUn_not, aUn_neg, reduceIte, Int.reduceEq, Int.reduceLT, Int.reduceLE, Int.reduceGT, Int.reduceGE, bvQ, wu, shl_norm, shr_norm, and1_norm, h1, h2]
abbrev rk33 : List Int := [2, 1, 2, 0]
theorem ord33 : orderE (vocN 2) rk33 = 0 := by decide +kernel
theorem awake33_run : run tb 30 [] = some [.bool true] := by
  refine run_ir (x := ir30) rfl ?_
  have hv : vocOk (vocN 2) = true := vocN_ok (by omega)
  have hl := vocN_len 2
  have hlen : (vocN 2).length < 1000000000 := by omega
  have hvoc := voc_run 2 (by omega)
  have hn2 : ((2 : Nat) : Int) = 2 := rfl
  rw [hn2] at hvoc
  have hmk : PO.eval (.mk 1 4) [.int .i64 2, .int .i64 1, .int .i64 2, .int .i64 0] = some [numsD rk33] := rfl
  have th := fun S => theory33_run (vocN 2) (numsD rk33) hv S
  have ch : ∀ S, chE (vocN 2) rk33 (thy (vocN 2) S) = 0 := fun S => by
    unfold chE; rw [ord33, (thy_models hv S).1]; rfl
  have sz : ∀ S, (thy (vocN 2) S).size < 1000000000 := fun S => by have := (thy_ok (vocOk_names hv) S).2.1; rw [hl] at this; omega
  have rv := fun S => revise_run (vocN 2) rk33 (thy (vocN 2) S) hlen (by decide) (sz S)
  have co := fun S => contract_run (vocN 2) rk33 (thy (vocN 2) S) hlen (by decide) (sz S)
  have wi := fun S => withdraw_run (vocN 2) rk33 (thy (vocN 2) S) hlen (by decide) (sz S)
  simp only [ch, if_true, (thy_models hv _).2, rowF] at rv co wi th
  have t10 := th 10#64
  have t12 := th 12#64
  have t3 := th 3#64
  have t5 := th 5#64
  have r3 : leastS (vocN 2) rk33 ((3#64 &&& allS (vocN 2)) &&& allS (vocN 2)) = 2#64 := by decide +kernel
  have r5 : leastS (vocN 2) rk33 ((5#64 &&& allS (vocN 2)) &&& allS (vocN 2)) = 5#64 := by decide +kernel
  have c12 : beliefsS (vocN 2) rk33 ||| leastS (vocN 2) rk33 (allS (vocN 2) &&& ~~~((12#64 &&& allS (vocN 2)) &&& allS (vocN 2))) = 10#64 := by decide +kernel
  have w10 : withS (vocN 2) rk33 ((10#64 &&& allS (vocN 2)) &&& allS (vocN 2)) = 15#64 := by decide +kernel
  have v3 := rv (3#64 &&& allS (vocN 2))
  have v5 := rv (5#64 &&& allS (vocN 2))
  have d12 := co (12#64 &&& allS (vocN 2))
  have u10 := wi (10#64 &&& allS (vocN 2))
  rw [r3] at v3
  rw [r5] at v5
  rw [c12] at d12
  rw [w10] at u10
  have l10 : D.int .u64 10 = bvD 10#64 := rfl
  have l12 : D.int .u64 12 = bvD 12#64 := rfl
  have l3 : D.int .u64 3 = bvD 3#64 := rfl
  have l5 : D.int .u64 5 = bvD 5#64 := rfl
  have l2 : D.int .u64 2 = bvD 2#64 := rfl
  have l15 : D.int .u64 15 = bvD 15#64 := rfl
  simp (disch := omega) only [ir30, rowF, stepQ, List.map_cons, List.map_nil, List.cons_append, List.nil_append, List.append_nil, List.length_map, List.getElem?_cons_zero, List.getElem?_cons_succ, eq_self, aBin, aUn_not, aUn_neg, reduceIte, Int.reduceEq, Int.reduceLT, Int.reduceLE, Int.reduceGT, Int.reduceGE, bvQ, wu, shl_norm, shr_norm, and1_norm, hvoc, hmk, l10, l12, l3, l5, l2, l15, t10, t12, t3, t5, v3, v5, d12, u10, callQ_tvi]
/-- what a law of this chapter is given: an order, two formulas, all of them valid -/
theorem given33 (l0 : List Int) : ∃ (l : List Int) (n : Nat) (rs : List Int) (f g : F) (p q b c e : Nat), l.length ≤ 2000 ∧ n ≤ 3 ∧ rs.length = 2 ^ n ∧ Made n 3 f ∧ Made n 3 g ∧
    run tb 8 [numsD l0] = some [numsD l, .int .i64 0] ∧ run tb 9 [.int .i64 1, .int .i64 3, numsD l, .int .i64 0] = some [.int .i64 n, numsD l, .int .i64 p] ∧
    run tb 10 [.int .i64 n, numsD l, .int .i64 p] = some [strsD (vocN n), numsD (normS rs), numsD l, .int .i64 q] ∧
    run tb 26 [.int .i64 n, .int .i64 3, numsD l, .int .i64 q] = some [.int .i64 f.op, .str f.name, .sl (F.encs f.args), numsD l, .int .i64 b] ∧
    run tb 26 [.int .i64 n, .int .i64 3, numsD l, .int .i64 b] = some [.int .i64 g.op, .str g.name, .sl (F.encs g.args), numsD l, .int .i64 c] := by
  obtain ⟨l, hl, hn⟩ := new_run l0
  obtain ⟨r, p, r1, r2, hp, hr⟩ := range_run 1 3 l 0 hl (by omega) (by omega) (by omega) (by omega)
  obtain ⟨n, rfl⟩ := Int.eq_ofNat_of_zero_le (show 0 ≤ r by omega)
  obtain ⟨rs, q, h1, h2, h3⟩ := some_run n (by omega) l p hl hp
  obtain ⟨f, b, hb, hf, hrf⟩ := formula_run n (by omega) (by omega) l hl 3 (by omega) q h2
  obtain ⟨g, c, hc, hg, hrg⟩ := formula_run n (by omega) (by omega) l hl 3 (by omega) b hb
  exact ⟨l, n, rs, f, g, p, q, b, c, 0, hl, by omega, h1, hf, hg, hn, hr, h3, hrf, hrg⟩
theorem contraction_run (l0 : List Int) : run tb 4 [numsD l0] = some [.bool true] := by
  obtain ⟨l, n, rs, f, g, p, q, b, c, e, hl, hn, hrs, hf, hg, e1, e2, e3, e4, e5⟩ := given33 l0
  refine run_ir (x := ir4) rfl ?_
  have hn6 : n ≤ 6 := by omega
  have hv := vocN_ok hn6
  have ho := some_ok hn6 hrs
  obtain ⟨f1, f2, f3, f4, f5, f6⟩ := made_models hn6 (Nat.le_refl 3) hf
  obtain ⟨g1, g2, g3, g4, g5, g6⟩ := made_models hn6 (Nat.le_refl 3) hg
  have hpow := pow3 hn6
  have hnl : (normS rs).length < 1000000000 := by rw [norm_len]; omega
  have hvl := (short_ok hv).1
  obtain ⟨p1, p2⟩ := pr5_models hv f1 g1 f2 g2 f3 g3 f4 g4
  rw [vocN_len] at p2
  have hps : (pr 5 f g).size < 1000000000 := by simp only [pr, F.size, F.sizes]; omega
  have hce : ∀ h : F, modelsE (vocN n) h = 0 → chE (vocN n) (normS rs) h = 0 := fun h hh => by unfold chE; rw [ho, hh]; rfl
  have hL := leastS_lst ho
  have hA := has_all ho
  have hM : ∀ w, has (modN (vocN n) f (2 ^ n)) w → w < (normS rs).length := fun w hw => by
    rw [norm_len, hrs]; exact ((has_bits (pow6 hn6)).1 hw).1
  have hbel := beliefs3_run (vocN n) (normS rs) hvl (short_ok hv).2 hnl
  have hmod := modelsR_run (vocN n) f hvl (short_ok hv).2 (by omega) (good_nameB f1)
  have hall := all3_run (vocN n) hvl (short_ok hv).2
  have cf := contract_run (vocN n) (normS rs) f hvl hnl (by omega)
  have cg := contract_run (vocN n) (normS rs) g hvl hnl (by omega)
  have cp := contract_run (vocN n) (normS rs) (pr 5 f g) hvl hnl hps
  have tht := theory33_run (vocN n) (numsD (normS rs)) hv (modN (vocN n) f (2 ^ n))
  have hma : modN (vocN n) f (2 ^ n) &&& allS (vocN n) = modN (vocN n) f (2 ^ n) := set_eq fun w => by
    rw [has_and]; exact ⟨fun h => h.1, fun h => ⟨h, (hA w).2 (hM w h)⟩⟩
  rw [hma] at tht
  obtain ⟨t1, t2⟩ := thy_models hv (modN (vocN n) f (2 ^ n))
  rw [hma] at t2
  have ht := (thy_ok (vocOk_names hv) (modN (vocN n) f (2 ^ n))).2.1
  rw [vocN_len] at ht
  have hp6 := pow6 hn6
  have ct := contract_run (vocN n) (normS rs) (thy (vocN n) (modN (vocN n) f (2 ^ n))) hvl hnl (by omega)
  rw [hce _ f5, if_pos rfl, f6] at cf
  rw [hce _ g5, if_pos rfl, g6] at cg
  rw [hce _ p1, if_pos rfl, p2] at cp
  rw [hce _ t1, if_pos rfl, t2] at ct
  rw [f5, f6] at hmod
  have k2 := con2 hL hA (M := modN (vocN n) f (2 ^ n))
  have k3 := con3 hL hA hM
  have k4 := con4 hL hA (M := modN (vocN n) f (2 ^ n))
  have k6 := con6 hL hA (M := modN (vocN n) f (2 ^ n)) (K := modN (vocN n) g (2 ^ n))
  have k7 := con7 hL hA (M := modN (vocN n) f (2 ^ n)) (K := modN (vocN n) g (2 ^ n))
  have k1 := con1 hL (leastS (vocN n) (normS rs) (allS (vocN n) &&& ~~~modN (vocN n) f (2 ^ n)))
  have hprf : PO.eval (.mk 3 2) [.int .i64 f.op, .str f.name, .sl (F.encs f.args), .int .i64 g.op, .str g.name, .sl (F.encs g.args)] = some [.sl (F.encs [f, g])] := by rw [ev_mk32]; simp [F.encs, F.enc_eq]
  have hrp : rowF (pr 5 f g) = [.int .i64 5, .str [], .sl (F.encs [f, g])] := rfl
  rw [hrp] at cp
  have aw := awake33_run
  unfold beliefsS at hbel cf cg cp ct
  simp only [rowF, List.cons_append, List.nil_append] at cf cg cp ct hmod tht
  clear hce hL hA hM hma t2 f6 g6 p2
  generalize thy (vocN n) (modN (vocN n) f (2 ^ n)) = tf at *
  generalize leastS (vocN n) (normS rs) (allS (vocN n) &&& ~~~(modN (vocN n) f (2 ^ n) &&& modN (vocN n) g (2 ^ n))) = Lc at *
  generalize leastS (vocN n) (normS rs) (allS (vocN n) &&& ~~~modN (vocN n) f (2 ^ n)) = La at *
  generalize leastS (vocN n) (normS rs) (allS (vocN n) &&& ~~~modN (vocN n) g (2 ^ n)) = Lb at *
  generalize leastS (vocN n) (normS rs) (BitVec.allOnes 64) = B at *
  generalize modN (vocN n) f (2 ^ n) = M at *
  generalize modN (vocN n) g (2 ^ n) = K at *
  generalize allS (vocN n) = A at *
  generalize ha : B ||| La = a at *
  generalize hb' : B ||| Lb = b' at *
  generalize hc' : B ||| Lc = c' at *
  by_cases d1 : B &&& ~~~M = 0#64
  · by_cases d2 : M = A
    · subst d2
      by_cases d3 : c' &&& ~~~M = 0#64
      · simp (disch := omega) only [ir4, ir4p0, stepQ, List.map_cons, List.map_nil, List.cons_append, List.nil_append, List.append_nil, List.length_map, List.getElem?_cons_zero, List.getElem?_cons_succ, eq_self, aBin, aUn_not, aUn_neg, reduceIte, Int.reduceEq, Int.reduceLT, Int.reduceLE, Int.reduceGT, Int.reduceGE, bvQ, wu, shl_norm, shr_norm, and1_norm, e1, e2, e3, e4, e5, hbel, hmod, hall, cf, cg, hprf, cp, tht, ct, callQ_tvi, ibne, k1, d1, k4, k6, d3, aw]
      · have k7' := k7 d3
        simp (disch := omega) only [ir4, ir4p0, stepQ, List.map_cons, List.map_nil, List.cons_append, List.nil_append, List.append_nil, List.length_map, List.getElem?_cons_zero, List.getElem?_cons_succ, eq_self, aBin, aUn_not, aUn_neg, reduceIte, Int.reduceEq, Int.reduceLT, Int.reduceLE, Int.reduceGT, Int.reduceGE, bvQ, wu, shl_norm, shr_norm, and1_norm, e1, e2, e3, e4, e5, hbel, hmod, hall, cf, cg, hprf, cp, tht, ct, callQ_tvi, ibne, k1, d1, k4, k6, d3, aw, k7']
    · have k3' := k3 d2
      by_cases d3 : c' &&& ~~~M = 0#64
      · simp (disch := omega) only [ir4, ir4p0, stepQ, List.map_cons, List.map_nil, List.cons_append, List.nil_append, List.append_nil, List.length_map, List.getElem?_cons_zero, List.getElem?_cons_succ, eq_self, aBin, aUn_not, aUn_neg, reduceIte, Int.reduceEq, Int.reduceLT, Int.reduceLE, Int.reduceGT, Int.reduceGE, bvQ, wu, shl_norm, shr_norm, and1_norm, e1, e2, e3, e4, e5, hbel, hmod, hall, cf, cg, hprf, cp, tht, ct, callQ_tvi, ibne, k1, d1, k4, k6, d3, aw, d2, k3']
      · have k7' := k7 d3
        simp (disch := omega) only [ir4, ir4p0, stepQ, List.map_cons, List.map_nil, List.cons_append, List.nil_append, List.append_nil, List.length_map, List.getElem?_cons_zero, List.getElem?_cons_succ, eq_self, aBin, aUn_not, aUn_neg, reduceIte, Int.reduceEq, Int.reduceLT, Int.reduceLE, Int.reduceGT, Int.reduceGE, bvQ, wu, shl_norm, shr_norm, and1_norm, e1, e2, e3, e4, e5, hbel, hmod, hall, cf, cg, hprf, cp, tht, ct, callQ_tvi, ibne, k1, d1, k4, k6, d3, aw, d2, k3', k7']
  · have k2' := k2 d1
    subst k2'
    by_cases d2 : M = A
    · subst d2
      by_cases d3 : c' &&& ~~~M = 0#64
      · simp (disch := omega) only [ir4, ir4p0, stepQ, List.map_cons, List.map_nil, List.cons_append, List.nil_append, List.append_nil, List.length_map, List.getElem?_cons_zero, List.getElem?_cons_succ, eq_self, aBin, aUn_not, aUn_neg, reduceIte, Int.reduceEq, Int.reduceLT, Int.reduceLE, Int.reduceGT, Int.reduceGE, bvQ, wu, shl_norm, shr_norm, and1_norm, e1, e2, e3, e4, e5, hbel, hmod, hall, cf, cg, hprf, cp, tht, ct, callQ_tvi, ibne, k1, d1, k4, k6, d3, aw]
      · have k7' := k7 d3
        simp (disch := omega) only [ir4, ir4p0, stepQ, List.map_cons, List.map_nil, List.cons_append, List.nil_append, List.append_nil, List.length_map, List.getElem?_cons_zero, List.getElem?_cons_succ, eq_self, aBin, aUn_not, aUn_neg, reduceIte, Int.reduceEq, Int.reduceLT, Int.reduceLE, Int.reduceGT, Int.reduceGE, bvQ, wu, shl_norm, shr_norm, and1_norm, e1, e2, e3, e4, e5, hbel, hmod, hall, cf, cg, hprf, cp, tht, ct, callQ_tvi, ibne, k1, d1, k4, k6, d3, aw, k7']
    · have k3' := k3 d2
      by_cases d3 : c' &&& ~~~M = 0#64
      · simp (disch := omega) only [ir4, ir4p0, stepQ, List.map_cons, List.map_nil, List.cons_append, List.nil_append, List.append_nil, List.length_map, List.getElem?_cons_zero, List.getElem?_cons_succ, eq_self, aBin, aUn_not, aUn_neg, reduceIte, Int.reduceEq, Int.reduceLT, Int.reduceLE, Int.reduceGT, Int.reduceGE, bvQ, wu, shl_norm, shr_norm, and1_norm, e1, e2, e3, e4, e5, hbel, hmod, hall, cf, cg, hprf, cp, tht, ct, callQ_tvi, ibne, k1, d1, k4, k6, d3, aw, d2, k3']
      · have k7' := k7 d3
        simp (disch := omega) only [ir4, ir4p0, stepQ, List.map_cons, List.map_nil, List.cons_append, List.nil_append, List.append_nil, List.length_map, List.getElem?_cons_zero, List.getElem?_cons_succ, eq_self, aBin, aUn_not, aUn_neg, reduceIte, Int.reduceEq, Int.reduceLT, Int.reduceLE, Int.reduceGT, Int.reduceGE, bvQ, wu, shl_norm, shr_norm, and1_norm, e1, e2, e3, e4, e5, hbel, hmod, hall, cf, cg, hprf, cp, tht, ct, callQ_tvi, ibne, k1, d1, k4, k6, d3, aw, d2, k3', k7']
end Go.Proofs.Ytjedjjooidohhaa
