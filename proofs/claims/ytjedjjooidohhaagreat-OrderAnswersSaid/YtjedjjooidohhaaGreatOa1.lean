/- Plain programs of the functions of the program and lemmas about what they compute. -/
import Derived.Test.YtjedjjooidohhaaGreatOd
import Derived.Test.YtjedjjooidohhaaGreatWd
set_option linter.unusedSimpArgs false
set_option linter.unusedVariables false
set_option linter.unusedSectionVars false
namespace Go.Proofs.YtjedjjooidohhaaGreat
open Go Am
set_option maxRecDepth 100000
set_option linter.unusedSimpArgs false
set_option linter.unusedVariables false
/-! # the answers about orders: program and reference -/
theorem equalS_run (a b : List (List UInt8)) (ha : a.length < 1000000000) : run tb 42 [strsD a, strsD b] = some [.bool (decide (a = b))] := by
  refine run_ir (x := ir42) rfl ?_
  by_cases hl : a.length = b.length
  · simp (disch := omega) only [ir42, stepQ, List.map_cons, List.map_nil, List.cons_append, List.nil_append, List.append_nil, List.length_map, List.getElem?_cons_zero, List.getElem?_cons_succ, eq_self, aBin, aUn_not, aUn_neg, reduceIte, Int.reduceEq, Int.reduceLT, Int.reduceLE, Int.reduceGT, Int.reduceGE, len_S, ibne, hl]
    have h0 : decide (a = b) = decide (a.drop 0 = b.drop 0) := by simp
    rw [h0]
    refine loop_k (σ := Unit) b.length (fun _ _ => True) (fun i _ => [.int .i64 i]) (fun i _ => [.bool (decide (a.drop i = b.drop i))]) ?_ ?_ 0 () (Nat.zero_le _) trivial
    · rintro i _ L hi _ hL
      have hnext := hL () trivial
      have hia : i < a.length := by omega
      have e1 : a.drop i = a[i] :: a.drop (i + 1) := List.drop_eq_getElem_cons hia
      have e2 : b.drop i = b[i] :: b.drop (i + 1) := List.drop_eq_getElem_cons hi
      rw [e1, e2]
      by_cases h : a[i] = b[i]
      · have : decide (a[i] :: a.drop (i + 1) = b[i] :: b.drop (i + 1)) = decide (a.drop (i + 1) = b.drop (i + 1)) := by rw [h]; exact decide_eq_decide.2 ⟨fun e => (List.cons.inj e).2, fun e => by rw [e]⟩
        rw [this]
        have b1 : (a[i] == b[i]) = true := beq_iff_eq.2 h
        have b2 : (a[i] != b[i]) = false := by rw [bne, b1]; rfl
        simp (disch := omega) only [ir42p0, stepQ, List.map_cons, List.map_nil, List.cons_append, List.nil_append, List.append_nil, List.length_map, List.getElem?_cons_zero, List.getElem?_cons_succ, eq_self, aBin, aUn_not, aUn_neg, reduceIte, Int.reduceEq, Int.reduceLT, Int.reduceLE, Int.reduceGT, Int.reduceGE, len_S, hi, hia, row_S, ibne, b1, b2, wr, natS, hnext]
      · have : decide (a[i] :: a.drop (i + 1) = b[i] :: b.drop (i + 1)) = false := decide_eq_false fun e => h (List.cons.inj e).1
        rw [this]
        have b1 : (a[i] == b[i]) = false := beq_eq_false_iff_ne.2 h
        have b2 : (a[i] != b[i]) = true := by rw [bne, b1]; rfl
        simp (disch := omega) only [ir42p0, stepQ, List.map_cons, List.map_nil, List.cons_append, List.nil_append, List.append_nil, List.length_map, List.getElem?_cons_zero, List.getElem?_cons_succ, eq_self, aBin, aUn_not, aUn_neg, reduceIte, Int.reduceEq, Int.reduceLT, Int.reduceLE, Int.reduceGT, Int.reduceGE, len_S, hi, hia, row_S, ibne, b1, b2, wr, natS]
    · rintro _ L _
      have : decide (a.drop b.length = b.drop b.length) = true := by simp [← hl]
      rw [this]
      simp (disch := omega) only [ir42p0, stepQ, List.map_cons, List.map_nil, List.cons_append, List.nil_append, List.append_nil, List.length_map, List.getElem?_cons_zero, List.getElem?_cons_succ, eq_self, aBin, aUn_not, aUn_neg, reduceIte, Int.reduceEq, Int.reduceLT, Int.reduceLE, Int.reduceGT, Int.reduceGE, len_S, hl, Nat.lt_irrefl]
  · have : decide (a = b) = false := by simp; rintro rfl; exact hl rfl
    rw [this]
    simp (disch := omega) only [ir42, stepQ, List.map_cons, List.map_nil, List.cons_append, List.nil_append, List.append_nil, List.length_map, List.getElem?_cons_zero, List.getElem?_cons_succ, eq_self, aBin, aUn_not, aUn_neg, reduceIte, Int.reduceEq, Int.reduceLT, Int.reduceLE, Int.reduceGT, Int.reduceGE, len_S, ibne, hl]
theorem equalI_run (a b : List Int) (ha : a.length < 1000000000) : run tb 43 [numsD a, numsD b] = some [.bool (decide (a = b))] := by
  refine run_ir (x := ir43) rfl ?_
  by_cases hl : a.length = b.length
  · simp (disch := omega) only [ir43, stepQ, List.map_cons, List.map_nil, List.cons_append, List.nil_append, List.append_nil, List.length_map, List.getElem?_cons_zero, List.getElem?_cons_succ, eq_self, aBin, aUn_not, aUn_neg, reduceIte, Int.reduceEq, Int.reduceLT, Int.reduceLE, Int.reduceGT, Int.reduceGE, len_N, ibne, hl]
    have h0 : decide (a = b) = decide (a.drop 0 = b.drop 0) := by simp
    rw [h0]
    refine loop_k (σ := Unit) b.length (fun _ _ => True) (fun i _ => [.int .i64 i]) (fun i _ => [.bool (decide (a.drop i = b.drop i))]) ?_ ?_ 0 () (Nat.zero_le _) trivial
    · rintro i _ L hi _ hL
      have hnext := hL () trivial
      have hia : i < a.length := by omega
      have e1 : a.drop i = a[i] :: a.drop (i + 1) := List.drop_eq_getElem_cons hia
      have e2 : b.drop i = b[i] :: b.drop (i + 1) := List.drop_eq_getElem_cons hi
      rw [e1, e2]
      by_cases h : a[i] = b[i]
      · have : decide (a[i] :: a.drop (i + 1) = b[i] :: b.drop (i + 1)) = decide (a.drop (i + 1) = b.drop (i + 1)) := by rw [h]; exact decide_eq_decide.2 ⟨fun e => (List.cons.inj e).2, fun e => by rw [e]⟩
        rw [this]
        have b1 : True := trivial
        have b2 : True := trivial
        simp (disch := omega) only [ir43p0, stepQ, List.map_cons, List.map_nil, List.cons_append, List.nil_append, List.append_nil, List.length_map, List.getElem?_cons_zero, List.getElem?_cons_succ, eq_self, aBin, aUn_not, aUn_neg, reduceIte, Int.reduceEq, Int.reduceLT, Int.reduceLE, Int.reduceGT, Int.reduceGE, len_N, hi, hia, row_N, ibne, h, b1, b2, wr, natS, hnext]
      · have : decide (a[i] :: a.drop (i + 1) = b[i] :: b.drop (i + 1)) = false := decide_eq_false fun e => h (List.cons.inj e).1
        rw [this]
        have b1 : True := trivial
        have b2 : True := trivial
        simp (disch := omega) only [ir43p0, stepQ, List.map_cons, List.map_nil, List.cons_append, List.nil_append, List.append_nil, List.length_map, List.getElem?_cons_zero, List.getElem?_cons_succ, eq_self, aBin, aUn_not, aUn_neg, reduceIte, Int.reduceEq, Int.reduceLT, Int.reduceLE, Int.reduceGT, Int.reduceGE, len_N, hi, hia, row_N, ibne, h, b1, b2, wr, natS]
    · rintro _ L _
      have : decide (a.drop b.length = b.drop b.length) = true := by simp [← hl]
      rw [this]
      simp (disch := omega) only [ir43p0, stepQ, List.map_cons, List.map_nil, List.cons_append, List.nil_append, List.append_nil, List.length_map, List.getElem?_cons_zero, List.getElem?_cons_succ, eq_self, aBin, aUn_not, aUn_neg, reduceIte, Int.reduceEq, Int.reduceLT, Int.reduceLE, Int.reduceGT, Int.reduceGE, len_N, hl, Nat.lt_irrefl]
  · have : decide (a = b) = false := by simp; rintro rfl; exact hl rfl
    rw [this]
    simp (disch := omega) only [ir43, stepQ, List.map_cons, List.map_nil, List.cons_append, List.nil_append, List.append_nil, List.length_map, List.getElem?_cons_zero, List.getElem?_cons_succ, eq_self, aBin, aUn_not, aUn_neg, reduceIte, Int.reduceEq, Int.reduceLT, Int.reduceLE, Int.reduceGT, Int.reduceGE, len_N, ibne, hl]
theorem sameN_run (a b : List (List UInt8)) (ha : a.length < 1000000000) : run tb 44 [strsD a, strsD b] = some [.bool (decide (a = b))] := by
  refine run_ir (x := ir44) rfl ?_
  by_cases hl : a.length = b.length
  · simp (disch := omega) only [ir44, stepQ, List.map_cons, List.map_nil, List.cons_append, List.nil_append, List.append_nil, List.length_map, List.getElem?_cons_zero, List.getElem?_cons_succ, eq_self, aBin, aUn_not, aUn_neg, reduceIte, Int.reduceEq, Int.reduceLT, Int.reduceLE, Int.reduceGT, Int.reduceGE, len_S, ibne, hl]
    have h0 : decide (a = b) = decide (a.drop 0 = b.drop 0) := by simp
    rw [h0]
    refine loop_k (σ := Unit) b.length (fun _ _ => True) (fun i _ => [.int .i64 i]) (fun i _ => [.bool (decide (a.drop i = b.drop i))]) ?_ ?_ 0 () (Nat.zero_le _) trivial
    · rintro i _ L hi _ hL
      have hnext := hL () trivial
      have hia : i < a.length := by omega
      have e1 : a.drop i = a[i] :: a.drop (i + 1) := List.drop_eq_getElem_cons hia
      have e2 : b.drop i = b[i] :: b.drop (i + 1) := List.drop_eq_getElem_cons hi
      rw [e1, e2]
      by_cases h : a[i] = b[i]
      · have : decide (a[i] :: a.drop (i + 1) = b[i] :: b.drop (i + 1)) = decide (a.drop (i + 1) = b.drop (i + 1)) := by rw [h]; exact decide_eq_decide.2 ⟨fun e => (List.cons.inj e).2, fun e => by rw [e]⟩
        rw [this]
        have b1 : (a[i] == b[i]) = true := beq_iff_eq.2 h
        have b2 : (a[i] != b[i]) = false := by rw [bne, b1]; rfl
        simp (disch := omega) only [ir44p0, stepQ, List.map_cons, List.map_nil, List.cons_append, List.nil_append, List.append_nil, List.length_map, List.getElem?_cons_zero, List.getElem?_cons_succ, eq_self, aBin, aUn_not, aUn_neg, reduceIte, Int.reduceEq, Int.reduceLT, Int.reduceLE, Int.reduceGT, Int.reduceGE, len_S, hi, hia, row_S, ibne, b1, b2, wr, natS, hnext]
      · have : decide (a[i] :: a.drop (i + 1) = b[i] :: b.drop (i + 1)) = false := decide_eq_false fun e => h (List.cons.inj e).1
        rw [this]
        have b1 : (a[i] == b[i]) = false := beq_eq_false_iff_ne.2 h
        have b2 : (a[i] != b[i]) = true := by rw [bne, b1]; rfl
        simp (disch := omega) only [ir44p0, stepQ, List.map_cons, List.map_nil, List.cons_append, List.nil_append, List.append_nil, List.length_map, List.getElem?_cons_zero, List.getElem?_cons_succ, eq_self, aBin, aUn_not, aUn_neg, reduceIte, Int.reduceEq, Int.reduceLT, Int.reduceLE, Int.reduceGT, Int.reduceGE, len_S, hi, hia, row_S, ibne, b1, b2, wr, natS]
    · rintro _ L _
      have : decide (a.drop b.length = b.drop b.length) = true := by simp [← hl]
      rw [this]
      simp (disch := omega) only [ir44p0, stepQ, List.map_cons, List.map_nil, List.cons_append, List.nil_append, List.append_nil, List.length_map, List.getElem?_cons_zero, List.getElem?_cons_succ, eq_self, aBin, aUn_not, aUn_neg, reduceIte, Int.reduceEq, Int.reduceLT, Int.reduceLE, Int.reduceGT, Int.reduceGE, len_S, hl, Nat.lt_irrefl]
  · have : decide (a = b) = false := by simp; rintro rfl; exact hl rfl
    rw [this]
    simp (disch := omega) only [ir44, stepQ, List.map_cons, List.map_nil, List.cons_append, List.nil_append, List.append_nil, List.length_map, List.getElem?_cons_zero, List.getElem?_cons_succ, eq_self, aBin, aUn_not, aUn_neg, reduceIte, Int.reduceEq, Int.reduceLT, Int.reduceLE, Int.reduceGT, Int.reduceGE, len_S, ibne, hl]
theorem sameO_run (a b : List (List UInt8)) (x y : List Int) (ha : a.length < 1000000000) (hx : x.length < 1000000000) : run tb 21 [strsD a, numsD x, strsD b, numsD y] = some [.bool (decide (a = b) && decide (x = y))] := by
  refine run_ir (x := ir21) rfl ?_
  have h1 := equalS_run a b ha
  have h2 := equalI_run x y hx
  cases hd : decide (a = b) with
  | true => rw [hd] at h1; simp (disch := omega) only [ir21, stepQ, List.map_cons, List.map_nil, List.cons_append, List.nil_append, List.append_nil, List.length_map, List.getElem?_cons_zero, List.getElem?_cons_succ, eq_self, aBin, aUn_not, aUn_neg, reduceIte, Int.reduceEq, Int.reduceLT, Int.reduceLE, Int.reduceGT, Int.reduceGE, h1, h2]
  | false => rw [hd] at h1; simp (disch := omega) only [ir21, stepQ, List.map_cons, List.map_nil, List.cons_append, List.nil_append, List.append_nil, List.length_map, List.getElem?_cons_zero, List.getElem?_cons_succ, eq_self, aBin, aUn_not, aUn_neg, reduceIte, Int.reduceEq, Int.reduceLT, Int.reduceLE, Int.reduceGT, Int.reduceGE, h1]
theorem sameO3_run (a b : List (List UInt8)) (x y : List Int) (ha : a.length < 1000000000) (hx : x.length < 1000000000) : run tb 22 [strsD a, numsD x, strsD b, numsD y] = some [.bool (decide (a = b) && decide (x = y))] := by
  refine run_ir (x := ir22) rfl ?_
  have h1 := sameN_run a b ha
  have h2 := ints_run x y hx
  cases hd : decide (a = b) with
  | true => rw [hd] at h1; simp (disch := omega) only [ir22, stepQ, List.map_cons, List.map_nil, List.cons_append, List.nil_append, List.append_nil, List.length_map, List.getElem?_cons_zero, List.getElem?_cons_succ, eq_self, aBin, aUn_not, aUn_neg, reduceIte, Int.reduceEq, Int.reduceLT, Int.reduceLE, Int.reduceGT, Int.reduceGE, h1, h2]
  | false => rw [hd] at h1; simp (disch := omega) only [ir22, stepQ, List.map_cons, List.map_nil, List.cons_append, List.nil_append, List.append_nil, List.length_map, List.getElem?_cons_zero, List.getElem?_cons_succ, eq_self, aBin, aUn_not, aUn_neg, reduceIte, Int.reduceEq, Int.reduceLT, Int.reduceLE, Int.reduceGT, Int.reduceGE, h1]
theorem sets_run (l : List (BitVec 64)) (hl : l.length < 1000000000) : run tb 18 [bvsD l, bvsD l] = some [.bool true] := by
  refine run_ir (x := ir18) rfl ?_
  simp (disch := omega) only [ir18, stepQ, List.map_cons, List.map_nil, List.cons_append, List.nil_append, List.append_nil, List.length_map, List.getElem?_cons_zero, List.getElem?_cons_succ, eq_self, aBin, aUn_not, aUn_neg, reduceIte, Int.reduceEq, Int.reduceLT, Int.reduceLE, Int.reduceGT, Int.reduceGE, len_V, ibne]
  refine loop_k (σ := Unit) l.length (fun _ _ => True) (fun i _ => [.int .i64 i]) (fun _ _ => [.bool true]) ?_ ?_ 0 () (Nat.zero_le _) trivial
  · rintro i _ L hi _ hL
    have hnext := hL () trivial
    simp (disch := omega) only [ir18p0, stepQ, List.map_cons, List.map_nil, List.cons_append, List.nil_append, List.append_nil, List.length_map, List.getElem?_cons_zero, List.getElem?_cons_succ, eq_self, aBin, aUn_not, aUn_neg, reduceIte, Int.reduceEq, Int.reduceLT, Int.reduceLE, Int.reduceGT, Int.reduceGE, bvQ, wu, shl_norm, shr_norm, and1_norm, len_V, hi, row_V, wr, natS, hnext]
  · rintro _ L _
    simp (disch := omega) only [ir18p0, stepQ, List.map_cons, List.map_nil, List.cons_append, List.nil_append, List.append_nil, List.length_map, List.getElem?_cons_zero, List.getElem?_cons_succ, eq_self, aBin, aUn_not, aUn_neg, reduceIte, Int.reduceEq, Int.reduceLT, Int.reduceLE, Int.reduceGT, Int.reduceGE, len_V, Nat.lt_irrefl]
theorem levels3_run (names : List (List UInt8)) (ranks : List Int) (hn : names.length < 1000000000) (hs : ∀ s ∈ names, s.length < 9223372036854775808) (hl : ranks.length < 1000000000) : run tb 17 [strsD names, numsD ranks] = some [bvsD (levelsO names ranks)] := by
  refine run_ir (x := ir17) rfl ?_
  have hv := validateO3_run names ranks hn hs hl
  have hmo := most_run (strsD names) ranks hl
  unfold levelsO
  by_cases h : orderE names ranks = 0
  · rw [if_pos h]
    have hlen := orderE_len h
    have hlt := maxR_lt (rkOk_in (orderE_zero h).2.2) hlen.2
    obtain ⟨m, hm⟩ := Int.eq_ofNat_of_zero_le (maxR_ge ranks)
    have hml : m < ranks.length := by rw [hm] at hlt; exact Int.ofNat_lt.1 hlt
    rw [h] at hv
    rw [hm] at hmo
    have hls : levelsS ranks = (List.range (m + 1)).map fun k => levS ranks k ranks.length := by unfold levelsS; rw [hm]; rfl
    rw [hls]
    simp (disch := omega) only [ir17, stepQ, List.map_cons, List.map_nil, List.cons_append, List.nil_append, List.append_nil, List.length_map, List.getElem?_cons_zero, List.getElem?_cons_succ, eq_self, aBin, aUn_not, aUn_neg, reduceIte, Int.reduceEq, Int.reduceLT, Int.reduceLE, Int.reduceGT, Int.reduceGE, hv, ibne, bvs_nil]
    refine loop_k (σ := Unit) (m + 1) (fun _ _ => True) (fun i _ => [.int .i64 i, bvsD ((List.range i).map fun k => levS ranks k ranks.length)]) (fun _ _ => [bvsD ((List.range (m + 1)).map fun k => levS ranks k ranks.length)]) ?_ ?_ 0 () (Nat.zero_le _) trivial
    · rintro i _ L hi _ hL
      have hnext := hL () trivial
      have hle : i ≤ m := by omega
      have hw := where_run (strsD names) ranks hl i i
      rw [where_lev _ _ _ hlen.1] at hw
      rw [List.range_succ, List.map_append, List.map_cons, List.map_nil] at hnext
      have hal : ((List.range i).map fun k => levS ranks k ranks.length).length = i := by simp
      generalize ((List.range i).map fun k => levS ranks k ranks.length) = acc at *
      simp (disch := omega) only [ir17p0, stepQ, List.map_cons, List.map_nil, List.cons_append, List.nil_append, List.append_nil, List.length_map, List.getElem?_cons_zero, List.getElem?_cons_succ, eq_self, aBin, aUn_not, aUn_neg, reduceIte, Int.reduceEq, Int.reduceLT, Int.reduceLE, Int.reduceGT, Int.reduceGE, bvQ, wu, shl_norm, shr_norm, and1_norm, hmo, hle, hw, app_V, wr, natS, hnext]
    · rintro _ L _
      have hle : ¬ m + 1 ≤ m := by omega
      simp (disch := omega) only [ir17p0, stepQ, List.map_cons, List.map_nil, List.cons_append, List.nil_append, List.append_nil, List.length_map, List.getElem?_cons_zero, List.getElem?_cons_succ, eq_self, aBin, aUn_not, aUn_neg, reduceIte, Int.reduceEq, Int.reduceLT, Int.reduceLE, Int.reduceGT, Int.reduceGE, hmo, hle]
  · rw [if_neg h]
    simp (disch := omega) only [ir17, stepQ, List.map_cons, List.map_nil, List.cons_append, List.nil_append, List.append_nil, List.length_map, List.getElem?_cons_zero, List.getElem?_cons_succ, eq_self, aBin, aUn_not, aUn_neg, reduceIte, Int.reduceEq, Int.reduceLT, Int.reduceLE, Int.reduceGT, Int.reduceGE, hv, ibne, h, bvs_nil]
theorem small31_run (a : List (List UInt8)) (x : List Int) : run tb 1 [strsD a, numsD x] = some [.bool (decide (a.length ≤ 10) && decide (x.length ≤ 100))] := by
  refine run_ir (x := ir1) rfl ?_
  by_cases h1 : a.length ≤ 10
  · by_cases h2 : x.length ≤ 100
    · simp (disch := omega) only [ir1, stepQ, List.map_cons, List.map_nil, List.cons_append, List.nil_append, List.append_nil, List.length_map, List.getElem?_cons_zero, List.getElem?_cons_succ, eq_self, aBin, aUn_not, aUn_neg, reduceIte, Int.reduceEq, Int.reduceLT, Int.reduceLE, Int.reduceGT, Int.reduceGE, len_S, len_N, show ((a.length : Int) ≤ 10) = True by simp; omega, show ((x.length : Int) ≤ 100) = True by simp; omega, h1, h2, decide_true]
    · simp (disch := omega) only [ir1, stepQ, List.map_cons, List.map_nil, List.cons_append, List.nil_append, List.append_nil, List.length_map, List.getElem?_cons_zero, List.getElem?_cons_succ, eq_self, aBin, aUn_not, aUn_neg, reduceIte, Int.reduceEq, Int.reduceLT, Int.reduceLE, Int.reduceGT, Int.reduceGE, len_S, len_N, show ((a.length : Int) ≤ 10) = True by simp; omega, show ((x.length : Int) ≤ 100) = False by simp; omega, h1, h2, decide_true, decide_false]
  · simp (disch := omega) only [ir1, stepQ, List.map_cons, List.map_nil, List.cons_append, List.nil_append, List.append_nil, List.length_map, List.getElem?_cons_zero, List.getElem?_cons_succ, eq_self, aBin, aUn_not, aUn_neg, reduceIte, Int.reduceEq, Int.reduceLT, Int.reduceLE, Int.reduceGT, Int.reduceGE, len_S, len_N, show ((a.length : Int) ≤ 10) = False by simp; omega, h1, decide_false]
/-- what an order believes, with the error's number -/
def belE (names : List (List UInt8)) (ranks : List Int) (f : F) : Bool × Int :=
  if orderE names ranks = 0 then (if modelsE names f = 0 then (decide (beliefsS names ranks &&& ~~~modelsS names f = 0#64), 0) else (false, modelsE names f)) else (false, orderE names ranks)
theorem believes_run (names : List (List UInt8)) (ranks : List Int) (f : F) (hn : names.length < 1000000000) (hl : ranks.length < 1000000000) (hf : f.size < 1000000000) :
    run tb 12 [strsD names, numsD ranks, .int .i64 f.op, .str f.name, .sl (F.encs f.args)] = some [.bool (belE names ranks f).1, .int .i64 (belE names ranks f).2] := by
  refine run_ir (x := ir12) rfl ?_
  have h1 := validateO_run names ranks hn hl
  have h2 := modelsW_run names f hn hf
  have h3 := beliefsO_run names ranks hn hl
  simp only [rowF] at h2
  unfold belE
  by_cases c1 : orderE names ranks = 0
  · rw [c1] at h1 ⊢
    by_cases c2 : modelsE names f = 0
    · rw [c2] at h2 ⊢
      by_cases c3 : beliefsS names ranks &&& ~~~modelsS names f = 0#64
      · simp (disch := omega) only [ir12, stepQ, List.map_cons, List.map_nil, List.cons_append, List.nil_append, List.append_nil, List.length_map, List.getElem?_cons_zero, List.getElem?_cons_succ, eq_self, aBin, aUn_not, aUn_neg, reduceIte, Int.reduceEq, Int.reduceLT, Int.reduceLE, Int.reduceGT, Int.reduceGE, bvQ, wu, shl_norm, shr_norm, and1_norm, h1, h2, h3, ibne, c3, callQ_tvi, if_true]
      · simp (disch := omega) only [ir12, stepQ, List.map_cons, List.map_nil, List.cons_append, List.nil_append, List.append_nil, List.length_map, List.getElem?_cons_zero, List.getElem?_cons_succ, eq_self, aBin, aUn_not, aUn_neg, reduceIte, Int.reduceEq, Int.reduceLT, Int.reduceLE, Int.reduceGT, Int.reduceGE, bvQ, wu, shl_norm, shr_norm, and1_norm, h1, h2, h3, ibne, c3, callQ_tvi, if_true]
    · simp (disch := omega) only [ir12, stepQ, List.map_cons, List.map_nil, List.cons_append, List.nil_append, List.append_nil, List.length_map, List.getElem?_cons_zero, List.getElem?_cons_succ, eq_self, aBin, aUn_not, aUn_neg, reduceIte, Int.reduceEq, Int.reduceLT, Int.reduceLE, Int.reduceGT, Int.reduceGE, bvQ, wu, shl_norm, shr_norm, and1_norm, h1, h2, h3, ibne, c2, callQ_tvi, if_true, if_false]
  · simp (disch := omega) only [ir12, stepQ, List.map_cons, List.map_nil, List.cons_append, List.nil_append, List.append_nil, List.length_map, List.getElem?_cons_zero, List.getElem?_cons_succ, eq_self, aBin, aUn_not, aUn_neg, reduceIte, Int.reduceEq, Int.reduceLT, Int.reduceLE, Int.reduceGT, Int.reduceGE, bvQ, wu, shl_norm, shr_norm, and1_norm, h1, ibne, c1, if_false]
theorem believes3_run (names : List (List UInt8)) (ranks : List Int) (f : F) (hn : names.length < 1000000000) (hl : ranks.length < 1000000000) (hf : f.size < 1000000000) (hs : ∀ s ∈ names, s.length < 9223372036854775808) (hb : F.allF nameB f = true) :
    run tb 13 [strsD names, numsD ranks, .int .i64 f.op, .str f.name, .sl (F.encs f.args)] = some [.bool (belE names ranks f).1, .int .i64 (belE names ranks f).2] := by
  refine run_ir (x := ir13) rfl ?_
  have h1 := validateO3_run names ranks hn hs hl
  have h2 := modelsR_run names f hn hs hf hb
  have h3 := beliefs3_run names ranks hn hs hl
  simp only [rowF] at h2
  unfold belE
  by_cases c1 : orderE names ranks = 0
  · rw [c1] at h1 ⊢
    by_cases c2 : modelsE names f = 0
    · rw [c2] at h2 ⊢
      by_cases c3 : beliefsS names ranks &&& ~~~modelsS names f = 0#64
      · simp (disch := omega) only [ir13, stepQ, List.map_cons, List.map_nil, List.cons_append, List.nil_append, List.append_nil, List.length_map, List.getElem?_cons_zero, List.getElem?_cons_succ, eq_self, aBin, aUn_not, aUn_neg, reduceIte, Int.reduceEq, Int.reduceLT, Int.reduceLE, Int.reduceGT, Int.reduceGE, bvQ, wu, shl_norm, shr_norm, and1_norm, h1, h2, h3, ibne, c3, callQ_tvi, if_true]
      · simp (disch := omega) only [ir13, stepQ, List.map_cons, List.map_nil, List.cons_append, List.nil_append, List.append_nil, List.length_map, List.getElem?_cons_zero, List.getElem?_cons_succ, eq_self, aBin, aUn_not, aUn_neg, reduceIte, Int.reduceEq, Int.reduceLT, Int.reduceLE, Int.reduceGT, Int.reduceGE, bvQ, wu, shl_norm, shr_norm, and1_norm, h1, h2, h3, ibne, c3, callQ_tvi, if_true]
    · simp (disch := omega) only [ir13, stepQ, List.map_cons, List.map_nil, List.cons_append, List.nil_append, List.append_nil, List.length_map, List.getElem?_cons_zero, List.getElem?_cons_succ, eq_self, aBin, aUn_not, aUn_neg, reduceIte, Int.reduceEq, Int.reduceLT, Int.reduceLE, Int.reduceGT, Int.reduceGE, bvQ, wu, shl_norm, shr_norm, and1_norm, h1, h2, h3, ibne, c2, callQ_tvi, if_true, if_false]
  · simp (disch := omega) only [ir13, stepQ, List.map_cons, List.map_nil, List.cons_append, List.nil_append, List.append_nil, List.length_map, List.getElem?_cons_zero, List.getElem?_cons_succ, eq_self, aBin, aUn_not, aUn_neg, reduceIte, Int.reduceEq, Int.reduceLT, Int.reduceLE, Int.reduceGT, Int.reduceGE, bvQ, wu, shl_norm, shr_norm, and1_norm, h1, ibne, c1, if_false]
end Go.Proofs.YtjedjjooidohhaaGreat
