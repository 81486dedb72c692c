/- Plain programs of the functions of the program and lemmas about what they compute. -/
import Derived.Test.YtjedjjooidohhaaOd
import Derived.Test.YtjedjjooidohhaaAm6
set_option linter.unusedSimpArgs false
set_option linter.unusedVariables false
set_option linter.unusedSectionVars false
namespace Go.Proofs.Ytjedjjooidohhaa
open Go Am
set_option maxRecDepth 100000
set_option linter.unusedSimpArgs false
set_option linter.unusedVariables false
/-! # the statement about the least worlds -/
theorem short_voc {names : List (List UInt8)} (h : vocOk names = true) : names.length < 1000000000 ∧ ∀ s ∈ names, s.length < 4611686018427387904 :=
  ⟨by have := vocOk_len h; omega, fun s hs => by have := validName_le' ((okNames_asc (vocOk_names h)).2 s hs); omega⟩
theorem ints_run (a b : List Int) (ha : a.length < 1000000000) : run tb 38 [numsD a, numsD b] = some [.bool (decide (a = b))] := by
  refine run_ir (x := ir38) rfl ?_
  by_cases hl : a.length = b.length
  · simp (disch := omega) only [ir38, stepQ, List.map_cons, List.map_nil, List.cons_append, List.nil_append, List.append_nil, List.length_map, List.getElem?_cons_zero, List.getElem?_cons_succ, eq_self, aBin, aUn_not, aUn_neg, reduceIte, Int.reduceEq, Int.reduceLT, Int.reduceLE, Int.reduceGT, Int.reduceGE, len_N, ibne, hl]
    have h0 : decide (a = b) = decide (a.drop 0 = b.drop 0) := by simp
    rw [h0]
    refine loop_k (σ := Unit) b.length (fun _ _ => True) (fun i _ => [.int .i64 i]) (fun i _ => [.bool (decide (a.drop i = b.drop i))]) ?_ ?_ 0 () (Nat.zero_le _) trivial
    · rintro i _ L hi _ hL
      have hnext := hL () trivial
      have hia : i < a.length := by omega
      have e1 : a.drop i = a[i] :: a.drop (i + 1) := List.drop_eq_getElem_cons hia
      have e2 : b.drop i = b[i] :: b.drop (i + 1) := List.drop_eq_getElem_cons hi
      rw [e1, e2]
      by_cases h : a[i] = b[i]
      · have : decide (a[i] :: a.drop (i + 1) = b[i] :: b.drop (i + 1)) = decide (a.drop (i + 1) = b.drop (i + 1)) := by rw [h]; exact decide_eq_decide.2 ⟨fun e => (List.cons.inj e).2, fun e => by rw [e]⟩
        rw [this]
        simp (disch := omega) only [ir38p0, stepQ, List.map_cons, List.map_nil, List.cons_append, List.nil_append, List.append_nil, List.length_map, List.getElem?_cons_zero, List.getElem?_cons_succ, eq_self, aBin, aUn_not, aUn_neg, reduceIte, Int.reduceEq, Int.reduceLT, Int.reduceLE, Int.reduceGT, Int.reduceGE, hi, hia, row_N, ibne, h, wr, natS, hnext]
      · have : decide (a[i] :: a.drop (i + 1) = b[i] :: b.drop (i + 1)) = false := decide_eq_false fun e => h (List.cons.inj e).1
        rw [this]
        simp (disch := omega) only [ir38p0, stepQ, List.map_cons, List.map_nil, List.cons_append, List.nil_append, List.append_nil, List.length_map, List.getElem?_cons_zero, List.getElem?_cons_succ, eq_self, aBin, aUn_not, aUn_neg, reduceIte, Int.reduceEq, Int.reduceLT, Int.reduceLE, Int.reduceGT, Int.reduceGE, hi, hia, row_N, ibne, h, wr, natS]
    · rintro _ L _
      have : decide (a.drop b.length = b.drop b.length) = true := by simp [← hl]
      rw [this]
      simp (disch := omega) only [ir38p0, stepQ, List.map_cons, List.map_nil, List.cons_append, List.nil_append, List.append_nil, List.length_map, List.getElem?_cons_zero, List.getElem?_cons_succ, eq_self, aBin, aUn_not, aUn_neg, reduceIte, Int.reduceEq, Int.reduceLT, Int.reduceLE, Int.reduceGT, Int.reduceGE, Nat.lt_irrefl]
  · have : decide (a = b) = false := by simp; rintro rfl; exact hl rfl
    rw [this]
    simp (disch := omega) only [ir38, stepQ, List.map_cons, List.map_nil, List.cons_append, List.nil_append, List.append_nil, List.length_map, List.getElem?_cons_zero, List.getElem?_cons_succ, eq_self, aBin, aUn_not, aUn_neg, reduceIte, Int.reduceEq, Int.reduceLT, Int.reduceLE, Int.reduceGT, Int.reduceGE, len_N, ibne, hl]
theorem awake31_run : run tb 15 [] = some [.bool true] := by
  refine run_ir (x := ir15) rfl ?_
  have hl := vocN_len 2
  have hlen : (vocN 2).length < 1000000000 := by omega
  have hvoc := voc_run 2 (by omega)
  have hn2 : ((2 : Nat) : Int) = 2 := rfl
  rw [hn2] at hvoc
  have hmk : PO.eval (.mk 1 4) [.int .i64 7, .int .i64 (-2), .int .i64 7, .int .i64 3] = some [numsD [7, -2, 7, 3]] := rfl
  have hmk2 : PO.eval (.mk 1 4) [.int .i64 2, .int .i64 0, .int .i64 2, .int .i64 1] = some [numsD [2, 0, 2, 1]] := rfl
  have hno := normal_run (vocN 2) [7, -2, 7, 3] hlen (by decide)
  have e1 : normE (vocN 2) [7, -2, 7, 3] = true := by decide +kernel
  have e2 : normS [7, -2, 7, 3] = [2, 0, 2, 1] := by decide +kernel
  rw [e1, if_pos rfl, e2] at hno
  have hle := levelsO_run (vocN 2) [2, 0, 2, 1] hlen (by decide)
  have e3 : levelsO (vocN 2) [2, 0, 2, 1] = [2#64, 8#64, 5#64] := by decide +kernel
  rw [e3] at hle
  have hin := ints_run [2, 0, 2, 1] [2, 0, 2, 1] (by decide)
  rw [decide_eq_true rfl] at hin
  have hls := leastO_run (vocN 2) [2, 0, 2, 1] hlen (by decide) 9#64
  have e4 : leastS (vocN 2) [2, 0, 2, 1] 9#64 = 8#64 := by decide +kernel
  rw [e4] at hls
  have l9 : D.int .u64 9 = bvD 9#64 := rfl
  have l2 : D.int .u64 2 = bvD 2#64 := rfl
  have l5 : D.int .u64 5 = bvD 5#64 := rfl
  have l8 : D.int .u64 8 = bvD 8#64 := rfl
  have v0 : PO.eval .lenL [bvsD [2#64, 8#64, 5#64]] = some [.int .i64 3] := rfl
  have v1 : PO.eval (.row 1) [bvsD [2#64, 8#64, 5#64], .int .i64 0] = some [bvD 2#64] := rfl
  have v2 : PO.eval (.row 1) [bvsD [2#64, 8#64, 5#64], .int .i64 1] = some [bvD 8#64] := rfl
  have v3 : PO.eval (.row 1) [bvsD [2#64, 8#64, 5#64], .int .i64 2] = some [bvD 5#64] := rfl
  simp (disch := omega) only [ir15, stepQ, List.map_cons, List.map_nil, List.cons_append, List.nil_append, List.append_nil, List.length_map, List.getElem?_cons_zero, List.getElem?_cons_succ, eq_self, aBin, aUn_not, aUn_neg, reduceIte, Int.reduceEq, Int.reduceLT, Int.reduceLE, Int.reduceGT, Int.reduceGE, bvQ, wu, shl_norm, shr_norm, and1_norm, hvoc, hmk, hmk2, hno, hle, hin, l9, l2, l5, l8, v0, v1, v2, v3, hls, callQ_tvi, callQ_tb, decide_true]
theorem least_run (l0 : List Int) : run tb 0 [numsD l0] = some [.bool true] := by
  obtain ⟨l, hl, hn⟩ := new_run l0
  obtain ⟨r, p, r1, r2, hp, hr⟩ := range_run 0 3 l 0 hl (by omega) (by omega) (by omega) (by omega)
  obtain ⟨n, rfl⟩ := Int.eq_ofNat_of_zero_le (show 0 ≤ r by omega)
  have hn6 : n ≤ 6 := by omega
  obtain ⟨rs, q, hrs, h2, h3⟩ := some_run n hn6 l p hl hp
  obtain ⟨S, b, hb, hS⟩ := set_run l q hl h2
  obtain ⟨T, c, hc, hT⟩ := set_run l b hl hb
  have hr : run tb 9 [.int .i64 0, .int .i64 3, numsD l, .int .i64 0] = some [.int .i64 n, numsD l, .int .i64 p] := hr
  refine run_ir (x := ir0) rfl ?_
  have hv := vocN_ok hn6
  have ho := some_ok hn6 hrs
  have hvl := (short_voc hv).1
  have hnl : (normS rs).length < 1000000000 := by have := pow6 hn6; rw [norm_len]; omega
  have hall := all3_run (vocN n) hvl (short_voc hv).2
  have hle := leastO_run (vocN n) (normS rs) hvl hnl
  have hbel := beliefsO_run (vocN n) (normS rs) hvl hnl
  have hba := beliefs_all (vocN n) (normS rs)
  have hL := leastS_lst ho
  have hA := has_all ho
  have aw := awake31_run
  have k1 := rev1 hL (M := S &&& allS (vocN n))
  have k4 : leastS (vocN n) (normS rs) (S &&& allS (vocN n)) = 0#64 ↔ S &&& allS (vocN n) = 0#64 := by
    constructor
    · exact rev4 hL fun w hw => (hA w).1 (has_and.1 hw).2
    · intro h
      rw [h] at k1 ⊢
      exact set_zero.2 fun w hw => set_zero.1 rfl w (set_sub.1 k1 w hw)
  have k7 : leastS (vocN n) (normS rs) (S &&& allS (vocN n)) &&& ((S &&& allS (vocN n)) &&& T) ≠ 0#64 → leastS (vocN n) (normS rs) ((S &&& allS (vocN n)) &&& T) = leastS (vocN n) (normS rs) (S &&& allS (vocN n)) &&& ((S &&& allS (vocN n)) &&& T) := by
    intro h
    have e : (S &&& allS (vocN n)) &&& ((S &&& allS (vocN n)) &&& T) = (S &&& allS (vocN n)) &&& T := by rw [← BitVec.and_assoc, BitVec.and_self]
    have a1 := rev6 hL (M := S &&& allS (vocN n)) (K := (S &&& allS (vocN n)) &&& T)
    have a2 := rev7 hL h
    rw [e] at a1 a2
    exact set_eq fun w => ⟨fun hw => set_sub.1 a2 w hw, fun hw => set_sub.1 a1 w hw⟩
  have hle1 := hle (S &&& allS (vocN n))
  have hle2 := hle ((S &&& allS (vocN n)) &&& T)
  have hle3 := hle (allS (vocN n))
  rw [hba] at hle3
  clear hle hL hA hba
  generalize beliefsS (vocN n) (normS rs) = B at *
  generalize allS (vocN n) = A at *
  generalize ha : S &&& A = a at *
  generalize ht : a &&& T = t at *
  generalize leastS (vocN n) (normS rs) a = La at *
  generalize leastS (vocN n) (normS rs) t = Lt at *
  have n1 : PO.eval (.bin .neq true) [.bool true, .bool true] = some [.bool false] := rfl
  have n2 : PO.eval (.bin .neq true) [.bool false, .bool false] = some [.bool false] := rfl
  by_cases d0 : a = 0#64
  · have d1 := k4.2 d0
    subst d1 d0
    simp (disch := omega) only [ir0, ir0p0, stepQ, List.map_cons, List.map_nil, List.cons_append, List.nil_append, List.append_nil, List.length_map, List.getElem?_cons_zero, List.getElem?_cons_succ, eq_self, aBin, aUn_not, aUn_neg, reduceIte, Int.reduceEq, Int.reduceLT, Int.reduceLE, Int.reduceGT, Int.reduceGE, bvQ, wu, shl_norm, shr_norm, and1_norm, hn, hr, h3, hS, hT, hall, ha, ht, n1, n2, hle1, hle2, hle3, hbel, k1, BitVec.zero_and, aw]
  · have d1 : ¬ La = 0#64 := fun h => d0 (k4.1 h)
    by_cases d2 : La &&& t = 0#64
    · simp (disch := omega) only [ir0, ir0p0, stepQ, List.map_cons, List.map_nil, List.cons_append, List.nil_append, List.append_nil, List.length_map, List.getElem?_cons_zero, List.getElem?_cons_succ, eq_self, aBin, aUn_not, aUn_neg, reduceIte, Int.reduceEq, Int.reduceLT, Int.reduceLE, Int.reduceGT, Int.reduceGE, bvQ, wu, shl_norm, shr_norm, and1_norm, hn, hr, h3, hS, hT, hall, ha, ht, n1, n2, hle1, hle2, hle3, hbel, k1, d0, d1, d2, aw]
    · have k7' := k7 d2
      subst k7'
      simp (disch := omega) only [ir0, ir0p0, stepQ, List.map_cons, List.map_nil, List.cons_append, List.nil_append, List.append_nil, List.length_map, List.getElem?_cons_zero, List.getElem?_cons_succ, eq_self, aBin, aUn_not, aUn_neg, reduceIte, Int.reduceEq, Int.reduceLT, Int.reduceLE, Int.reduceGT, Int.reduceGE, bvQ, wu, shl_norm, shr_norm, and1_norm, hn, hr, h3, hS, hT, hall, ha, ht, n1, n2, hle1, hle2, hle3, hbel, k1, d0, d1, d2, aw]
end Go.Proofs.Ytjedjjooidohhaa
