/- Plain programs of the functions of the program and lemmas about what they compute. -/
import Derived.Test.YtefkehflmlikmaaDoorWd
import Derived.Test.YtefkehflmlikmaaDoorOd
import Derived.Test.YtefkehflmlikmaaDoorTz
import Derived.Test.YtefkehflmlikmaaDoorAm6
set_option linter.unusedSimpArgs false
set_option linter.unusedVariables false
set_option linter.unusedSectionVars false
namespace Go.Proofs.YtefkehflmlikmaaDoor
open Go Am
set_option maxRecDepth 100000
set_option linter.unusedSimpArgs false
set_option linter.unusedVariables false
theorem tzX_run (x : BitVec 64) : run tb 56 [bvD x] = some [.int .i64 (low x)] := run_ext rfl (tzE_run x)
theorem app_N1 {l : List Int} {a : Int} (h : l.length + 1 ≤ 1000000) : PO.eval (.app 1 8) [numsD l, .sl [[.int .i64 a]]] = some [numsD (l ++ [a])] := by
 unfold numsD
 rw [ev_app (by simp; omega) (by simp; omega) (by simp [numR])]
 simp [numR]
def natL (l : List Nat) : List Int := l.map fun (n : Nat) => (n : Int)
theorem worlds_run (voc : List (List UInt8)) (X : BitVec 64) (hl : voc.length < 1000000000) : run tb 44 [strsD voc, bvD X] = some [numsD (natL (worldsTo (X &&& allS voc) 64))] := by
 refine run_ir (x := ir44) rfl ?_
 have h1 := all_run voc hl
 simp (disch := omega) only [ir44, stepQ, stepL, eq_self, aBin, reduceIte, Int.reduceEq, Int.reduceLT, Int.reduceLE, Int.reduceGT, Int.reduceGE, bvQ, wu, shl_norm, shr_norm, and1_norm, h1]
 generalize X &&& allS voc = Y
 have h0 : from_ Y 0 = Y := from_zero Y
 show loopQ _ _ _ _ [bvD Y, numsD (natL (worldsTo Y 0))] = _
 rw [← h0]
 conv => rhs; rw [h0]
 conv => lhs; rw [show worldsTo (from_ Y 0) 0 = worldsTo Y 0 from rfl]
 refine loop_km (ι := Nat) (fun a => 64 - a) (fun a => a ≤ 64) (fun a => [bvD (from_ Y a), numsD (natL (worldsTo Y a))]) (fun _ => [numsD (natL (worldsTo Y 64))]) ?_ 0 (by omega)
 rintro a L ha hL
 by_cases hz : from_ Y a = 0#64
 · have hd := from_done Y a ha hz
   simp (disch := omega) only [ir44p0, stepQ, stepL, eq_self, aBin, reduceIte, Int.reduceEq, Int.reduceLT, Int.reduceLE, Int.reduceGT, Int.reduceGE, bvQ, wu, shl_norm, shr_norm, and1_norm, hz, hd]
 · obtain ⟨n1, n2, n3, n4⟩ := from_next Y a hz
   have ht := tzX_run (from_ Y a)
   have hnext := hL (low (from_ Y a) + 1) (by show _ ≤ 64; omega) (by show 64 - (low (from_ Y a) + 1) < 64 - a; omega)
   rw [n4] at hnext
   have hlen : (natL (worldsTo Y a)).length + 1 ≤ 1000000 := by
    have := worldsTo_len Y a
    simp only [natL, List.length_map]; omega
   have happ := app_N1 (a := (low (from_ Y a) : Int)) hlen
   have hnl : natL (worldsTo Y a ++ [low (from_ Y a)]) = natL (worldsTo Y a) ++ [(low (from_ Y a) : Int)] := by simp [natL]
   rw [hnl] at hnext
   simp (disch := omega) only [ir44p0, stepQ, stepL, eq_self, aBin, reduceIte, Int.reduceEq, Int.reduceLT, Int.reduceLE, Int.reduceGT, Int.reduceGE, bvQ, wu, shl_norm, shr_norm, and1_norm, hz, ht, happ, n3, hnext]
theorem differ_run (v w : Int) : run tb 34 [.int .i64 v, .int .i64 w] = some [bvD (dif v w)] := by
 refine run_ir (x := ir34) rfl ?_
 have l63 : D.int .u64 63 = bvD 63#64 := rfl
 simp (disch := omega) only [ir34, stepQ, stepL, eq_self, aBin, reduceIte, Int.reduceEq, Int.reduceLT, Int.reduceLE, Int.reduceGT, Int.reduceGE, bvQ, wu, shl_norm, shr_norm, and1_norm, l63]
 rw [ofInt_wrap]
 exact congrArg (fun x => some [bvD (x &&& 63#64)]) (ofIntU (BitVec.ofInt 64 v ^^^ BitVec.ofInt 64 w))
theorem distance_run (v w : Int) : run tb 17 [.int .i64 v, .int .i64 w] = some [.int .i64 (ones (dif v w) 64)] := by
 refine run_ir (x := ir17) rfl ?_
 have h1 := differ_run v w
 have h2 := ones_run (dif v w)
 simp (disch := omega) only [ir17, stepQ, stepL, eq_self, aBin, reduceIte, Int.reduceEq, Int.reduceLT, Int.reduceLE, Int.reduceGT, Int.reduceGE, h1, h2]
def msF (d : Int) : D := if d = 1 then fnD 94 else if d = 2 then fnD 95 else if d = 3 then fnD 96 else .raw .nilFunc
def dOk (d : Int) : Bool := decide (1 ≤ d) && decide (d ≤ 3)
theorem measure_run (d : Int) : run tb 32 [.int .i64 d] = some [msF d, .bool (dOk d)] := by
 refine run_ir (x := ir32) rfl ?_
 unfold msF dOk
 by_cases h1 : d = 1
 · subst h1; simp (disch := omega) only [ir32, stepQ, stepL, eq_self, aBin, reduceIte, Int.reduceEq, Int.reduceLT, Int.reduceLE, Int.reduceGT, Int.reduceGE]
 by_cases h2 : d = 2
 · subst h2; simp (disch := omega) only [ir32, stepQ, stepL, eq_self, aBin, reduceIte, Int.reduceEq, Int.reduceLT, Int.reduceLE, Int.reduceGT, Int.reduceGE]
 by_cases h3 : d = 3
 · subst h3; simp (disch := omega) only [ir32, stepQ, stepL, eq_self, aBin, reduceIte, Int.reduceEq, Int.reduceLT, Int.reduceLE, Int.reduceGT, Int.reduceGE]
 have h4 : (decide (1 ≤ d) && decide (d ≤ 3)) = false := by simp; omega
 rw [if_neg h1, if_neg h2, if_neg h3, h4]
 simp (disch := omega) only [ir32, stepQ, stepL, eq_self, aBin, reduceIte, Int.reduceEq, Int.reduceLT, Int.reduceLE, Int.reduceGT, Int.reduceGE, h1, h2, h3]
theorem m1_run (a b : BitVec 64) : run tb 48 [bvD a, bvD b] = some [.bool (nearP 1 a b)] := by
 refine run_ir (x := ir48) rfl ?_
 have h1 := ones_run a
 have h2 := ones_run b
 have e : nearP 1 a b = decide ((ones a 64 : Int) < (ones b 64 : Int)) := by simp [nearP]
 rw [e]
 simp (disch := omega) only [ir48, stepQ, stepL, eq_self, aBin, reduceIte, Int.reduceEq, Int.reduceLT, Int.reduceLE, Int.reduceGT, Int.reduceGE, h1, h2]
theorem m2_run (a b : BitVec 64) : run tb 49 [bvD a, bvD b] = some [.bool (nearP 2 a b)] := by
 refine run_ir (x := ir49) rfl ?_
 have e : nearP 2 a b = (decide (a &&& ~~~b = 0#64) && !decide (a = b)) := rfl
 rw [e]
 by_cases h : a &&& ~~~b = 0#64
 · simp (disch := omega) only [ir49, stepQ, stepL, eq_self, aBin, reduceIte, Int.reduceEq, Int.reduceLT, Int.reduceLE, Int.reduceGT, Int.reduceGE, bvQ, wu, shl_norm, shr_norm, and1_norm, h, decide_true, Bool.true_and]
 · simp (disch := omega) only [ir49, stepQ, stepL, eq_self, aBin, reduceIte, Int.reduceEq, Int.reduceLT, Int.reduceLE, Int.reduceGT, Int.reduceGE, bvQ, wu, shl_norm, shr_norm, and1_norm, h, decide_false, Bool.false_and]
theorem m3_run (a b : BitVec 64) : run tb 50 [bvD a, bvD b] = some [.bool (nearP 3 a b)] := by
 refine run_ir (x := ir50) rfl ?_
 have e : nearP 3 a b = (decide (a = 0#64) && !decide (b = 0#64)) := rfl
 rw [e]
 by_cases h : a = 0#64
 · simp (disch := omega) only [ir50, stepQ, stepL, eq_self, aBin, reduceIte, Int.reduceEq, Int.reduceLT, Int.reduceLE, Int.reduceGT, Int.reduceGE, bvQ, wu, shl_norm, shr_norm, and1_norm, h, decide_true, Bool.true_and]
 · simp (disch := omega) only [ir50, stepQ, stepL, eq_self, aBin, reduceIte, Int.reduceEq, Int.reduceLT, Int.reduceLE, Int.reduceGT, Int.reduceGE, bvQ, wu, shl_norm, shr_norm, and1_norm, h, decide_false, Bool.false_and]
theorem row_nat {l : List Nat} {i : Nat} (h : i < l.length) : PO.eval (.row 1) [numsD (natL l), .int .i64 i] = some [.int .i64 (l[i] : Nat)] := by
 have h1 : i < (natL l).length := by simpa [natL] using h
 have := row_N h1
 rw [this]; simp [natL]
theorem len_nat (l : List Nat) : PO.eval .lenL [numsD (natL l)] = some [.int .i64 l.length] := by rw [len_N]; simp [natL]
theorem nearest_run (names : List (List UInt8)) (v : Int) (X : BitVec 64) (d : Int) (hd : dOk d = true) (hl : names.length < 1000000000) :
 run tb 33 [strsD names, .int .i64 v, bvD X, msF d] = some [bvD (accN v (worldsTo (X &&& allS names) 64) d (worldsTo (X &&& allS names) 64).length)] := by
 refine run_ir (x := ir33) rfl ?_
 have h1 := worlds_run names X hl
 obtain ⟨l, hll⟩ : ∃ l, l = worldsTo (X &&& allS names) 64 := ⟨_, rfl⟩
 have hlt : ∀ w ∈ l, w < 64 := fun w hw => by rw [hll, mem_worldsTo] at hw; exact hw.1
 have hlen : l.length ≤ 64 := by rw [hll]; exact worldsTo_len _ _
 rw [← hll] at h1 ⊢
 clear hll
 simp (disch := omega) only [ir33, stepQ, stepL, eq_self, aBin, reduceIte, Int.reduceEq, Int.reduceLT, Int.reduceLE, Int.reduceGT, Int.reduceGE, bvQ, wu, shl_norm, shr_norm, and1_norm, h1, callQ_N, len_nat]
 rw [← accN_0 v l d]
 refine loop_k (σ := Unit) l.length (fun _ _ => True) (fun i _ => [msF d, bvD (accN v l d i), .int .i64 i]) (fun _ _ => [bvD (accN v l d l.length)]) ?_ ?_ 0 () (Nat.zero_le _) trivial
 · rintro i _ L hi _ hL
   have hnext := hL () trivial
   have hw := hlt _ (List.getElem_mem hi)
   rw [accN_s hi hw] at hnext
   have hrw := row_nat hi
   have d1 := fun u : Nat => differ_run v u
   simp (disch := omega) only [ir33p3, stepQ, stepL, eq_self, aBin, reduceIte, Int.reduceEq, Int.reduceLT, Int.reduceLE, Int.reduceGT, Int.reduceGE, hi, hrw, len_nat]
   generalize l[i] = w at *
   refine loop_k (σ := Unit) l.length (fun j _ => (l.take j).all (fun u => !nearP d (dif v u) (dif v w)) = true) (fun j _ => [msF d, .int .i64 j]) (fun _ _ => [bvD (accN v l d l.length)]) ?_ ?_ 0 () (Nat.zero_le _) rfl
   · rintro j _ M hj hp hM
     have hrj := row_nat hj
     have hmem : l[j] ∈ l := List.getElem_mem hj
     have hpj : (!nearP d (dif v (l[j] : Nat)) (dif v w)) = true → (l.take (j + 1)).all (fun u => !nearP d (dif v u) (dif v w)) = true := fun h => by
      rw [List.take_add_one, List.getElem?_eq_getElem hj]
      simp only [Option.toList_some, List.all_append, List.all_cons, List.all_nil, Bool.and_true, Bool.true_and, hp]; exact h
     have hok : nearP d (dif v (l[j] : Nat)) (dif v w) = true → okN v l d w = false := fun h => by
      unfold okN
      rw [List.all_eq_false]
      exact ⟨_, hmem, by rw [h]; simp⟩
     generalize l[j] = u at *
     cases hb : nearP d (dif v u) (dif v w) with
     | true =>
      rw [hok hb] at hnext
      simp only [Bool.false_eq_true, if_false] at hnext
      unfold dOk at hd
      simp only [Bool.and_eq_true, decide_eq_true_eq] at hd
      rcases (by omega : d = 1 ∨ d = 2 ∨ d = 3) with rfl | rfl | rfl
      · have hm := m1_run (dif v u) (dif v w)
        rw [hb] at hm
        simp only [msF, Int.reduceEq, if_true, if_false] at hnext ⊢
        simp (disch := omega) only [ir33p2, ir33p1, ir33p0, stepQ, stepL, eq_self, aBin, reduceIte, Int.reduceEq, Int.reduceLT, Int.reduceLE, Int.reduceGT, Int.reduceGE, k_isf, isFn, Nat.reduceBEq, hj, hrj, d1, hm, wr, natS, hnext]
      · have hm := m2_run (dif v u) (dif v w)
        rw [hb] at hm
        simp only [msF, Int.reduceEq, if_true, if_false] at hnext ⊢
        simp (disch := omega) only [ir33p2, ir33p1, ir33p0, stepQ, stepL, eq_self, aBin, reduceIte, Int.reduceEq, Int.reduceLT, Int.reduceLE, Int.reduceGT, Int.reduceGE, k_isf, isFn, Nat.reduceBEq, hj, hrj, d1, hm, wr, natS, hnext]
      · have hm := m3_run (dif v u) (dif v w)
        rw [hb] at hm
        simp only [msF, Int.reduceEq, if_true, if_false] at hnext ⊢
        simp (disch := omega) only [ir33p2, ir33p1, ir33p0, stepQ, stepL, eq_self, aBin, reduceIte, Int.reduceEq, Int.reduceLT, Int.reduceLE, Int.reduceGT, Int.reduceGE, k_isf, isFn, Nat.reduceBEq, hj, hrj, d1, hm, wr, natS, hnext]
     | false =>
      have hnx := hM () (hpj (by rw [hb]; rfl))
      unfold dOk at hd
      simp only [Bool.and_eq_true, decide_eq_true_eq] at hd
      rcases (by omega : d = 1 ∨ d = 2 ∨ d = 3) with rfl | rfl | rfl
      · have hm := m1_run (dif v u) (dif v w)
        rw [hb] at hm
        simp only [msF, Int.reduceEq, if_true, if_false] at hnx ⊢
        simp (disch := omega) only [ir33p2, ir33p1, stepQ, stepL, eq_self, aBin, reduceIte, Int.reduceEq, Int.reduceLT, Int.reduceLE, Int.reduceGT, Int.reduceGE, k_isf, isFn, Nat.reduceBEq, hj, hrj, d1, hm, wr, natS, hnx]
      · have hm := m2_run (dif v u) (dif v w)
        rw [hb] at hm
        simp only [msF, Int.reduceEq, if_true, if_false] at hnx ⊢
        simp (disch := omega) only [ir33p2, ir33p1, stepQ, stepL, eq_self, aBin, reduceIte, Int.reduceEq, Int.reduceLT, Int.reduceLE, Int.reduceGT, Int.reduceGE, k_isf, isFn, Nat.reduceBEq, hj, hrj, d1, hm, wr, natS, hnx]
      · have hm := m3_run (dif v u) (dif v w)
        rw [hb] at hm
        simp only [msF, Int.reduceEq, if_true, if_false] at hnx ⊢
        simp (disch := omega) only [ir33p2, ir33p1, stepQ, stepL, eq_self, aBin, reduceIte, Int.reduceEq, Int.reduceLT, Int.reduceLE, Int.reduceGT, Int.reduceGE, k_isf, isFn, Nat.reduceBEq, hj, hrj, d1, hm, wr, natS, hnx]
   · rintro _ M hp
     rw [List.take_length] at hp
     have hok : okN v l d w = true := hp
     rw [hok, if_pos rfl] at hnext
     simp (disch := omega) only [ir33p2, ir33p0, stepQ, stepL, eq_self, aBin, reduceIte, Int.reduceEq, Int.reduceLT, Int.reduceLE, Int.reduceGT, Int.reduceGE, bvQ, wu, shl_norm, shr_norm, and1_norm, Nat.lt_irrefl, bv_convN, wr, natS, hnext]
 · rintro _ L _
   simp (disch := omega) only [ir33p3, stepQ, stepL, eq_self, aBin, reduceIte, Int.reduceEq, Int.reduceLT, Int.reduceLE, Int.reduceGT, Int.reduceGE, Nat.lt_irrefl]
end Go.Proofs.YtefkehflmlikmaaDoor

namespace Go.Proofs.YtefkehflmlikmaaDoor
open Go Am
set_option maxRecDepth 100000
set_option linter.unusedSimpArgs false
set_option linter.unusedVariables false
theorem dOk_2 {d : Int} (h1 : 1 ≤ d) (h2 : d ≤ 3) : dOk d = true := by unfold dOk; simp [h1, h2]
theorem nearV (names : List (List UInt8)) (hv : vocOk names = true) (v : Int) (X : BitVec 64) (d : Int) :
 accN v (worldsTo (X &&& allS names) 64) d (worldsTo (X &&& allS names) 64).length = nearS (2 ^ names.length) v X d := by
 have h6 := vocOk_len hv
 have hal : allS names = alW names.length := by unfold allS; rw [if_pos hv]
 rw [hal, worlds_all h6]
 exact accN_near (pow6 h6) v X d
theorem nearestV_run (names : List (List UInt8)) (hv : vocOk names = true) (v : Int) (X : BitVec 64) (d : Int) (hd : dOk d = true) :
 run tb 33 [strsD names, .int .i64 v, bvD X, msF d] = some [bvD (nearS (2 ^ names.length) v X d)] := by
 have := nearest_run names v X d hd (by have := vocOk_len hv; omega)
 rwa [nearV names hv] at this
def nearE (names : List (List UInt8)) (v d : Int) : Int := if vocOk names = false ∨ v < 0 ∨ ((2 ^ names.length : Nat) : Int) ≤ v then 1 else if dOk d = false then 4 else 0
def nearA (names : List (List UInt8)) (v : Int) (X : BitVec 64) (d : Int) : BitVec 64 := if nearE names v d = 0 then nearS (2 ^ names.length) v X d else 0#64
theorem nearestA_run (names : List (List UInt8)) (hl : names.length < 60) (v : Int) (X : BitVec 64) (d : Int) :
 run tb 16 [strsD names, .int .i64 v, bvD X, .int .i64 d] = some [bvD (nearA names v X d), .int .i64 (nearE names v d)] := by
 refine run_ir (x := ir16) rfl ?_
 have h1 := valid_run names (by omega)
 have h2 := measure_run d
 unfold nearA
 cases hv : vocOk names with
 | false =>
  rw [hv] at h1
  have e : nearE names v d = 1 := by unfold nearE; rw [if_pos (.inl hv)]
  rw [e, if_neg (by decide)]
  simp (disch := omega) only [ir16, ir16p0, stepQ, stepL, eq_self, aBin, reduceIte, Int.reduceEq, Int.reduceLT, Int.reduceLE, Int.reduceGT, Int.reduceGE, bvQ, wu, shl_norm, shr_norm, and1_norm, h1]
 | true =>
  rw [hv] at h1
  by_cases c1 : v < 0
  · have e : nearE names v d = 1 := by unfold nearE; rw [if_pos (.inr (.inl c1))]
    rw [e, if_neg (by decide)]
    simp (disch := omega) only [ir16, ir16p0, stepQ, stepL, eq_self, aBin, reduceIte, Int.reduceEq, Int.reduceLT, Int.reduceLE, Int.reduceGT, Int.reduceGE, bvQ, wu, shl_norm, shr_norm, and1_norm, h1, c1]
  by_cases c2 : v ≥ ((2 ^ names.length : Nat) : Int)
  · have e : nearE names v d = 1 := by unfold nearE; rw [if_pos (.inr (.inr c2))]
    rw [e, if_neg (by decide)]
    simp (disch := omega) only [ir16, ir16p0, stepQ, stepL, eq_self, aBin, reduceIte, Int.reduceEq, Int.reduceLT, Int.reduceLE, Int.reduceGT, Int.reduceGE, bvQ, wu, shl_norm, shr_norm, and1_norm, h1, c1, len_S, c2]
  have hno : ¬ (vocOk names = false ∨ v < 0 ∨ ((2 ^ names.length : Nat) : Int) ≤ v) := by
   rintro (h | h | h)
   · rw [hv] at h; cases h
   · exact c1 h
   · exact c2 h
  cases hd : dOk d with
  | false =>
   rw [hd] at h2
   have e : nearE names v d = 4 := by unfold nearE; rw [if_neg hno, if_pos hd]
   rw [e, if_neg (by decide)]
   simp (disch := omega) only [ir16, ir16p0, stepQ, stepL, eq_self, aBin, reduceIte, Int.reduceEq, Int.reduceLT, Int.reduceLE, Int.reduceGT, Int.reduceGE, bvQ, wu, shl_norm, shr_norm, and1_norm, h1, c1, len_S, c2, h2]
  | true =>
   rw [hd] at h2
   have e : nearE names v d = 0 := by unfold nearE; rw [if_neg hno, if_neg (by rw [hd]; simp)]
   have h3 := nearestV_run names hv v X d hd
   rw [e, if_pos rfl]
   simp (disch := omega) only [ir16, ir16p0, stepQ, stepL, eq_self, aBin, reduceIte, Int.reduceEq, Int.reduceLT, Int.reduceLE, Int.reduceGT, Int.reduceGE, bvQ, wu, shl_norm, shr_norm, and1_norm, h1, c1, len_S, c2, h2, h3]
theorem spread_run (names : List (List UInt8)) (hv : vocOk names = true) (K X : BitVec 64) (d : Int) (hd : dOk d = true) :
 run tb 27 [strsD names, bvD K, bvD X, .int .i64 d] = some [bvD (unionS (2 ^ names.length) K X d)] := by
 refine run_ir (x := ir27) rfl ?_
 have h6 := vocOk_len hv
 have h64 := pow6 h6
 have h1 := measure_run d
 have hal : allS names = alW names.length := by unfold allS; rw [if_pos hv]
 have h2 := worlds_run names K (by omega)
 rw [hal, worlds_all h6] at h2
 rw [hd] at h1
 have h3 := fun v : Nat => nearestV_run names hv v X d hd
 have hlen := worldsTo_len K (2 ^ names.length)
 have hU := union_list h64 K X d
 have hS := unionT_list h64 K X d
 rw [← hU]
 clear hU
 generalize worldsTo K (2 ^ names.length) = l at *
 generalize 2 ^ names.length = n at *
 simp (disch := omega) only [ir27, stepQ, stepL, eq_self, aBin, reduceIte, Int.reduceEq, Int.reduceLT, Int.reduceLE, Int.reduceGT, Int.reduceGE, bvQ, wu, shl_norm, shr_norm, and1_norm, h1, h2, callQ_N, len_nat]
 have z : (0#64 : BitVec 64) = bitsTo (fun w => (l.take 0).any fun v => (nearS n v X d).getLsbD w) n := (set_zero.2 fun w h => by rw [has_bits h64] at h; simp at h).symm
 rw [z]
 refine loop_k (σ := Unit) l.length (fun _ _ => True) (fun i _ => [bvD (bitsTo (fun w => (l.take i).any fun v => (nearS n v X d).getLsbD w) n), .int .i64 i]) (fun _ _ => [bvD (bitsTo (fun w => (l.take l.length).any fun v => (nearS n v X d).getLsbD w) n)]) ?_ ?_ 0 () (Nat.zero_le _) trivial
 · rintro i _ L hi _ hL
   have hnext := hL () trivial
   rw [hS i hi] at hnext
   have hrw := row_nat hi
   simp (disch := omega) only [ir27p0, stepQ, stepL, eq_self, aBin, reduceIte, Int.reduceEq, Int.reduceLT, Int.reduceLE, Int.reduceGT, Int.reduceGE, bvQ, wu, shl_norm, shr_norm, and1_norm, hi, hrw, h3, wr, natS, hnext]
 · rintro _ L _
   simp (disch := omega) only [ir27p0, stepQ, stepL, eq_self, aBin, reduceIte, Int.reduceEq, Int.reduceLT, Int.reduceLE, Int.reduceGT, Int.reduceGE, Nat.lt_irrefl]
def upE (names : List (List UInt8)) (f : F) (d : Int) : Int := if vocOk names = false then 1 else if dOk d = false then 4 else modelsE names f
theorem upE_ok {names : List (List UInt8)} {f : F} {d : Int} (h : upE names f d = 0) : vocOk names = true ∧ dOk d = true := by
 unfold upE at h
 cases hv : vocOk names with
 | false => rw [if_pos hv] at h; cases h
 | true =>
  cases hd : dOk d with
  | false => rw [if_neg (by rw [hv]; simp), if_pos hd] at h; cases h
  | true => exact ⟨rfl, rfl⟩
theorem umodels_run (names : List (List UInt8)) (hl : names.length < 1000000000) (f : F) (hf : f.size < 1000000000) (d : Int) :
 ∃ S, run tb 26 [strsD names, .int .i64 f.op, .str f.name, .sl (F.encs f.args), .int .i64 d] = some [bvD S, .int .i64 (upE names f d)] ∧ (upE names f d = 0 → S = modelsS names f) := by
 have h1 := valid_run names hl
 have h2 := measure_run d
 have h3 := modelsW_run names f hl hf
 simp only [rowF] at h3
 unfold upE
 cases hv : vocOk names with
 | false =>
  rw [hv] at h1
  refine ⟨0#64, run_ir (x := ir26) rfl ?_, by simp⟩
  simp (disch := omega) only [ir26, stepQ, stepL, eq_self, aBin, reduceIte, Int.reduceEq, Int.reduceLT, Int.reduceLE, Int.reduceGT, Int.reduceGE, bvQ, wu, shl_norm, shr_norm, and1_norm, h1]
 | true =>
  rw [hv] at h1
  cases hd : dOk d with
  | false =>
   rw [hd] at h2
   refine ⟨0#64, run_ir (x := ir26) rfl ?_, by simp⟩
   simp (disch := omega) only [ir26, stepQ, stepL, eq_self, aBin, reduceIte, Int.reduceEq, Int.reduceLT, Int.reduceLE, Int.reduceGT, Int.reduceGE, bvQ, wu, shl_norm, shr_norm, and1_norm, h1, h2, Bool.true_eq_false]
  | true =>
   rw [hd] at h2
   refine ⟨modelsS names f, run_ir (x := ir26) rfl ?_, fun _ => rfl⟩
   simp (disch := omega) only [ir26, stepQ, stepL, eq_self, aBin, reduceIte, Int.reduceEq, Int.reduceLT, Int.reduceLE, Int.reduceGT, Int.reduceGE, bvQ, wu, shl_norm, shr_norm, and1_norm, h1, h2, h3, Bool.true_eq_false]
def updA (names : List (List UInt8)) (K : BitVec 64) (f : F) (d : Int) : BitVec 64 := if upE names f d = 0 then unionS (2 ^ names.length) K (modelsS names f) d else 0#64
def eraA (names : List (List UInt8)) (K : BitVec 64) (f : F) (d : Int) : BitVec 64 := if upE names f d = 0 then K &&& allS names ||| unionS (2 ^ names.length) K (allS names &&& ~~~modelsS names f) d else 0#64
theorem update_run (names : List (List UInt8)) (hl : names.length < 1000000000) (K : BitVec 64) (f : F) (hf : f.size < 1000000000) (d : Int) :
 run tb 11 [strsD names, bvD K, .int .i64 f.op, .str f.name, .sl (F.encs f.args), .int .i64 d] = some [bvD (updA names K f d), .int .i64 (upE names f d)] := by
 obtain ⟨S, h1, hS⟩ := umodels_run names hl f hf d
 refine run_ir (x := ir11) rfl ?_
 unfold updA
 by_cases c : upE names f d = 0
 · obtain ⟨hv, hd⟩ := upE_ok c
   rw [hS c] at h1
   have h2 := spread_run names hv K (modelsS names f) d hd
   rw [if_pos c]
   simp (disch := omega) only [ir11, stepQ, stepL, eq_self, aBin, reduceIte, Int.reduceEq, Int.reduceLT, Int.reduceLE, Int.reduceGT, Int.reduceGE, bvQ, wu, shl_norm, shr_norm, and1_norm, h1, c, ibne, h2]
 · rw [if_neg c]
   simp (disch := omega) only [ir11, stepQ, stepL, eq_self, aBin, reduceIte, Int.reduceEq, Int.reduceLT, Int.reduceLE, Int.reduceGT, Int.reduceGE, bvQ, wu, shl_norm, shr_norm, and1_norm, h1, c, ibne]
theorem erase_run (names : List (List UInt8)) (hl : names.length < 1000000000) (K : BitVec 64) (f : F) (hf : f.size < 1000000000) (d : Int) :
 run tb 15 [strsD names, bvD K, .int .i64 f.op, .str f.name, .sl (F.encs f.args), .int .i64 d] = some [bvD (eraA names K f d), .int .i64 (upE names f d)] := by
 obtain ⟨S, h1, hS⟩ := umodels_run names hl f hf d
 refine run_ir (x := ir15) rfl ?_
 unfold eraA
 by_cases c : upE names f d = 0
 · obtain ⟨hv, hd⟩ := upE_ok c
   rw [hS c] at h1
   have h3 := all_run names hl
   have h2 := spread_run names hv K (allS names &&& ~~~modelsS names f) d hd
   rw [if_pos c]
   simp (disch := omega) only [ir15, stepQ, stepL, eq_self, aBin, reduceIte, Int.reduceEq, Int.reduceLT, Int.reduceLE, Int.reduceGT, Int.reduceGE, bvQ, wu, shl_norm, shr_norm, and1_norm, h1, c, ibne, h2, h3]
 · rw [if_neg c]
   simp (disch := omega) only [ir15, stepQ, stepL, eq_self, aBin, reduceIte, Int.reduceEq, Int.reduceLT, Int.reduceLE, Int.reduceGT, Int.reduceGE, bvQ, wu, shl_norm, shr_norm, and1_norm, h1, c, ibne]
end Go.Proofs.YtefkehflmlikmaaDoor

namespace Go.Proofs.YtefkehflmlikmaaDoor
open Go Am
set_option maxRecDepth 100000
set_option linter.unusedSimpArgs false
set_option linter.unusedVariables false
theorem theory34_run (n : Nat) (hn : n ≤ 6) (S : BitVec 64) : run tb 12 [.int .i64 n, bvD S] = some [.int .i64 (thy (vocN n) (S &&& allS (vocN n))).op, .str (thy (vocN n) (S &&& allS (vocN n))).name, .sl (F.encs (thy (vocN n) (S &&& allS (vocN n))).args)] := by
 refine run_ir (x := ir12) rfl ?_
 have hv := vocN_ok hn
 have hvo := voc_run n (by omega)
 have h1 := all3_run (vocN n) (by rw [vocN_len]; omega) (fun s hs => by rw [vocN_short s hs]; omega)
 have h2 := theoryT_run (vocN n) hv (S &&& allS (vocN n))
 simp only [rowF, List.cons_append, List.nil_append] at h2
 simp (disch := omega) only [ir12, stepQ, stepL, eq_self, aBin, reduceIte, Int.reduceEq, Int.reduceLT, Int.reduceLE, Int.reduceGT, Int.reduceGE, bvQ, wu, shl_norm, shr_norm, and1_norm, hvo, h1, h2, callQ_S]
theorem theoryU_run {n : Nat} (hn : n ≤ 6) {X : BitVec 64} (hX : ∀ w, has X w → w < 2 ^ n) : run tb 12 [.int .i64 n, bvD X] = some [.int .i64 (thy (vocN n) X).op, .str (thy (vocN n) X).name, .sl (F.encs (thy (vocN n) X).args)] := by
 have := theory34_run n hn X
 rw [and_all hn hX] at this
 exact this
theorem updateT_run {n : Nat} (hn : n ≤ 6) (K : BitVec 64) {X : BitVec 64} (hX : ∀ w, has X w → w < 2 ^ n) (d : Int) (hd : dOk d = true) :
 run tb 11 [strsD (vocN n), bvD K, .int .i64 (thy (vocN n) X).op, .str (thy (vocN n) X).name, .sl (F.encs (thy (vocN n) X).args), .int .i64 d] = some [bvD (unionS (2 ^ n) K X d), .int .i64 0] := by
 have h1 := update_run (vocN n) (by rw [vocN_len]; omega) K (thy (vocN n) X) (thy_small hn X).1 d
 have hm := thy_models (vocN_ok hn) X
 rw [and_all hn hX] at hm
 have e : upE (vocN n) (thy (vocN n) X) d = 0 := by unfold upE; rw [if_neg (by simp [vocN_ok hn]), if_neg (by simp [hd]), hm.1]
 unfold updA at h1
 rw [e, if_pos rfl, hm.2, vocN_len] at h1
 exact h1
theorem eraseT_run {n : Nat} (hn : n ≤ 6) (K : BitVec 64) {X : BitVec 64} (hX : ∀ w, has X w → w < 2 ^ n) (d : Int) (hd : dOk d = true) :
 run tb 15 [strsD (vocN n), bvD K, .int .i64 (thy (vocN n) X).op, .str (thy (vocN n) X).name, .sl (F.encs (thy (vocN n) X).args), .int .i64 d] = some [bvD (K &&& allS (vocN n) ||| unionS (2 ^ n) K (allS (vocN n) &&& ~~~X) d), .int .i64 0] := by
 have h1 := erase_run (vocN n) (by rw [vocN_len]; omega) K (thy (vocN n) X) (thy_small hn X).1 d
 have hm := thy_models (vocN_ok hn) X
 rw [and_all hn hX] at hm
 have e : upE (vocN n) (thy (vocN n) X) d = 0 := by unfold upE; rw [if_neg (by simp [vocN_ok hn]), if_neg (by simp [hd]), hm.1]
 unfold eraA at h1
 rw [e, if_pos rfl, hm.2, vocN_len] at h1
 exact h1
theorem updateF_run {n : Nat} (hn : n ≤ 6) (K : BitVec 64) {f : F} (hf : f.size ≤ 256) (he : modelsE (vocN n) f = 0) (d : Int) (hd : dOk d = true) :
 run tb 11 [strsD (vocN n), bvD K, .int .i64 f.op, .str f.name, .sl (F.encs f.args), .int .i64 d] = some [bvD (unionS (2 ^ n) K (modelsS (vocN n) f) d), .int .i64 0] := by
 have h1 := update_run (vocN n) (by rw [vocN_len]; omega) K f (by omega) d
 have e : upE (vocN n) f d = 0 := by unfold upE; rw [if_neg (by simp [vocN_ok hn]), if_neg (by simp [hd]), he]
 unfold updA at h1
 rw [e, if_pos rfl, vocN_len] at h1
 exact h1
theorem small_has {X : BitVec 64} {n : Nat} (h : ∀ w, w < 64 → n ≤ w → ¬ has X w) : ∀ w, has X w → w < n := fun w hw =>
 Decidable.byContradiction fun hc => h w (has_lt hw) (by omega) hw
theorem awake34_run : run tb 13 [] = some [.bool true] := by
 refine run_ir (x := ir13) rfl ?_
 have hv2 : run tb 6 [.int .i64 2] = some [strsD (vocN 2)] := voc_run 2 (by omega)
 have hv3 : run tb 6 [.int .i64 3] = some [strsD (vocN 3)] := voc_run 3 (by omega)
 have x10 : ∀ w, has (10#64) w → w < 2 ^ 2 := small_has (by decide +kernel)
 have x66 : ∀ w, has (66#64) w → w < 2 ^ 3 := small_has (by decide +kernel)
 have t1 : run tb 12 [.int .i64 2, bvD 10#64] = _ := theoryU_run (n := 2) (by omega) x10
 have t2 : run tb 12 [.int .i64 3, bvD 66#64] = _ := theoryU_run (n := 3) (by omega) x66
 have u1 := updateT_run (n := 2) (by omega) 9#64 x10 1 rfl
 have u2 := updateT_run (n := 3) (by omega) 1#64 x66 1 rfl
 have u3 := updateT_run (n := 3) (by omega) 1#64 x66 2 rfl
 rw [show unionS (2 ^ 2) 9#64 10#64 1 = 10#64 by decide +kernel] at u1
 rw [show unionS (2 ^ 3) 1#64 66#64 1 = 2#64 by decide +kernel] at u2
 rw [show unionS (2 ^ 3) 1#64 66#64 2 = 66#64 by decide +kernel] at u3
 have l10 : D.int .u64 10 = bvD 10#64 := rfl
 have l9 : D.int .u64 9 = bvD 9#64 := rfl
 have l66 : D.int .u64 66 = bvD 66#64 := rfl
 have l2 : D.int .u64 2 = bvD 2#64 := rfl
 simp (disch := omega) only [ir13, stepQ, stepL, eq_self, aBin, reduceIte, Int.reduceEq, Int.reduceLT, Int.reduceLE, Int.reduceGT, Int.reduceGE, bvQ, wu, shl_norm, shr_norm, and1_norm, l10, l9, l66, l2, hv2, hv3, callQ_S, t1, t2, u1, u2, u3]
theorem distances_run (l0 : List Int) (u v w : Int) : run tb 3 [numsD l0, .int .i64 u, .int .i64 v, .int .i64 w] = some [.bool true] := by
 have aw := awake34_run
 obtain ⟨l, hl, hn⟩ := new_run l0
 obtain ⟨r, p, r1, r2, hp, hr⟩ := range_run 0 4 l 0 hl (by omega) (by omega) (by omega) (by omega)
 obtain ⟨n, rfl⟩ := Int.eq_ofNat_of_zero_le (show 0 ≤ r by omega)
 have hr : run tb 5 [.int .i64 0, .int .i64 4, numsD l, .int .i64 0] = some [.int .i64 n, numsD l, .int .i64 p] := hr
 have hn6 : n ≤ 6 := by omega
 have hvo := voc_run n (by omega)
 obtain ⟨S, q, hq, hS⟩ := set_run l p hl hp
 have hpp := Nat.two_pow_pos n
 have hpm : 2 ^ n ≤ 64 := pow6 hn6
 obtain ⟨x, q1, x0, x1, hq1, hx⟩ := n_run ((2 ^ n : Nat) : Int) l q hl hq (by omega) (by omega)
 have e1 := nearestA_run (vocN n) (by rw [vocN_len]; omega) x S 1
 have e2 := nearestA_run (vocN n) (by rw [vocN_len]; omega) x S 2
 have e3 := nearestA_run (vocN n) (by rw [vocN_len]; omega) x S 3
 have ee : ∀ d : Int, dOk d = true → nearE (vocN n) x d = 0 := fun d hd => by
  unfold nearE
  rw [vocN_len, if_neg ?_, if_neg (by simp [hd])]
  rintro (h | h | h)
  · rw [vocN_ok hn6] at h; cases h
  · omega
  · omega
 unfold nearA at e1 e2 e3
 rw [ee 1 rfl, if_pos rfl, vocN_len] at e1
 rw [ee 2 rfl, if_pos rfl, vocN_len] at e2
 rw [ee 3 rfl, if_pos rfl, vocN_len] at e3
 have f1 := near_h_i hpm (v := x) (M := S)
 have f2 := near_i_d hpm (v := x) (M := S)
 have hal := all3_run (vocN n) (by rw [vocN_len]; omega) (fun s hs => by rw [vocN_short s hs]; omega)
 have f3 := near_none hpm (v := x) (M := S) (d := 1) (L := allS (vocN n)) fun k => by
  have : allS (vocN n) = alW n := by unfold allS; rw [if_pos (vocN_ok hn6), vocN_len]
  rw [this]; exact ⟨fun h => ((has_bits hpm).1 h).1, fun h => (has_bits hpm).2 ⟨h, rfl⟩⟩
 have d1 := distance_run u v
 have d2 := distance_run v w
 have d3 := distance_run u w
 have d4 := distance_run v u
 have d5 := distance_run u u
 rw [dif_comm v u] at d4
 rw [dif_self, ones_zero] at d5
 have tr := dif_tri u v w
 refine run_ir (x := ir3) rfl ?_
 have b1 : ∀ a b : Nat, a < 1000 → b < 1000 → IntKind.i64.wrap ((a : Int) + b) = ((a + b : Nat) : Int) := fun a b ha hb => by rw [wr (by omega) (by omega)]; omega
 have o64 : ∀ x : BitVec 64, ones x 64 < 1000 := fun x => by
  have : ∀ k, ones x k ≤ k := fun k => by
   induction k with
   | zero => exact Nat.le_refl _
   | succ k ih => have : (x.getLsbD k).toNat ≤ 1 := by cases x.getLsbD k <;> simp
                  simp only [ones]; omega
  have := this 64; omega
 have b2 : ((ones (dif u w) 64 : Nat) : Int) ≤ ((ones (dif u v) 64 + ones (dif v w) 64 : Nat) : Int) := by omega
 have nbb : ∀ b : Bool, PO.eval (.bin .neq true) [.bool b, .bool b] = some [.bool false] := fun b => by cases b <;> rfl
 have f3 : decide (nearS (2 ^ n) x S 1 = 0#64) = decide (S &&& allS (vocN n) = 0#64) := decide_eq_decide.2 f3
 simp (disch := omega) only [ir3, ir3p0, stepQ, stepL, eq_self, aBin, reduceIte, Int.reduceEq, Int.reduceLT, Int.reduceLE, Int.reduceGT, Int.reduceGE, bvQ, wu, shl_norm, shr_norm, and1_norm, hn, hr, hvo, callQ_S, hS, hx, e1, e2, e3, f1, f2, hal, f3, nbb, d1, d2, d3, d4, d5, ibne, b1 _ _ (o64 _) (o64 _), b2, aw]
theorem single_run (l0 : List Int) : run tb 1 [numsD l0] = some [.bool true] := by
 have aw := awake34_run
 obtain ⟨l, hl, hn⟩ := new_run l0
 obtain ⟨r, p, r1, r2, hp, hr⟩ := range_run 1 3 l 0 hl (by omega) (by omega) (by omega) (by omega)
 obtain ⟨n, rfl⟩ := Int.eq_ofNat_of_zero_le (show 0 ≤ r by omega)
 have hr : run tb 5 [.int .i64 1, .int .i64 3, numsD l, .int .i64 0] = some [.int .i64 n, numsD l, .int .i64 p] := hr
 have hn6 : n ≤ 6 := by omega
 have hvo := voc_run n (by omega)
 obtain ⟨d, p1, d1, d3, hp1, hd⟩ := range_run 1 3 l p hl hp (by omega) (by omega) (by omega)
 have hdk := dOk_2 d1 d3
 have hpp := Nat.two_pow_pos n
 have hpm : 2 ^ n ≤ 64 := pow6 hn6
 obtain ⟨x, q, x0, x1, hq, hx⟩ := n_run ((2 ^ n : Nat) : Int) l p1 hl hp1 (by omega) (by omega)
 obtain ⟨x, rfl⟩ := Int.eq_ofNat_of_zero_le x0
 have hx64 : x < 2 ^ n := by omega
 obtain ⟨S1, q1, hq1, hS1⟩ := set_run l q hl hq
 obtain ⟨S2, q2, hq2, hS2⟩ := set_run l q1 hl hq1
 have hal := all3_run (vocN n) (by rw [vocN_len]; omega) (fun s hs => by rw [vocN_short s hs]; omega)
 have sM := all_sub hn6 S1
 have sK := all_sub hn6 S2
 obtain ⟨M, hM⟩ : ∃ M, S1 &&& allS (vocN n) = M := ⟨_, rfl⟩
 obtain ⟨K, hK⟩ : ∃ K, S2 &&& allS (vocN n) = K := ⟨_, rfl⟩
 rw [hM] at sM
 rw [hK] at sK
 have sO : ∀ w, has (M ||| K) w → w < 2 ^ n := fun w h => (has_or.1 h).elim (sM w) (sK w)
 have sA : ∀ w, has (M &&& K) w → w < 2 ^ n := fun w h => sM w (has_and.1 h).1
 have t1 := theoryU_run hn6 sM
 have t2 := theoryU_run hn6 sK
 have t3 := theoryU_run hn6 sO
 have t4 := theoryU_run hn6 sA
 have u1 := updateT_run hn6 (1#64 <<< x) sM d hdk
 have u2 := updateT_run hn6 (1#64 <<< x) sK d hdk
 have u3 := updateT_run hn6 (1#64 <<< x) sO d hdk
 have u4 := updateT_run hn6 (1#64 <<< x) sA d hdk
 rw [union_one hpm hx64] at u1 u2 u3 u4
 have f1 := upd7 hpm (v := x) (M := M) (K := K) (d := d)
 have e1 : run tb 14 [.int .i64 ((2 ^ n : Nat) : Int), numsD l, .int .i64 p1] = some [.int .i64 x, numsD l, .int .i64 q] := hx
 refine run_ir (x := ir1) rfl ?_
 by_cases c1 : d = 2
 · subst c1
   simp (disch := omega) only [ir1, ir1p0, stepQ, stepL, eq_self, aBin, reduceIte, Int.reduceEq, Int.reduceLT, Int.reduceLE, Int.reduceGT, Int.reduceGE, bvQ, wu, shl_norm, shr_norm, and1_norm, hn, hr, hvo, hd, e1, bv_convN, hal, hS1, hS2, hM, hK, t1, t2, t3, t4, u1, u2, u3, u4, f1, callQ_S, ibne, aw]
 by_cases c2 : nearS (2 ^ n) x M d &&& K = 0#64
 · simp (disch := omega) only [ir1, ir1p0, stepQ, stepL, eq_self, aBin, reduceIte, Int.reduceEq, Int.reduceLT, Int.reduceLE, Int.reduceGT, Int.reduceGE, bvQ, wu, shl_norm, shr_norm, and1_norm, hn, hr, hvo, hd, e1, bv_convN, hal, hS1, hS2, hM, hK, t1, t2, t3, t4, u1, u2, u3, u4, f1, callQ_S, ibne, aw, c1, c2]
 · have f2 := upd9 hpm c1 c2
   simp (disch := omega) only [ir1, ir1p0, stepQ, stepL, eq_self, aBin, reduceIte, Int.reduceEq, Int.reduceLT, Int.reduceLE, Int.reduceGT, Int.reduceGE, bvQ, wu, shl_norm, shr_norm, and1_norm, hn, hr, hvo, hd, e1, bv_convN, hal, hS1, hS2, hM, hK, t1, t2, t3, t4, u1, u2, u3, u4, f1, callQ_S, ibne, aw, c1, c2, f2]
theorem erases_run (l0 : List Int) : run tb 2 [numsD l0] = some [.bool true] := by
 have aw := awake34_run
 obtain ⟨l, hl, hn⟩ := new_run l0
 obtain ⟨r, p, r1, r2, hp, hr⟩ := range_run 1 3 l 0 hl (by omega) (by omega) (by omega) (by omega)
 obtain ⟨n, rfl⟩ := Int.eq_ofNat_of_zero_le (show 0 ≤ r by omega)
 have hr : run tb 5 [.int .i64 1, .int .i64 3, numsD l, .int .i64 0] = some [.int .i64 n, numsD l, .int .i64 p] := hr
 have hn6 : n ≤ 6 := by omega
 have hvo := voc_run n (by omega)
 obtain ⟨d, p1, d1, d3, hp1, hd⟩ := range_run 1 3 l p hl hp (by omega) (by omega) (by omega)
 have hdk := dOk_2 d1 d3
 have hpm : 2 ^ n ≤ 64 := pow6 hn6
 obtain ⟨S1, q1, hq1, hS1⟩ := set_run l p1 hl hp1
 obtain ⟨S2, q2, hq2, hS2⟩ := set_run l q1 hl hq1
 have hal := all3_run (vocN n) (by rw [vocN_len]; omega) (fun s hs => by rw [vocN_short s hs]; omega)
 have sK := all_sub hn6 S1
 have sM := all_sub hn6 S2
 obtain ⟨K, hK⟩ : ∃ K, S1 &&& allS (vocN n) = K := ⟨_, rfl⟩
 obtain ⟨M, hM⟩ : ∃ M, S2 &&& allS (vocN n) = M := ⟨_, rfl⟩
 rw [hK] at sK
 rw [hM] at sM
 have hA : ∀ w, has (allS (vocN n)) w ↔ w < 2 ^ n := fun w => by
  have : allS (vocN n) = alW n := by unfold allS; rw [if_pos (vocN_ok hn6), vocN_len]
  rw [this]; exact ⟨fun h => ((has_bits hpm).1 h).1, fun h => (has_bits hpm).2 ⟨h, rfl⟩⟩
 have sR : ∀ w, has (allS (vocN n) &&& ~~~M) w → w < 2 ^ n := fun w h => (hA w).1 (has_diff.1 h).1
 have t1 := theoryU_run hn6 sM
 have t2 := theoryU_run hn6 sR
 have u1 := eraseT_run hn6 K sM d hdk
 have u2 := updateT_run hn6 K sR d hdk
 rw [and_all hn6 sK] at u1
 have un : ∀ w, has (unionS (2 ^ n) K (allS (vocN n) &&& ~~~M) d) w → ¬ has M w := fun w h => (has_diff.1 (union_sub hpm h).1).2
 have f1 : K &&& ~~~(K ||| unionS (2 ^ n) K (allS (vocN n) &&& ~~~M) d) = 0#64 := set_sub.2 fun w h => has_or.2 (.inl h)
 have f2 : (K ||| unionS (2 ^ n) K (allS (vocN n) &&& ~~~M) d) &&& M = K &&& M := set_eq fun w => by
  rw [has_and, has_or, has_and]
  constructor
  · rintro ⟨h | h, hm⟩
    · exact ⟨h, hm⟩
    · exact absurd hm (un w h)
  · rintro ⟨h, hm⟩; exact ⟨.inl h, hm⟩
 have f3 : K ≠ 0#64 → M ≠ allS (vocN n) → ¬ (K ||| unionS (2 ^ n) K (allS (vocN n) &&& ~~~M) d) &&& ~~~M = 0#64 := fun hk hm => by
  have hne : allS (vocN n) &&& ~~~M ≠ 0#64 := fun h => hm (set_eq fun w => ⟨fun h1 => (hA w).2 (sM w h1), fun h1 => set_sub.1 h w h1⟩)
  obtain ⟨w, hw⟩ := set_ne (upd3 hpm (d := d) sK sR hk hne)
  exact ne_of_has (has_diff.2 ⟨has_or.2 (.inr hw), un w hw⟩)
 refine run_ir (x := ir2) rfl ?_
 by_cases c1 : K = 0#64
 · simp (disch := omega) only [ir2, stepQ, stepL, eq_self, aBin, reduceIte, Int.reduceEq, Int.reduceLT, Int.reduceLE, Int.reduceGT, Int.reduceGE, bvQ, wu, shl_norm, shr_norm, and1_norm, hn, hr, hvo, hd, hal, hS1, hS2, hK, hM, t1, t2, u1, u2, f1, f2, callQ_S, ibne, aw, eq_true c1]
 by_cases c2 : M = allS (vocN n)
 · simp (disch := omega) only [ir2, stepQ, stepL, eq_self, aBin, reduceIte, Int.reduceEq, Int.reduceLT, Int.reduceLE, Int.reduceGT, Int.reduceGE, bvQ, wu, shl_norm, shr_norm, and1_norm, hn, hr, hvo, hd, hal, hS1, hS2, hK, hM, t1, t2, u1, u2, f1, f2, callQ_S, ibne, aw, c1, eq_true c2]
 · have f4 := f3 c1 c2
   simp (disch := omega) only [ir2, stepQ, stepL, eq_self, aBin, reduceIte, Int.reduceEq, Int.reduceLT, Int.reduceLE, Int.reduceGT, Int.reduceGE, bvQ, wu, shl_norm, shr_norm, and1_norm, hn, hr, hvo, hd, hal, hS1, hS2, hK, hM, t1, t2, u1, u2, f1, f2, callQ_S, ibne, aw, c1, c2, f4]
set_option maxHeartbeats 2000000 in
theorem postulates34_run (l0 : List Int) : run tb 0 [numsD l0] = some [.bool true] := by
 have aw := awake34_run
 obtain ⟨l, hl, hn⟩ := new_run l0
 obtain ⟨r, p, r1, r2, hp, hr⟩ := range_run 1 3 l 0 hl (by omega) (by omega) (by omega) (by omega)
 obtain ⟨n, rfl⟩ := Int.eq_ofNat_of_zero_le (show 0 ≤ r by omega)
 have hr : run tb 5 [.int .i64 1, .int .i64 3, numsD l, .int .i64 0] = some [.int .i64 n, numsD l, .int .i64 p] := hr
 have hn6 : n ≤ 6 := by omega
 have hvo := voc_run n (by omega)
 obtain ⟨d, p1, d1, d3, hp1, hd⟩ := range_run 1 3 l p hl hp (by omega) (by omega) (by omega)
 have hdk := dOk_2 d1 d3
 have hpm : 2 ^ n ≤ 64 := pow6 hn6
 obtain ⟨S1, q1, hq1, hS1⟩ := set_run l p1 hl hp1
 obtain ⟨S2, q2, hq2, hS2⟩ := set_run l q1 hl hq1
 obtain ⟨f, c, b, hb, hm, hf⟩ : ∃ (f : F) (c : Nat) (b : Nat), b ≤ l.length ∧ (Made n 3 f) ∧ run tb 9 [.int .i64 n, .int .i64 3, numsD l, .int .i64 q2] = some [.int .i64 f.op, .str f.name, .sl (F.encs f.args), numsD l, .int .i64 b] := by
  obtain ⟨f, b, h1, h2, h3⟩ := formula_run n (by omega) (by omega) l hl 3 (by omega) q2 hq2
  exact ⟨f, 0, b, h1, h2, h3⟩
 obtain ⟨g, b2, hb2, hmg, hg⟩ := formula_run n (by omega) (by omega) l hl 3 (by omega) b hb
 have hg : run tb 9 [.int .i64 n, .int .i64 3, numsD l, .int .i64 b] = some [.int .i64 g.op, .str g.name, .sl (F.encs g.args), numsD l, .int .i64 b2] := hg
 obtain ⟨a1, a2, a3, a4, a5, a6⟩ := made_models hn6 (by omega) hm
 obtain ⟨g1, g2, g3, g4, g5, g6⟩ := made_models hn6 (by omega) hmg
 have hvl : (vocN n).length < 1000000000 := by rw [vocN_len]; omega
 have hvs : ∀ s ∈ vocN n, s.length < 9223372036854775808 := fun s hs => by rw [vocN_short s hs]; omega
 have hal := all3_run (vocN n) hvl hvs
 have m1 := modelsR_run (vocN n) f hvl hvs (by omega) (good_nameB a1)
 have m2 := modelsR_run (vocN n) g hvl hvs (by omega) (good_nameB g1)
 rw [a5] at m1
 rw [g5] at m2
 have sA := all_sub hn6 S1
 have sB := all_sub hn6 S2
 obtain ⟨A, hA⟩ : ∃ A, S1 &&& allS (vocN n) = A := ⟨_, rfl⟩
 obtain ⟨B, hB⟩ : ∃ B, S2 &&& allS (vocN n) = B := ⟨_, rfl⟩
 rw [hA] at sA
 rw [hB] at sB
 have sM : ∀ w, has (modelsS (vocN n) f) w → w < 2 ^ n := fun w h => by
  rw [a6] at h; exact ((has_bits hpm).1 h).1
 have u1 := updateF_run hn6 A a2 a5 d hdk
 have u2 := updateF_run hn6 B a2 a5 d hdk
 have u3 := updateF_run hn6 (A ||| B) a2 a5 d hdk
 have u4 := updateF_run hn6 A g2 g5 d hdk
 generalize modelsS (vocN n) f = M at *
 generalize modelsS (vocN n) g = K at *
 have sC : ∀ w, has (M &&& K) w → w < 2 ^ n := fun w h => sM w (has_and.1 h).1
 have t1 := theoryU_run hn6 sC
 have t2 := theoryU_run hn6 sM
 have u5 := updateT_run hn6 A sC d hdk
 have u6 := updateT_run hn6 A sM d hdk
 rw [upd8 hpm] at u3
 have f1 := upd1 hpm (A := A) (M := M) (d := d)
 have f2 : A &&& ~~~M = 0#64 → unionS (2 ^ n) A M d = A := upd2 hpm d1 d3 sA
 have f3 : A ≠ 0#64 → M ≠ 0#64 → ¬ unionS (2 ^ n) A M d = 0#64 := upd3 hpm sA sM
 have f5 := upd5 hpm (A := A) (M := M) (K := K) (d := d)
 have f6 : unionS (2 ^ n) A M d &&& ~~~K = 0#64 → unionS (2 ^ n) A K d &&& ~~~M = 0#64 → unionS (2 ^ n) A M d = unionS (2 ^ n) A K d := upd6 hpm
 simp only [rowF, List.cons_append, List.nil_append] at m1 m2
 refine run_ir (x := ir0) rfl ?_
 generalize unionS (2 ^ n) A M d = X at *
 generalize unionS (2 ^ n) A K d = P at *
 generalize unionS (2 ^ n) A (M &&& K) d = Q at *
 generalize unionS (2 ^ n) B M d = Y at *
 have tf : ∀ P : Prop, P = True ∨ P = False := Classical.propComplete
 have f2 : (A &&& ~~~M = 0#64) = True → (X = A) = True := fun h => eq_true (f2 (of_eq_true h))
 have f3 : (A = 0#64) = False → (M = 0#64) = False → (X = 0#64) = False := fun h1 h2 => eq_false (f3 (of_eq_false h1) (of_eq_false h2))
 have f6 : (X &&& ~~~K = 0#64) = True → (P &&& ~~~M = 0#64) = True → (X = P) = True := fun h1 h2 => eq_true (f6 (of_eq_true h1) (of_eq_true h2))
 rcases tf (A &&& ~~~M = 0#64) with c1 | c1
 all_goals rcases tf (A = 0#64) with c2 | c2
 all_goals rcases tf (M = 0#64) with c3 | c3
 all_goals rcases tf (X &&& ~~~K = 0#64) with c4 | c4
 all_goals rcases tf (P &&& ~~~M = 0#64) with c5 | c5
 all_goals
  first
  | (have e1 := f2 c1
     first
     | (have e2 := f6 c4 c5
        first
        | (have e3 := f3 c2 c3
           simp (disch := omega) only [ir0, ir0p0, stepQ, stepL, eq_self, aBin, reduceIte, Int.reduceEq, Int.reduceLT, Int.reduceLE, Int.reduceGT, Int.reduceGE, bvQ, wu, shl_norm, shr_norm, and1_norm, hn, hr, hvo, hd, hal, hS1, hS2, hA, hB, hf, hg, m1, m2, t1, t2, u1, u2, u3, u4, u5, u6, f1, f5, callQ_S, ibne, aw, c1, c2, c3, c4, c5, e1, e2, e3])
        | simp (disch := omega) only [ir0, ir0p0, stepQ, stepL, eq_self, aBin, reduceIte, Int.reduceEq, Int.reduceLT, Int.reduceLE, Int.reduceGT, Int.reduceGE, bvQ, wu, shl_norm, shr_norm, and1_norm, hn, hr, hvo, hd, hal, hS1, hS2, hA, hB, hf, hg, m1, m2, t1, t2, u1, u2, u3, u4, u5, u6, f1, f5, callQ_S, ibne, aw, c1, c2, c3, c4, c5, e1, e2])
     | (have e3 := f3 c2 c3
        simp (disch := omega) only [ir0, ir0p0, stepQ, stepL, eq_self, aBin, reduceIte, Int.reduceEq, Int.reduceLT, Int.reduceLE, Int.reduceGT, Int.reduceGE, bvQ, wu, shl_norm, shr_norm, and1_norm, hn, hr, hvo, hd, hal, hS1, hS2, hA, hB, hf, hg, m1, m2, t1, t2, u1, u2, u3, u4, u5, u6, f1, f5, callQ_S, ibne, aw, c1, c2, c3, c4, c5, e1, e3])
     | simp (disch := omega) only [ir0, ir0p0, stepQ, stepL, eq_self, aBin, reduceIte, Int.reduceEq, Int.reduceLT, Int.reduceLE, Int.reduceGT, Int.reduceGE, bvQ, wu, shl_norm, shr_norm, and1_norm, hn, hr, hvo, hd, hal, hS1, hS2, hA, hB, hf, hg, m1, m2, t1, t2, u1, u2, u3, u4, u5, u6, f1, f5, callQ_S, ibne, aw, c1, c2, c3, c4, c5, e1])
  | (have e2 := f6 c4 c5
     first
     | (have e3 := f3 c2 c3
        simp (disch := omega) only [ir0, ir0p0, stepQ, stepL, eq_self, aBin, reduceIte, Int.reduceEq, Int.reduceLT, Int.reduceLE, Int.reduceGT, Int.reduceGE, bvQ, wu, shl_norm, shr_norm, and1_norm, hn, hr, hvo, hd, hal, hS1, hS2, hA, hB, hf, hg, m1, m2, t1, t2, u1, u2, u3, u4, u5, u6, f1, f5, callQ_S, ibne, aw, c1, c2, c3, c4, c5, e2, e3])
     | simp (disch := omega) only [ir0, ir0p0, stepQ, stepL, eq_self, aBin, reduceIte, Int.reduceEq, Int.reduceLT, Int.reduceLE, Int.reduceGT, Int.reduceGE, bvQ, wu, shl_norm, shr_norm, and1_norm, hn, hr, hvo, hd, hal, hS1, hS2, hA, hB, hf, hg, m1, m2, t1, t2, u1, u2, u3, u4, u5, u6, f1, f5, callQ_S, ibne, aw, c1, c2, c3, c4, c5, e2])
  | (have e3 := f3 c2 c3
     simp (disch := omega) only [ir0, ir0p0, stepQ, stepL, eq_self, aBin, reduceIte, Int.reduceEq, Int.reduceLT, Int.reduceLE, Int.reduceGT, Int.reduceGE, bvQ, wu, shl_norm, shr_norm, and1_norm, hn, hr, hvo, hd, hal, hS1, hS2, hA, hB, hf, hg, m1, m2, t1, t2, u1, u2, u3, u4, u5, u6, f1, f5, callQ_S, ibne, aw, c1, c2, c3, c4, c5, e3])
  | simp (disch := omega) only [ir0, ir0p0, stepQ, stepL, eq_self, aBin, reduceIte, Int.reduceEq, Int.reduceLT, Int.reduceLE, Int.reduceGT, Int.reduceGE, bvQ, wu, shl_norm, shr_norm, and1_norm, hn, hr, hvo, hd, hal, hS1, hS2, hA, hB, hf, hg, m1, m2, t1, t2, u1, u2, u3, u4, u5, u6, f1, f5, callQ_S, ibne, aw, c1, c2, c3, c4, c5]
end Go.Proofs.YtefkehflmlikmaaDoor
