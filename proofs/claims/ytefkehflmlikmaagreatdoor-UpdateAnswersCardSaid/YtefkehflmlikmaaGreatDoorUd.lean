/- Plain programs of the functions of the program and lemmas about what they compute. -/
import Derived.Test.YtefkehflmlikmaaGreatDoorWd
import Derived.Test.YtefkehflmlikmaaGreatDoorOd
import Derived.Test.YtefkehflmlikmaaGreatDoorTz
import Derived.Test.YtefkehflmlikmaaGreatDoorAm6
set_option linter.unusedSimpArgs false
set_option linter.unusedVariables false
set_option linter.unusedSectionVars false
namespace Go.Proofs.YtefkehflmlikmaaGreatDoor
open Go Am
set_option maxRecDepth 100000
set_option linter.unusedSimpArgs false
set_option linter.unusedVariables false
theorem tzX_run (x : BitVec 64) : run tb 51 [bvD x] = some [.int .i64 (low x)] := run_ext rfl (tzE_run x)
theorem app_N1 {l : List Int} {a : Int} (h : l.length + 1 ≤ 1000000) : PO.eval (.app 1 8) [numsD l, .sl [[.int .i64 a]]] = some [numsD (l ++ [a])] := by
 unfold numsD
 rw [ev_app (by simp; omega) (by simp; omega) (by simp [numR])]
 simp [numR]
def natL (l : List Nat) : List Int := l.map fun (n : Nat) => (n : Int)
theorem worlds_run (voc : List (List UInt8)) (X : BitVec 64) (hl : voc.length < 1000000000) : run tb 39 [strsD voc, bvD X] = some [numsD (natL (worldsTo (X &&& allS voc) 64))] := by
 refine run_ir (x := ir39) rfl ?_
 have h1 := all_run voc hl
 simp (disch := omega) only [ir39, stepQ, stepL, eq_self, aBin, reduceIte, Int.reduceEq, Int.reduceLT, Int.reduceLE, Int.reduceGT, Int.reduceGE, bvQ, wu, shl_norm, shr_norm, and1_norm, h1]
 generalize X &&& allS voc = Y
 have h0 : from_ Y 0 = Y := from_zero Y
 show loopQ _ _ _ _ [bvD Y, numsD (natL (worldsTo Y 0))] = _
 rw [← h0]
 conv => rhs; rw [h0]
 conv => lhs; rw [show worldsTo (from_ Y 0) 0 = worldsTo Y 0 from rfl]
 refine loop_km (ι := Nat) (fun a => 64 - a) (fun a => a ≤ 64) (fun a => [bvD (from_ Y a), numsD (natL (worldsTo Y a))]) (fun _ => [numsD (natL (worldsTo Y 64))]) ?_ 0 (by omega)
 rintro a L ha hL
 by_cases hz : from_ Y a = 0#64
 · have hd := from_done Y a ha hz
   simp (disch := omega) only [ir39p0, stepQ, stepL, eq_self, aBin, reduceIte, Int.reduceEq, Int.reduceLT, Int.reduceLE, Int.reduceGT, Int.reduceGE, bvQ, wu, shl_norm, shr_norm, and1_norm, hz, hd]
 · obtain ⟨n1, n2, n3, n4⟩ := from_next Y a hz
   have ht := tzX_run (from_ Y a)
   have hnext := hL (low (from_ Y a) + 1) (by show _ ≤ 64; omega) (by show 64 - (low (from_ Y a) + 1) < 64 - a; omega)
   rw [n4] at hnext
   have hlen : (natL (worldsTo Y a)).length + 1 ≤ 1000000 := by
    have := worldsTo_len Y a
    simp only [natL, List.length_map]; omega
   have happ := app_N1 (a := (low (from_ Y a) : Int)) hlen
   have hnl : natL (worldsTo Y a ++ [low (from_ Y a)]) = natL (worldsTo Y a) ++ [(low (from_ Y a) : Int)] := by simp [natL]
   rw [hnl] at hnext
   simp (disch := omega) only [ir39p0, stepQ, stepL, eq_self, aBin, reduceIte, Int.reduceEq, Int.reduceLT, Int.reduceLE, Int.reduceGT, Int.reduceGE, bvQ, wu, shl_norm, shr_norm, and1_norm, hz, ht, happ, n3, hnext]
theorem differ_run (v w : Int) : run tb 21 [.int .i64 v, .int .i64 w] = some [bvD (dif v w)] := by
 refine run_ir (x := ir21) rfl ?_
 have l63 : D.int .u64 63 = bvD 63#64 := rfl
 simp (disch := omega) only [ir21, stepQ, stepL, eq_self, aBin, reduceIte, Int.reduceEq, Int.reduceLT, Int.reduceLE, Int.reduceGT, Int.reduceGE, bvQ, wu, shl_norm, shr_norm, and1_norm, l63]
 rw [ofInt_wrap]
 exact congrArg (fun x => some [bvD (x &&& 63#64)]) (ofIntU (BitVec.ofInt 64 v ^^^ BitVec.ofInt 64 w))
theorem distance_run (v w : Int) : run tb 5 [.int .i64 v, .int .i64 w] = some [.int .i64 (ones (dif v w) 64)] := by
 refine run_ir (x := ir5) rfl ?_
 have h1 := differ_run v w
 have h2 := ones_run (dif v w)
 simp (disch := omega) only [ir5, stepQ, stepL, eq_self, aBin, reduceIte, Int.reduceEq, Int.reduceLT, Int.reduceLE, Int.reduceGT, Int.reduceGE, h1, h2]
def msF (d : Int) : D := if d = 1 then fnD 67 else if d = 2 then fnD 68 else if d = 3 then fnD 69 else .raw .nilFunc
def dOk (d : Int) : Bool := decide (1 ≤ d) && decide (d ≤ 3)
theorem measure_run (d : Int) : run tb 26 [.int .i64 d] = some [msF d, .bool (dOk d)] := by
 refine run_ir (x := ir26) rfl ?_
 unfold msF dOk
 by_cases h1 : d = 1
 · subst h1; simp (disch := omega) only [ir26, stepQ, stepL, eq_self, aBin, reduceIte, Int.reduceEq, Int.reduceLT, Int.reduceLE, Int.reduceGT, Int.reduceGE]
 by_cases h2 : d = 2
 · subst h2; simp (disch := omega) only [ir26, stepQ, stepL, eq_self, aBin, reduceIte, Int.reduceEq, Int.reduceLT, Int.reduceLE, Int.reduceGT, Int.reduceGE]
 by_cases h3 : d = 3
 · subst h3; simp (disch := omega) only [ir26, stepQ, stepL, eq_self, aBin, reduceIte, Int.reduceEq, Int.reduceLT, Int.reduceLE, Int.reduceGT, Int.reduceGE]
 have h4 : (decide (1 ≤ d) && decide (d ≤ 3)) = false := by simp; omega
 rw [if_neg h1, if_neg h2, if_neg h3, h4]
 simp (disch := omega) only [ir26, stepQ, stepL, eq_self, aBin, reduceIte, Int.reduceEq, Int.reduceLT, Int.reduceLE, Int.reduceGT, Int.reduceGE, h1, h2, h3]
theorem m1_run (a b : BitVec 64) : run tb 40 [bvD a, bvD b] = some [.bool (nearP 1 a b)] := by
 refine run_ir (x := ir40) rfl ?_
 have h1 := ones_run a
 have h2 := ones_run b
 have e : nearP 1 a b = decide ((ones a 64 : Int) < (ones b 64 : Int)) := by simp [nearP]
 rw [e]
 simp (disch := omega) only [ir40, stepQ, stepL, eq_self, aBin, reduceIte, Int.reduceEq, Int.reduceLT, Int.reduceLE, Int.reduceGT, Int.reduceGE, h1, h2]
theorem m2_run (a b : BitVec 64) : run tb 41 [bvD a, bvD b] = some [.bool (nearP 2 a b)] := by
 refine run_ir (x := ir41) rfl ?_
 have e : nearP 2 a b = (decide (a &&& ~~~b = 0#64) && !decide (a = b)) := rfl
 rw [e]
 by_cases h : a &&& ~~~b = 0#64
 · simp (disch := omega) only [ir41, stepQ, stepL, eq_self, aBin, reduceIte, Int.reduceEq, Int.reduceLT, Int.reduceLE, Int.reduceGT, Int.reduceGE, bvQ, wu, shl_norm, shr_norm, and1_norm, h, decide_true, Bool.true_and]
 · simp (disch := omega) only [ir41, stepQ, stepL, eq_self, aBin, reduceIte, Int.reduceEq, Int.reduceLT, Int.reduceLE, Int.reduceGT, Int.reduceGE, bvQ, wu, shl_norm, shr_norm, and1_norm, h, decide_false, Bool.false_and]
theorem m3_run (a b : BitVec 64) : run tb 42 [bvD a, bvD b] = some [.bool (nearP 3 a b)] := by
 refine run_ir (x := ir42) rfl ?_
 have e : nearP 3 a b = (decide (a = 0#64) && !decide (b = 0#64)) := rfl
 rw [e]
 by_cases h : a = 0#64
 · simp (disch := omega) only [ir42, stepQ, stepL, eq_self, aBin, reduceIte, Int.reduceEq, Int.reduceLT, Int.reduceLE, Int.reduceGT, Int.reduceGE, bvQ, wu, shl_norm, shr_norm, and1_norm, h, decide_true, Bool.true_and]
 · simp (disch := omega) only [ir42, stepQ, stepL, eq_self, aBin, reduceIte, Int.reduceEq, Int.reduceLT, Int.reduceLE, Int.reduceGT, Int.reduceGE, bvQ, wu, shl_norm, shr_norm, and1_norm, h, decide_false, Bool.false_and]
theorem row_nat {l : List Nat} {i : Nat} (h : i < l.length) : PO.eval (.row 1) [numsD (natL l), .int .i64 i] = some [.int .i64 (l[i] : Nat)] := by
 have h1 : i < (natL l).length := by simpa [natL] using h
 have := row_N h1
 rw [this]; simp [natL]
theorem len_nat (l : List Nat) : PO.eval .lenL [numsD (natL l)] = some [.int .i64 l.length] := by rw [len_N]; simp [natL]
theorem nearest_run (names : List (List UInt8)) (v : Int) (X : BitVec 64) (d : Int) (hd : dOk d = true) (hl : names.length < 1000000000) :
 run tb 27 [strsD names, .int .i64 v, bvD X, msF d] = some [bvD (accN v (worldsTo (X &&& allS names) 64) d (worldsTo (X &&& allS names) 64).length)] := by
 refine run_ir (x := ir27) rfl ?_
 have h1 := worlds_run names X hl
 obtain ⟨l, hll⟩ : ∃ l, l = worldsTo (X &&& allS names) 64 := ⟨_, rfl⟩
 have hlt : ∀ w ∈ l, w < 64 := fun w hw => by rw [hll, mem_worldsTo] at hw; exact hw.1
 have hlen : l.length ≤ 64 := by rw [hll]; exact worldsTo_len _ _
 rw [← hll] at h1 ⊢
 clear hll
 simp (disch := omega) only [ir27, stepQ, stepL, eq_self, aBin, reduceIte, Int.reduceEq, Int.reduceLT, Int.reduceLE, Int.reduceGT, Int.reduceGE, bvQ, wu, shl_norm, shr_norm, and1_norm, h1, callQ_N, len_nat]
 rw [← accN_0 v l d]
 refine loop_k (σ := Unit) l.length (fun _ _ => True) (fun i _ => [msF d, bvD (accN v l d i), .int .i64 i]) (fun _ _ => [bvD (accN v l d l.length)]) ?_ ?_ 0 () (Nat.zero_le _) trivial
 · rintro i _ L hi _ hL
   have hnext := hL () trivial
   have hw := hlt _ (List.getElem_mem hi)
   rw [accN_s hi hw] at hnext
   have hrw := row_nat hi
   have d1 := fun u : Nat => differ_run v u
   simp (disch := omega) only [ir27p3, stepQ, stepL, eq_self, aBin, reduceIte, Int.reduceEq, Int.reduceLT, Int.reduceLE, Int.reduceGT, Int.reduceGE, hi, hrw, len_nat]
   generalize l[i] = w at *
   refine loop_k (σ := Unit) l.length (fun j _ => (l.take j).all (fun u => !nearP d (dif v u) (dif v w)) = true) (fun j _ => [msF d, .int .i64 j]) (fun _ _ => [bvD (accN v l d l.length)]) ?_ ?_ 0 () (Nat.zero_le _) rfl
   · rintro j _ M hj hp hM
     have hrj := row_nat hj
     have hmem : l[j] ∈ l := List.getElem_mem hj
     have hpj : (!nearP d (dif v (l[j] : Nat)) (dif v w)) = true → (l.take (j + 1)).all (fun u => !nearP d (dif v u) (dif v w)) = true := fun h => by
      rw [List.take_add_one, List.getElem?_eq_getElem hj]
      simp only [Option.toList_some, List.all_append, List.all_cons, List.all_nil, Bool.and_true, Bool.true_and, hp]; exact h
     have hok : nearP d (dif v (l[j] : Nat)) (dif v w) = true → okN v l d w = false := fun h => by
      unfold okN
      rw [List.all_eq_false]
      exact ⟨_, hmem, by rw [h]; simp⟩
     generalize l[j] = u at *
     cases hb : nearP d (dif v u) (dif v w) with
     | true =>
      rw [hok hb] at hnext
      simp only [Bool.false_eq_true, if_false] at hnext
      unfold dOk at hd
      simp only [Bool.and_eq_true, decide_eq_true_eq] at hd
      rcases (by omega : d = 1 ∨ d = 2 ∨ d = 3) with rfl | rfl | rfl
      · have hm := m1_run (dif v u) (dif v w)
        rw [hb] at hm
        simp only [msF, Int.reduceEq, if_true, if_false] at hnext ⊢
        simp (disch := omega) only [ir27p2, ir27p1, ir27p0, stepQ, stepL, eq_self, aBin, reduceIte, Int.reduceEq, Int.reduceLT, Int.reduceLE, Int.reduceGT, Int.reduceGE, k_isf, isFn, Nat.reduceBEq, hj, hrj, d1, hm, wr, natS, hnext]
      · have hm := m2_run (dif v u) (dif v w)
        rw [hb] at hm
        simp only [msF, Int.reduceEq, if_true, if_false] at hnext ⊢
        simp (disch := omega) only [ir27p2, ir27p1, ir27p0, stepQ, stepL, eq_self, aBin, reduceIte, Int.reduceEq, Int.reduceLT, Int.reduceLE, Int.reduceGT, Int.reduceGE, k_isf, isFn, Nat.reduceBEq, hj, hrj, d1, hm, wr, natS, hnext]
      · have hm := m3_run (dif v u) (dif v w)
        rw [hb] at hm
        simp only [msF, Int.reduceEq, if_true, if_false] at hnext ⊢
        simp (disch := omega) only [ir27p2, ir27p1, ir27p0, stepQ, stepL, eq_self, aBin, reduceIte, Int.reduceEq, Int.reduceLT, Int.reduceLE, Int.reduceGT, Int.reduceGE, k_isf, isFn, Nat.reduceBEq, hj, hrj, d1, hm, wr, natS, hnext]
     | false =>
      have hnx := hM () (hpj (by rw [hb]; rfl))
      unfold dOk at hd
      simp only [Bool.and_eq_true, decide_eq_true_eq] at hd
      rcases (by omega : d = 1 ∨ d = 2 ∨ d = 3) with rfl | rfl | rfl
      · have hm := m1_run (dif v u) (dif v w)
        rw [hb] at hm
        simp only [msF, Int.reduceEq, if_true, if_false] at hnx ⊢
        simp (disch := omega) only [ir27p2, ir27p1, stepQ, stepL, eq_self, aBin, reduceIte, Int.reduceEq, Int.reduceLT, Int.reduceLE, Int.reduceGT, Int.reduceGE, k_isf, isFn, Nat.reduceBEq, hj, hrj, d1, hm, wr, natS, hnx]
      · have hm := m2_run (dif v u) (dif v w)
        rw [hb] at hm
        simp only [msF, Int.reduceEq, if_true, if_false] at hnx ⊢
        simp (disch := omega) only [ir27p2, ir27p1, stepQ, stepL, eq_self, aBin, reduceIte, Int.reduceEq, Int.reduceLT, Int.reduceLE, Int.reduceGT, Int.reduceGE, k_isf, isFn, Nat.reduceBEq, hj, hrj, d1, hm, wr, natS, hnx]
      · have hm := m3_run (dif v u) (dif v w)
        rw [hb] at hm
        simp only [msF, Int.reduceEq, if_true, if_false] at hnx ⊢
        simp (disch := omega) only [ir27p2, ir27p1, stepQ, stepL, eq_self, aBin, reduceIte, Int.reduceEq, Int.reduceLT, Int.reduceLE, Int.reduceGT, Int.reduceGE, k_isf, isFn, Nat.reduceBEq, hj, hrj, d1, hm, wr, natS, hnx]
   · rintro _ M hp
     rw [List.take_length] at hp
     have hok : okN v l d w = true := hp
     rw [hok, if_pos rfl] at hnext
     simp (disch := omega) only [ir27p2, ir27p0, stepQ, stepL, eq_self, aBin, reduceIte, Int.reduceEq, Int.reduceLT, Int.reduceLE, Int.reduceGT, Int.reduceGE, bvQ, wu, shl_norm, shr_norm, and1_norm, Nat.lt_irrefl, bv_convN, wr, natS, hnext]
 · rintro _ L _
   simp (disch := omega) only [ir27p3, stepQ, stepL, eq_self, aBin, reduceIte, Int.reduceEq, Int.reduceLT, Int.reduceLE, Int.reduceGT, Int.reduceGE, Nat.lt_irrefl]
end Go.Proofs.YtefkehflmlikmaaGreatDoor

namespace Go.Proofs.YtefkehflmlikmaaGreatDoor
open Go Am
set_option maxRecDepth 100000
set_option linter.unusedSimpArgs false
set_option linter.unusedVariables false
theorem nearV (names : List (List UInt8)) (hv : vocOk names = true) (v : Int) (X : BitVec 64) (d : Int) :
 accN v (worldsTo (X &&& allS names) 64) d (worldsTo (X &&& allS names) 64).length = nearS (2 ^ names.length) v X d := by
 have h6 := vocOk_len hv
 have hal : allS names = alW names.length := by unfold allS; rw [if_pos hv]
 rw [hal, worlds_all h6]
 exact accN_near (pow6 h6) v X d
theorem nearestV_run (names : List (List UInt8)) (hv : vocOk names = true) (v : Int) (X : BitVec 64) (d : Int) (hd : dOk d = true) :
 run tb 27 [strsD names, .int .i64 v, bvD X, msF d] = some [bvD (nearS (2 ^ names.length) v X d)] := by
 have := nearest_run names v X d hd (by have := vocOk_len hv; omega)
 rwa [nearV names hv] at this
def nearE (names : List (List UInt8)) (v d : Int) : Int := if vocOk names = false ∨ v < 0 ∨ ((2 ^ names.length : Nat) : Int) ≤ v then 1 else if dOk d = false then 4 else 0
def nearA (names : List (List UInt8)) (v : Int) (X : BitVec 64) (d : Int) : BitVec 64 := if nearE names v d = 0 then nearS (2 ^ names.length) v X d else 0#64
theorem nearestA_run (names : List (List UInt8)) (hl : names.length < 60) (v : Int) (X : BitVec 64) (d : Int) :
 run tb 10 [strsD names, .int .i64 v, bvD X, .int .i64 d] = some [bvD (nearA names v X d), .int .i64 (nearE names v d)] := by
 refine run_ir (x := ir10) rfl ?_
 have h1 := valid_run names (by omega)
 have h2 := measure_run d
 unfold nearA
 cases hv : vocOk names with
 | false =>
  rw [hv] at h1
  have e : nearE names v d = 1 := by unfold nearE; rw [if_pos (.inl hv)]
  rw [e, if_neg (by decide)]
  simp (disch := omega) only [ir10, ir10p0, stepQ, stepL, eq_self, aBin, reduceIte, Int.reduceEq, Int.reduceLT, Int.reduceLE, Int.reduceGT, Int.reduceGE, bvQ, wu, shl_norm, shr_norm, and1_norm, h1]
 | true =>
  rw [hv] at h1
  by_cases c1 : v < 0
  · have e : nearE names v d = 1 := by unfold nearE; rw [if_pos (.inr (.inl c1))]
    rw [e, if_neg (by decide)]
    simp (disch := omega) only [ir10, ir10p0, stepQ, stepL, eq_self, aBin, reduceIte, Int.reduceEq, Int.reduceLT, Int.reduceLE, Int.reduceGT, Int.reduceGE, bvQ, wu, shl_norm, shr_norm, and1_norm, h1, c1]
  by_cases c2 : v ≥ ((2 ^ names.length : Nat) : Int)
  · have e : nearE names v d = 1 := by unfold nearE; rw [if_pos (.inr (.inr c2))]
    rw [e, if_neg (by decide)]
    simp (disch := omega) only [ir10, ir10p0, stepQ, stepL, eq_self, aBin, reduceIte, Int.reduceEq, Int.reduceLT, Int.reduceLE, Int.reduceGT, Int.reduceGE, bvQ, wu, shl_norm, shr_norm, and1_norm, h1, c1, len_S, c2]
  have hno : ¬ (vocOk names = false ∨ v < 0 ∨ ((2 ^ names.length : Nat) : Int) ≤ v) := by
   rintro (h | h | h)
   · rw [hv] at h; cases h
   · exact c1 h
   · exact c2 h
  cases hd : dOk d with
  | false =>
   rw [hd] at h2
   have e : nearE names v d = 4 := by unfold nearE; rw [if_neg hno, if_pos hd]
   rw [e, if_neg (by decide)]
   simp (disch := omega) only [ir10, ir10p0, stepQ, stepL, eq_self, aBin, reduceIte, Int.reduceEq, Int.reduceLT, Int.reduceLE, Int.reduceGT, Int.reduceGE, bvQ, wu, shl_norm, shr_norm, and1_norm, h1, c1, len_S, c2, h2]
  | true =>
   rw [hd] at h2
   have e : nearE names v d = 0 := by unfold nearE; rw [if_neg hno, if_neg (by rw [hd]; simp)]
   have h3 := nearestV_run names hv v X d hd
   rw [e, if_pos rfl]
   simp (disch := omega) only [ir10, ir10p0, stepQ, stepL, eq_self, aBin, reduceIte, Int.reduceEq, Int.reduceLT, Int.reduceLE, Int.reduceGT, Int.reduceGE, bvQ, wu, shl_norm, shr_norm, and1_norm, h1, c1, len_S, c2, h2, h3]
theorem spread_run (names : List (List UInt8)) (hv : vocOk names = true) (K X : BitVec 64) (d : Int) (hd : dOk d = true) :
 run tb 32 [strsD names, bvD K, bvD X, .int .i64 d] = some [bvD (unionS (2 ^ names.length) K X d)] := by
 refine run_ir (x := ir32) rfl ?_
 have h6 := vocOk_len hv
 have h64 := pow6 h6
 have h1 := measure_run d
 have hal : allS names = alW names.length := by unfold allS; rw [if_pos hv]
 have h2 := worlds_run names K (by omega)
 rw [hal, worlds_all h6] at h2
 rw [hd] at h1
 have h3 := fun v : Nat => nearestV_run names hv v X d hd
 have hlen := worldsTo_len K (2 ^ names.length)
 have hU := union_list h64 K X d
 have hS := unionT_list h64 K X d
 rw [← hU]
 clear hU
 generalize worldsTo K (2 ^ names.length) = l at *
 generalize 2 ^ names.length = n at *
 simp (disch := omega) only [ir32, stepQ, stepL, eq_self, aBin, reduceIte, Int.reduceEq, Int.reduceLT, Int.reduceLE, Int.reduceGT, Int.reduceGE, bvQ, wu, shl_norm, shr_norm, and1_norm, h1, h2, callQ_N, len_nat]
 have z : (0#64 : BitVec 64) = bitsTo (fun w => (l.take 0).any fun v => (nearS n v X d).getLsbD w) n := (set_zero.2 fun w h => by rw [has_bits h64] at h; simp at h).symm
 rw [z]
 refine loop_k (σ := Unit) l.length (fun _ _ => True) (fun i _ => [bvD (bitsTo (fun w => (l.take i).any fun v => (nearS n v X d).getLsbD w) n), .int .i64 i]) (fun _ _ => [bvD (bitsTo (fun w => (l.take l.length).any fun v => (nearS n v X d).getLsbD w) n)]) ?_ ?_ 0 () (Nat.zero_le _) trivial
 · rintro i _ L hi _ hL
   have hnext := hL () trivial
   rw [hS i hi] at hnext
   have hrw := row_nat hi
   simp (disch := omega) only [ir32p0, stepQ, stepL, eq_self, aBin, reduceIte, Int.reduceEq, Int.reduceLT, Int.reduceLE, Int.reduceGT, Int.reduceGE, bvQ, wu, shl_norm, shr_norm, and1_norm, hi, hrw, h3, wr, natS, hnext]
 · rintro _ L _
   simp (disch := omega) only [ir32p0, stepQ, stepL, eq_self, aBin, reduceIte, Int.reduceEq, Int.reduceLT, Int.reduceLE, Int.reduceGT, Int.reduceGE, Nat.lt_irrefl]
def upE (names : List (List UInt8)) (f : F) (d : Int) : Int := if vocOk names = false then 1 else if dOk d = false then 4 else modelsE names f
theorem upE_ok {names : List (List UInt8)} {f : F} {d : Int} (h : upE names f d = 0) : vocOk names = true ∧ dOk d = true := by
 unfold upE at h
 cases hv : vocOk names with
 | false => rw [if_pos hv] at h; cases h
 | true =>
  cases hd : dOk d with
  | false => rw [if_neg (by rw [hv]; simp), if_pos hd] at h; cases h
  | true => exact ⟨rfl, rfl⟩
theorem umodels_run (names : List (List UInt8)) (hl : names.length < 1000000000) (f : F) (hf : f.size < 1000000000) (d : Int) :
 ∃ S, run tb 31 [strsD names, .int .i64 f.op, .str f.name, .sl (F.encs f.args), .int .i64 d] = some [bvD S, .int .i64 (upE names f d)] ∧ (upE names f d = 0 → S = modelsS names f) := by
 have h1 := valid_run names hl
 have h2 := measure_run d
 have h3 := modelsW_run names f hl hf
 simp only [rowF] at h3
 unfold upE
 cases hv : vocOk names with
 | false =>
  rw [hv] at h1
  refine ⟨0#64, run_ir (x := ir31) rfl ?_, by simp⟩
  simp (disch := omega) only [ir31, stepQ, stepL, eq_self, aBin, reduceIte, Int.reduceEq, Int.reduceLT, Int.reduceLE, Int.reduceGT, Int.reduceGE, bvQ, wu, shl_norm, shr_norm, and1_norm, h1]
 | true =>
  rw [hv] at h1
  cases hd : dOk d with
  | false =>
   rw [hd] at h2
   refine ⟨0#64, run_ir (x := ir31) rfl ?_, by simp⟩
   simp (disch := omega) only [ir31, stepQ, stepL, eq_self, aBin, reduceIte, Int.reduceEq, Int.reduceLT, Int.reduceLE, Int.reduceGT, Int.reduceGE, bvQ, wu, shl_norm, shr_norm, and1_norm, h1, h2, Bool.true_eq_false]
  | true =>
   rw [hd] at h2
   refine ⟨modelsS names f, run_ir (x := ir31) rfl ?_, fun _ => rfl⟩
   simp (disch := omega) only [ir31, stepQ, stepL, eq_self, aBin, reduceIte, Int.reduceEq, Int.reduceLT, Int.reduceLE, Int.reduceGT, Int.reduceGE, bvQ, wu, shl_norm, shr_norm, and1_norm, h1, h2, h3, Bool.true_eq_false]
def updA (names : List (List UInt8)) (K : BitVec 64) (f : F) (d : Int) : BitVec 64 := if upE names f d = 0 then unionS (2 ^ names.length) K (modelsS names f) d else 0#64
def eraA (names : List (List UInt8)) (K : BitVec 64) (f : F) (d : Int) : BitVec 64 := if upE names f d = 0 then K &&& allS names ||| unionS (2 ^ names.length) K (allS names &&& ~~~modelsS names f) d else 0#64
theorem update_run (names : List (List UInt8)) (hl : names.length < 1000000000) (K : BitVec 64) (f : F) (hf : f.size < 1000000000) (d : Int) :
 run tb 13 [strsD names, bvD K, .int .i64 f.op, .str f.name, .sl (F.encs f.args), .int .i64 d] = some [bvD (updA names K f d), .int .i64 (upE names f d)] := by
 obtain ⟨S, h1, hS⟩ := umodels_run names hl f hf d
 refine run_ir (x := ir13) rfl ?_
 unfold updA
 by_cases c : upE names f d = 0
 · obtain ⟨hv, hd⟩ := upE_ok c
   rw [hS c] at h1
   have h2 := spread_run names hv K (modelsS names f) d hd
   rw [if_pos c]
   simp (disch := omega) only [ir13, stepQ, stepL, eq_self, aBin, reduceIte, Int.reduceEq, Int.reduceLT, Int.reduceLE, Int.reduceGT, Int.reduceGE, bvQ, wu, shl_norm, shr_norm, and1_norm, h1, c, ibne, h2]
 · rw [if_neg c]
   simp (disch := omega) only [ir13, stepQ, stepL, eq_self, aBin, reduceIte, Int.reduceEq, Int.reduceLT, Int.reduceLE, Int.reduceGT, Int.reduceGE, bvQ, wu, shl_norm, shr_norm, and1_norm, h1, c, ibne]
theorem erase_run (names : List (List UInt8)) (hl : names.length < 1000000000) (K : BitVec 64) (f : F) (hf : f.size < 1000000000) (d : Int) :
 run tb 15 [strsD names, bvD K, .int .i64 f.op, .str f.name, .sl (F.encs f.args), .int .i64 d] = some [bvD (eraA names K f d), .int .i64 (upE names f d)] := by
 obtain ⟨S, h1, hS⟩ := umodels_run names hl f hf d
 refine run_ir (x := ir15) rfl ?_
 unfold eraA
 by_cases c : upE names f d = 0
 · obtain ⟨hv, hd⟩ := upE_ok c
   rw [hS c] at h1
   have h3 := all_run names hl
   have h2 := spread_run names hv K (allS names &&& ~~~modelsS names f) d hd
   rw [if_pos c]
   simp (disch := omega) only [ir15, stepQ, stepL, eq_self, aBin, reduceIte, Int.reduceEq, Int.reduceLT, Int.reduceLE, Int.reduceGT, Int.reduceGE, bvQ, wu, shl_norm, shr_norm, and1_norm, h1, c, ibne, h2, h3]
 · rw [if_neg c]
   simp (disch := omega) only [ir15, stepQ, stepL, eq_self, aBin, reduceIte, Int.reduceEq, Int.reduceLT, Int.reduceLE, Int.reduceGT, Int.reduceGE, bvQ, wu, shl_norm, shr_norm, and1_norm, h1, c, ibne]
end Go.Proofs.YtefkehflmlikmaaGreatDoor

namespace Go.Proofs.YtefkehflmlikmaaGreatDoor
open Go Am
set_option maxRecDepth 100000
set_option linter.unusedSimpArgs false
set_option linter.unusedVariables false
theorem theory34_run (n : Nat) (hn : n ≤ 6) (S : BitVec 64) : run tb 20 [.int .i64 n, bvD S] = some [.int .i64 (thy (vocN n) (S &&& allS (vocN n))).op, .str (thy (vocN n) (S &&& allS (vocN n))).name, .sl (F.encs (thy (vocN n) (S &&& allS (vocN n))).args)] := by
 refine run_ir (x := ir20) rfl ?_
 have hv := vocN_ok hn
 have hvo := voc_run n (by omega)
 have h1 := all3_run (vocN n) (by rw [vocN_len]; omega) (fun s hs => by rw [vocN_short s hs]; omega)
 have h2 := theoryT_run (vocN n) hv (S &&& allS (vocN n))
 simp only [rowF, List.cons_append, List.nil_append] at h2
 simp (disch := omega) only [ir20, stepQ, stepL, eq_self, aBin, reduceIte, Int.reduceEq, Int.reduceLT, Int.reduceLE, Int.reduceGT, Int.reduceGE, bvQ, wu, shl_norm, shr_norm, and1_norm, hvo, h1, h2, callQ_S]
theorem theoryU_run {n : Nat} (hn : n ≤ 6) {X : BitVec 64} (hX : ∀ w, has X w → w < 2 ^ n) : run tb 20 [.int .i64 n, bvD X] = some [.int .i64 (thy (vocN n) X).op, .str (thy (vocN n) X).name, .sl (F.encs (thy (vocN n) X).args)] := by
 have := theory34_run n hn X
 rw [and_all hn hX] at this
 exact this
theorem updateT_run {n : Nat} (hn : n ≤ 6) (K : BitVec 64) {X : BitVec 64} (hX : ∀ w, has X w → w < 2 ^ n) (d : Int) (hd : dOk d = true) :
 run tb 13 [strsD (vocN n), bvD K, .int .i64 (thy (vocN n) X).op, .str (thy (vocN n) X).name, .sl (F.encs (thy (vocN n) X).args), .int .i64 d] = some [bvD (unionS (2 ^ n) K X d), .int .i64 0] := by
 have h1 := update_run (vocN n) (by rw [vocN_len]; omega) K (thy (vocN n) X) (thy_small hn X).1 d
 have hm := thy_models (vocN_ok hn) X
 rw [and_all hn hX] at hm
 have e : upE (vocN n) (thy (vocN n) X) d = 0 := by unfold upE; rw [if_neg (by simp [vocN_ok hn]), if_neg (by simp [hd]), hm.1]
 unfold updA at h1
 rw [e, if_pos rfl, hm.2, vocN_len] at h1
 exact h1
theorem small_has {X : BitVec 64} {n : Nat} (h : ∀ w, w < 64 → n ≤ w → ¬ has X w) : ∀ w, has X w → w < n := fun w hw =>
 Decidable.byContradiction fun hc => h w (has_lt hw) (by omega) hw
theorem awake34_run : run tb 2 [] = some [.bool true] := by
 refine run_ir (x := ir2) rfl ?_
 have hv2 : run tb 8 [.int .i64 2] = some [strsD (vocN 2)] := voc_run 2 (by omega)
 have hv3 : run tb 8 [.int .i64 3] = some [strsD (vocN 3)] := voc_run 3 (by omega)
 have x10 : ∀ w, has (10#64) w → w < 2 ^ 2 := small_has (by decide +kernel)
 have x66 : ∀ w, has (66#64) w → w < 2 ^ 3 := small_has (by decide +kernel)
 have t1 : run tb 20 [.int .i64 2, bvD 10#64] = _ := theoryU_run (n := 2) (by omega) x10
 have t2 : run tb 20 [.int .i64 3, bvD 66#64] = _ := theoryU_run (n := 3) (by omega) x66
 have u1 := updateT_run (n := 2) (by omega) 9#64 x10 1 rfl
 have u2 := updateT_run (n := 3) (by omega) 1#64 x66 1 rfl
 have u3 := updateT_run (n := 3) (by omega) 1#64 x66 2 rfl
 rw [show unionS (2 ^ 2) 9#64 10#64 1 = 10#64 by decide +kernel] at u1
 rw [show unionS (2 ^ 3) 1#64 66#64 1 = 2#64 by decide +kernel] at u2
 rw [show unionS (2 ^ 3) 1#64 66#64 2 = 66#64 by decide +kernel] at u3
 have l10 : D.int .u64 10 = bvD 10#64 := rfl
 have l9 : D.int .u64 9 = bvD 9#64 := rfl
 have l66 : D.int .u64 66 = bvD 66#64 := rfl
 have l2 : D.int .u64 2 = bvD 2#64 := rfl
 simp (disch := omega) only [ir2, stepQ, stepL, eq_self, aBin, reduceIte, Int.reduceEq, Int.reduceLT, Int.reduceLE, Int.reduceGT, Int.reduceGE, bvQ, wu, shl_norm, shr_norm, and1_norm, l10, l9, l66, l2, hv2, hv3, callQ_S, t1, t2, u1, u2, u3]
end Go.Proofs.YtefkehflmlikmaaGreatDoor

namespace Go.Proofs.YtefkehflmlikmaaGreatDoor
open Go Am
set_option maxRecDepth 100000
set_option linter.unusedSimpArgs false
set_option linter.unusedVariables false
theorem distR_run (v w : Int) : run tb 6 [.int .i64 v, .int .i64 w] = some [.int .i64 (ones (dif v w) 64)] := by
 refine run_ir (x := ir6) rfl ?_
 rw [show ones (dif v w) 64 = ones (dif v w) 6 from ones_6 _ (dif_6 v w) 58]
 simp (disch := omega) only [ir6, stepQ, stepL, eq_self, aBin, reduceIte, Int.reduceEq, Int.reduceLT, Int.reduceLE, Int.reduceGT, Int.reduceGE]
 refine loop_k (σ := Unit) 6 (fun _ _ => True) (fun i _ => [.int .i64 (ones (dif v w) i), .int .i64 i]) (fun _ _ => [.int .i64 (ones (dif v w) 6)]) ?_ ?_ 0 () (Nat.zero_le _) trivial
 · rintro i _ L hi _ hL
   have hnext := hL () trivial
   have hi' : (i : Int) < 6 := by omega
   have hle : ones (dif v w) i ≤ 64 := by
    have : ∀ k, ones (dif v w) k ≤ k := fun k => by
     induction k with
     | zero => exact Nat.le_refl _
     | succ k ih =>
      have : ((dif v w).getLsbD k).toNat ≤ 1 := by cases (dif v w).getLsbD k <;> simp
      simp only [ones]; omega
    have := this i; omega
   rw [show ones (dif v w) (i + 1) = ones (dif v w) i + ((dif v w).getLsbD i).toNat from rfl, dif_get, decide_eq_true hi, Bool.true_and] at hnext
   have hwu : IntKind.u64.wrap (i : Int) = (i : Int) := wrapU (by omega) (by omega)
   have e1 := bitI v i (by omega)
   have e2 := bitI w i (by omega)
   cases hx : (BitVec.ofInt 64 v).getLsbD i <;> cases hy : (BitVec.ofInt 64 w).getLsbD i <;>
   · rw [hx, hy] at hnext
     rw [hx] at e1
     rw [hy] at e2
     simp only [Bool.xor_false, Bool.xor_true, Bool.not_true, Bool.not_false, Bool.toNat_true, Bool.toNat_false, Nat.add_zero, Bool.false_eq_true, if_true, if_false, Bool.xor_self] at hnext e1 e2
     simp (disch := omega) only [ir6p1, ir6p0, stepQ, stepL, eq_self, aBin, reduceIte, Int.reduceEq, Int.reduceLT, Int.reduceLE, Int.reduceGT, Int.reduceGE, hwu, nat_nn, hi', e1, e2, ibne, wr, natS, hnext]
 · rintro _ L _
   simp (disch := omega) only [ir6p1, stepQ, stepL, eq_self, aBin, reduceIte, Int.reduceEq, Int.reduceLT, Int.reduceLE, Int.reduceGT, Int.reduceGE]
theorem int_andNot {tb : Bool} (a b : Int) : PO.eval (.bin .andNot tb) [.int .i64 a, .int .i64 b] = some [.int .i64 (IntKind.i64.wrap ((BitVec.ofInt IntKind.i64.bits a &&& ~~~ BitVec.ofInt IntKind.i64.bits b).toNat : Int))] := rfl
theorem nearerR_run {v w u : Nat} (hv : v < 64) (hw : w < 64) (hu : u < 64) (d : Int) (hd : dOk d = true) :
 run tb 45 [.int .i64 v, .int .i64 w, .int .i64 u, .int .i64 d] = some [.bool (nearP d (dif v w) (dif v u))] := by
 refine run_ir (x := ir45) rfl ?_
 unfold dOk at hd
 simp only [Bool.and_eq_true, decide_eq_true_eq] at hd
 rcases (by omega : d = 1 ∨ d = 2 ∨ d = 3) with rfl | rfl | rfl
 · have h1 := distR_run v w
   have h2 := distR_run v u
   have e : nearP 1 (dif v w) (dif v u) = decide ((ones (dif v w) 64 : Int) < (ones (dif v u) 64 : Int)) := by simp [nearP]
   rw [e]
   simp (disch := omega) only [ir45, stepQ, stepL, eq_self, aBin, reduceIte, Int.reduceEq, Int.reduceLT, Int.reduceLE, Int.reduceGT, Int.reduceGE, h1, h2]
 · have hx : v ^^^ w < 64 := Nat.xor_lt_two_pow (n := 6) (by omega) (by omega)
   have hy : v ^^^ u < 64 := Nat.xor_lt_two_pow (n := 6) (by omega) (by omega)
   have e : nearP 2 (dif v w) (dif v u) = (decide (dif v w &&& ~~~dif v u = 0#64) && !decide (dif v w = dif v u)) := rfl
   have f1 : (dif v w = dif v u) ↔ ((v ^^^ w : Nat) : Int) = ((v ^^^ u : Nat) : Int) := by
    rw [dif_nat hv hw, dif_nat hv hu]
    constructor
    · intro h
      have := congrArg BitVec.toNat h
      rw [BitVec.toNat_ofNat, BitVec.toNat_ofNat, Nat.mod_eq_of_lt (by omega), Nat.mod_eq_of_lt (by omega)] at this
      rw [this]
    · intro h
      have : v ^^^ w = v ^^^ u := by omega
      rw [this]
   have f2 : IntKind.i64.wrap ((BitVec.ofInt 64 ((v ^^^ w : Nat) : Int) &&& ~~~ BitVec.ofInt 64 ((v ^^^ u : Nat) : Int)).toNat : Int) = 0 ↔ dif v w &&& ~~~dif v u = 0#64 := by
    rw [ofIntN, ofIntN, ← dif_nat hv hw, ← dif_nat hv hu]
    have hl : (dif v w &&& ~~~dif v u).toNat < 64 := by
     have h6 : (dif v w).toNat < 2 ^ 6 := by rw [dif_nat hv hw, BitVec.toNat_ofNat, Nat.mod_eq_of_lt (by omega)]; omega
     rw [BitVec.toNat_and]
     exact Nat.lt_of_le_of_lt Nat.and_le_left h6
    rw [wr (by omega) (by omega)]
    constructor
    · intro h; exact BitVec.eq_of_toNat_eq (by simp only [BitVec.toNat_ofNat]; omega)
    · intro h; rw [h]; rfl
   rw [e]
   have ix := int_xor (tb := false) (a := v) (b := w) (by omega) (by omega)
   have iy := int_xor (tb := false) (a := v) (b := u) (by omega) (by omega)
   have ia := int_andNot (tb := false) ((v ^^^ w : Nat) : Int) ((v ^^^ u : Nat) : Int)
   have f2' : (PO.eval (.bin .andNot false) [.int .i64 ((v ^^^ w : Nat) : Int), .int .i64 ((v ^^^ u : Nat) : Int)] = some [.int .i64 (IntKind.i64.wrap ((BitVec.ofInt 64 ((v ^^^ w : Nat) : Int) &&& ~~~ BitVec.ofInt 64 ((v ^^^ u : Nat) : Int)).toNat : Int))]) := ia
   clear ia
   generalize IntKind.i64.wrap ((BitVec.ofInt 64 ((v ^^^ w : Nat) : Int) &&& ~~~ BitVec.ofInt 64 ((v ^^^ u : Nat) : Int)).toNat : Int) = Z at *
   have f3 : decide (dif v w &&& ~~~dif v u = 0#64) = decide (Z = 0) := decide_eq_decide.2 f2.symm
   have f4 : decide (dif v w = dif v u) = decide (((v ^^^ w : Nat) : Int) = ((v ^^^ u : Nat) : Int)) := decide_eq_decide.2 f1
   rw [f3, f4]
   generalize v ^^^ w = X at *
   generalize v ^^^ u = Y at *
   have s1 : ∀ (d : Int), d = 2 → True := fun _ _ => trivial
   have r1 : den (run tb) ir45 [.int .i64 v, .int .i64 w, .int .i64 u, .int .i64 2] [] = some [.bool (decide (Z = 0) && !decide ((X : Int) = (Y : Int)))] := by
    by_cases c : (X : Int) = (Y : Int)
    · have c' : ((X : Int) != (Y : Int)) = false := by rw [ibne, decide_eq_true c]; rfl
      rw [decide_eq_true c]
      simp only [ir45, k_op, k_ite, k_ret, opQ_s, iteQ_t, iteQ_f, val_c, val_v, getD_0, getD_s, List.map_cons, List.map_nil, List.cons_append, List.nil_append, ix, iy, f2', ev_binI, aBin, one1_s, reduceIte, Int.reduceEq, Int.reduceBEq, c', Bool.not_true, Bool.and_false]
    · have c' : ((X : Int) != (Y : Int)) = true := by rw [ibne, decide_eq_false c]; rfl
      rw [decide_eq_false c]
      have zb : (Z == 0) = decide (Z = 0) := by by_cases h : Z = 0 <;> simp [h]
      simp only [ir45, k_op, k_ite, k_ret, opQ_s, iteQ_t, iteQ_f, val_c, val_v, getD_0, getD_s, List.map_cons, List.map_nil, List.cons_append, List.nil_append, ix, iy, f2', ev_binI, aBin, one1_s, reduceIte, Int.reduceEq, Int.reduceBEq, c', zb, Bool.not_false, Bool.and_true]
   exact r1
 · have e : nearP 3 (dif v w) (dif v u) = (decide (dif v w = 0#64) && !decide (dif v u = 0#64)) := rfl
   have f1 : decide (dif v w = 0#64) = decide ((w : Int) = (v : Int)) := decide_eq_decide.2 (by rw [dif_zero hv hw]; omega)
   have f2 : decide (dif v u = 0#64) = decide ((u : Int) = (v : Int)) := decide_eq_decide.2 (by rw [dif_zero hv hu]; omega)
   rw [e, f1, f2]
   by_cases c : (w : Int) = (v : Int)
   · have hwv : w = v := by omega
     subst hwv
     simp (disch := omega) only [ir45, stepQ, stepL, eq_self, aBin, reduceIte, Int.reduceEq, Int.reduceLT, Int.reduceLE, Int.reduceGT, Int.reduceGE, ibne, decide_true, Bool.true_and]
   · simp (disch := omega) only [ir45, stepQ, stepL, eq_self, aBin, reduceIte, Int.reduceEq, Int.reduceLT, Int.reduceLE, Int.reduceGT, Int.reduceGE, ibne, c, decide_false, Bool.false_and]
theorem hasR_run (x : BitVec 64) (w : Nat) (h : w < 9223372036854775808) : run tb 44 [bvD x, .int .i64 w] = some [.bool (x.getLsbD w)] := by
 refine run_ir (x := ir44) rfl ?_
 simp (disch := omega) only [ir44, stepQ, stepL, eq_self, aBin, reduceIte, Int.reduceEq, Int.reduceLT, Int.reduceLE, Int.reduceGT, Int.reduceGE, bvQ, wu, shl_norm, shr_norm, and1_norm]
theorem kind34_run (d : Int) : run tb 29 [.int .i64 d] = some [.bool (dOk d)] := by
 refine run_ir (x := ir29) rfl ?_
 unfold dOk
 have e : decide (1 ≤ d) = decide (d ≥ 1) := rfl
 rw [e]
 by_cases h : d ≥ 1
 · simp (disch := omega) only [ir29, stepQ, stepL, eq_self, aBin, reduceIte, Int.reduceEq, Int.reduceLT, Int.reduceLE, Int.reduceGT, Int.reduceGE, h, decide_true, Bool.true_and]
 · simp (disch := omega) only [ir29, stepQ, stepL, eq_self, aBin, reduceIte, Int.reduceEq, Int.reduceLT, Int.reduceLE, Int.reduceGT, Int.reduceGE, h, decide_false, Bool.false_and]
theorem nearestQ_run {n : Nat} (hn : n ≤ 64) {v : Nat} (hv : v < 64) (X : BitVec 64) (d : Int) (hd : dOk d = true) :
 run tb 30 [.int .i64 n, .int .i64 v, bvD X, .int .i64 d] = some [bvD (nearS n v X d)] := by
 refine run_ir (x := ir30) rfl ?_
 obtain ⟨q, hq⟩ : ∃ q : Nat → Bool, q = fun w => X.getLsbD w && (List.range n).all (fun u => !(X.getLsbD u && nearP d (dif v u) (dif v w))) := ⟨_, rfl⟩
 have hN : nearS n v X d = bitsTo q n := by rw [hq]; rfl
 rw [hN]
 simp (disch := omega) only [ir30, stepQ, stepL, eq_self, aBin, reduceIte, Int.reduceEq, Int.reduceLT, Int.reduceLE, Int.reduceGT, Int.reduceGE, bvQ, wu, shl_norm, shr_norm, and1_norm]
 rw [show (0#64 : BitVec 64) = bitsTo q 0 from rfl]
 refine loop_k (σ := Unit) n (fun _ _ => True) (fun w _ => [bvD (bitsTo q w), .int .i64 w]) (fun _ _ => [bvD (bitsTo q n)]) ?_ ?_ 0 () (Nat.zero_le _) trivial
 · rintro w _ L hw _ hL
   have hnext := hL () trivial
   have hqw : q w = (X.getLsbD w && (List.range n).all (fun u => !(X.getLsbD u && nearP d (dif v u) (dif v w)))) := by rw [hq]
   rw [bitsTo] at hnext
   clear hN hq
   have hh := hasR_run X w (by omega)
   simp (disch := omega) only [ir30p4, stepQ, stepL, eq_self, aBin, reduceIte, Int.reduceEq, Int.reduceLT, Int.reduceLE, Int.reduceGT, Int.reduceGE, hw, hh]
   refine loop_k (σ := Bool) n (fun i b => b = (X.getLsbD w && (List.range i).all (fun u => !(X.getLsbD u && nearP d (dif v u) (dif v w))))) (fun i b => [.bool b, .int .i64 i]) (fun _ _ => [bvD (bitsTo q n)]) ?_ ?_ 0 (X.getLsbD w) (Nat.zero_le _) (by simp)
   · rintro u b M hu hb hM
     cases b with
     | false =>
      have hqf : q w = false := by
       rw [hqw]
       cases hx : X.getLsbD w with
       | false => rfl
       | true =>
        rw [hx, Bool.true_and] at hb
        rw [Bool.true_and]
        obtain ⟨k, h1, h2⟩ := List.all_eq_false.1 hb.symm
        exact List.all_eq_false.2 ⟨k, List.mem_range.2 (by have := List.mem_range.1 h1; omega), h2⟩
      rw [hqf] at hnext
      simp only [Bool.false_eq_true, if_false] at hnext
      simp (disch := omega) only [ir30p3, ir30p2, ir30p0, stepQ, stepL, eq_self, aBin, reduceIte, Int.reduceEq, Int.reduceLT, Int.reduceLE, Int.reduceGT, Int.reduceGE, hu, wr, natS, hnext]
     | true =>
      have hu1 := hasR_run X u (by omega)
      have hn1 := nearerR_run hv (show u < 64 by omega) (show w < 64 by omega) d hd
      have hs : ∀ c, c = (!(X.getLsbD u && nearP d (dif v u) (dif v w))) → c = (X.getLsbD w && (List.range (u + 1)).all (fun u => !(X.getLsbD u && nearP d (dif v u) (dif v w)))) := fun c hc => by
       rw [List.range_succ, List.all_append, ← Bool.and_assoc, ← hb, hc]
       simp
      cases hx : X.getLsbD u with
      | false =>
       rw [hx] at hu1
       have hnx := hM true (hs true (by rw [hx]; rfl))
       simp (disch := omega) only [ir30p3, ir30p2, ir30p1, stepQ, stepL, eq_self, aBin, reduceIte, Int.reduceEq, Int.reduceLT, Int.reduceLE, Int.reduceGT, Int.reduceGE, hu, hu1, wr, natS, hnx]
      | true =>
       rw [hx] at hu1
       cases hp : nearP d (dif v u) (dif v w) with
       | false =>
        rw [hp] at hn1
        have hnx := hM true (hs true (by rw [hx, hp]; rfl))
        simp (disch := omega) only [ir30p3, ir30p2, ir30p1, stepQ, stepL, eq_self, aBin, reduceIte, Int.reduceEq, Int.reduceLT, Int.reduceLE, Int.reduceGT, Int.reduceGE, hu, hu1, hn1, wr, natS, hnx]
       | true =>
        rw [hp] at hn1
        have hnx := hM false (hs false (by rw [hx, hp]; rfl))
        simp (disch := omega) only [ir30p3, ir30p2, ir30p1, stepQ, stepL, eq_self, aBin, reduceIte, Int.reduceEq, Int.reduceLT, Int.reduceLE, Int.reduceGT, Int.reduceGE, hu, hu1, hn1, wr, natS, hnx]
   · rintro b M hb
     rw [← hqw] at hb
     subst hb
     cases hb2 : q w with
     | false =>
      rw [hb2] at hnext
      simp only [Bool.false_eq_true, if_false] at hnext
      simp (disch := omega) only [ir30p3, ir30p2, ir30p0, stepQ, stepL, eq_self, aBin, reduceIte, Int.reduceEq, Int.reduceLT, Int.reduceLE, Int.reduceGT, Int.reduceGE, Nat.lt_irrefl, wr, natS, hnext]
     | true =>
      rw [hb2] at hnext
      simp only [if_true] at hnext
      simp (disch := omega) only [ir30p3, ir30p2, ir30p0, stepQ, stepL, eq_self, aBin, reduceIte, Int.reduceEq, Int.reduceLT, Int.reduceLE, Int.reduceGT, Int.reduceGE, bvQ, wu, shl_norm, shr_norm, and1_norm, bv_convN, Nat.lt_irrefl, wr, natS, hnext]
 · rintro _ L _
   simp (disch := omega) only [ir30p4, stepQ, stepL, eq_self, aBin, reduceIte, Int.reduceEq, Int.reduceLT, Int.reduceLE, Int.reduceGT, Int.reduceGE, Nat.lt_irrefl]
end Go.Proofs.YtefkehflmlikmaaGreatDoor

namespace Go.Proofs.YtefkehflmlikmaaGreatDoor
open Go Am
set_option maxRecDepth 100000
set_option linter.unusedSimpArgs false
set_option linter.unusedVariables false
section
variable (names : List (List UInt8)) (hl : names.length < 60) (hs : ∀ s ∈ names, s.length < 9223372036854775808)
include hl hs
theorem nearestAR_run (v : Int) (X : BitVec 64) (d : Int) :
 run tb 11 [strsD names, .int .i64 v, bvD X, .int .i64 d] = some [bvD (nearA names v X d), .int .i64 (nearE names v d)] := by
 refine run_ir (x := ir11) rfl ?_
 have h1 := valid3_run names (by omega) hs
 have h2 := kind34_run d
 have hwl : IntKind.u64.wrap (names.length : Int) = (names.length : Int) := wrapU (by omega) (by omega)
 unfold nearA
 cases hv : vocOk names with
 | false =>
  rw [hv] at h1
  have e : nearE names v d = 1 := by unfold nearE; rw [if_pos (.inl hv)]
  rw [e, if_neg (by decide)]
  simp (disch := omega) only [ir11, ir11p0, stepQ, stepL, eq_self, aBin, reduceIte, Int.reduceEq, Int.reduceLT, Int.reduceLE, Int.reduceGT, Int.reduceGE, bvQ, wu, shl_norm, shr_norm, and1_norm, h1]
 | true =>
  rw [hv] at h1
  by_cases c1 : v < 0
  · have e : nearE names v d = 1 := by unfold nearE; rw [if_pos (.inr (.inl c1))]
    rw [e, if_neg (by decide)]
    simp (disch := omega) only [ir11, ir11p0, stepQ, stepL, eq_self, aBin, reduceIte, Int.reduceEq, Int.reduceLT, Int.reduceLE, Int.reduceGT, Int.reduceGE, bvQ, wu, shl_norm, shr_norm, and1_norm, h1, c1]
  by_cases c2 : v ≥ ((2 ^ names.length : Nat) : Int)
  · have e : nearE names v d = 1 := by unfold nearE; rw [if_pos (.inr (.inr c2))]
    rw [e, if_neg (by decide)]
    simp (disch := omega) only [ir11, ir11p0, stepQ, stepL, eq_self, aBin, reduceIte, Int.reduceEq, Int.reduceLT, Int.reduceLE, Int.reduceGT, Int.reduceGE, shl_norm, nat_nn, hwl, lit0_bv, h1, c1, len_S, c2]
  have hno : ¬ (vocOk names = false ∨ v < 0 ∨ ((2 ^ names.length : Nat) : Int) ≤ v) := by
   rintro (h | h | h)
   · rw [hv] at h; cases h
   · exact c1 h
   · exact c2 h
  cases hd : dOk d with
  | false =>
   rw [hd] at h2
   have e : nearE names v d = 4 := by unfold nearE; rw [if_neg hno, if_pos hd]
   rw [e, if_neg (by decide)]
   simp (disch := omega) only [ir11, ir11p0, stepQ, stepL, eq_self, aBin, reduceIte, Int.reduceEq, Int.reduceLT, Int.reduceLE, Int.reduceGT, Int.reduceGE, shl_norm, nat_nn, hwl, lit0_bv, h1, c1, len_S, c2, h2]
  | true =>
   rw [hd] at h2
   have e : nearE names v d = 0 := by unfold nearE; rw [if_neg hno, if_neg (by rw [hd]; simp)]
   have h6 := pow6 (vocOk_len hv)
   obtain ⟨v, rfl⟩ := Int.eq_ofNat_of_zero_le (show 0 ≤ v by omega)
   have h3 := nearestQ_run h6 (v := v) (by omega) X d hd
   rw [e, if_pos rfl]
   simp (disch := omega) only [ir11, ir11p0, stepQ, stepL, eq_self, aBin, reduceIte, Int.reduceEq, Int.reduceLT, Int.reduceLE, Int.reduceGT, Int.reduceGE, shl_norm, nat_nn, hwl, h1, c1, len_S, c2, h2, h3]
theorem unionR_run (hv : vocOk names = true) (K X : BitVec 64) (d : Int) (hd : dOk d = true) :
 run tb 34 [strsD names, bvD K, bvD X, .int .i64 d] = some [bvD (unionS (2 ^ names.length) K X d)] := by
 refine run_ir (x := ir34) rfl ?_
 have h6 := pow6 (vocOk_len hv)
 have hwl : IntKind.u64.wrap (names.length : Int) = (names.length : Int) := wrapU (by omega) (by omega)
 have hU : unionS (2 ^ names.length) K X d = unionT (2 ^ names.length) K X d (2 ^ names.length) := rfl
 rw [hU]
 simp (disch := omega) only [ir34, stepQ, stepL, eq_self, aBin, reduceIte, Int.reduceEq, Int.reduceLT, Int.reduceLE, Int.reduceGT, Int.reduceGE, shl_norm, nat_nn, hwl, len_S, lit0_bv]
 generalize 2 ^ names.length = n at *
 rw [← unionT_0 h6 K X d]
 refine loop_k (σ := Unit) n (fun _ _ => True) (fun i _ => [bvD (unionT n K X d i), .int .i64 i]) (fun _ _ => [bvD (unionT n K X d n)]) ?_ ?_ 0 () (Nat.zero_le _) trivial
 · rintro i _ L hi _ hL
   have hnext := hL () trivial
   rw [unionT_s h6] at hnext
   have h1 := hasR_run K i (by omega)
   have h2 := nearestQ_run h6 (v := i) (by omega) X d hd
   cases hk : K.getLsbD i with
   | false =>
    rw [hk] at h1 hnext
    simp only [Bool.false_eq_true, if_false] at hnext
    simp (disch := omega) only [ir34p1, ir34p0, stepQ, stepL, eq_self, aBin, reduceIte, Int.reduceEq, Int.reduceLT, Int.reduceLE, Int.reduceGT, Int.reduceGE, hi, h1, wr, natS, hnext]
   | true =>
    rw [hk] at h1 hnext
    simp only [if_true] at hnext
    simp (disch := omega) only [ir34p1, ir34p0, stepQ, stepL, eq_self, aBin, reduceIte, Int.reduceEq, Int.reduceLT, Int.reduceLE, Int.reduceGT, Int.reduceGE, bvQ, wu, shl_norm, shr_norm, and1_norm, hi, h1, h2, wr, natS, hnext]
 · rintro _ L _
   simp (disch := omega) only [ir34p1, stepQ, stepL, eq_self, aBin, reduceIte, Int.reduceEq, Int.reduceLT, Int.reduceLE, Int.reduceGT, Int.reduceGE, Nat.lt_irrefl]
theorem umodelsR_run (f : F) (hf : f.size < 1000000000) (hb : F.allF nameB f = true) (d : Int) :
 ∃ S, run tb 33 [strsD names, .int .i64 f.op, .str f.name, .sl (F.encs f.args), .int .i64 d] = some [bvD S, .int .i64 (upE names f d)] ∧ (upE names f d = 0 → S = modelsS names f) := by
 have h1 := valid3_run names (by omega) hs
 have h2 := kind34_run d
 have h3 := modelsR_run names f (by omega) hs hf hb
 simp only [rowF] at h3
 unfold upE
 cases hv : vocOk names with
 | false =>
  rw [hv] at h1
  refine ⟨0#64, run_ir (x := ir33) rfl ?_, by simp⟩
  simp (disch := omega) only [ir33, stepQ, stepL, eq_self, aBin, reduceIte, Int.reduceEq, Int.reduceLT, Int.reduceLE, Int.reduceGT, Int.reduceGE, bvQ, wu, shl_norm, shr_norm, and1_norm, h1]
 | true =>
  rw [hv] at h1
  cases hd : dOk d with
  | false =>
   rw [hd] at h2
   refine ⟨0#64, run_ir (x := ir33) rfl ?_, by simp⟩
   simp (disch := omega) only [ir33, stepQ, stepL, eq_self, aBin, reduceIte, Int.reduceEq, Int.reduceLT, Int.reduceLE, Int.reduceGT, Int.reduceGE, bvQ, wu, shl_norm, shr_norm, and1_norm, h1, h2, Bool.true_eq_false]
  | true =>
   rw [hd] at h2
   refine ⟨modelsS names f, run_ir (x := ir33) rfl ?_, fun _ => rfl⟩
   simp (disch := omega) only [ir33, stepQ, stepL, eq_self, aBin, reduceIte, Int.reduceEq, Int.reduceLT, Int.reduceLE, Int.reduceGT, Int.reduceGE, bvQ, wu, shl_norm, shr_norm, and1_norm, h1, h2, h3, Bool.true_eq_false]
theorem updateR_run (K : BitVec 64) (f : F) (hf : f.size < 1000000000) (hb : F.allF nameB f = true) (d : Int) :
 run tb 14 [strsD names, bvD K, .int .i64 f.op, .str f.name, .sl (F.encs f.args), .int .i64 d] = some [bvD (updA names K f d), .int .i64 (upE names f d)] := by
 obtain ⟨S, h1, hS⟩ := umodelsR_run names hl hs f hf hb d
 refine run_ir (x := ir14) rfl ?_
 unfold updA
 by_cases c : upE names f d = 0
 · obtain ⟨hv, hd⟩ := upE_ok c
   rw [hS c] at h1
   have h2 := unionR_run names hl hs hv K (modelsS names f) d hd
   rw [if_pos c]
   simp (disch := omega) only [ir14, stepQ, stepL, eq_self, aBin, reduceIte, Int.reduceEq, Int.reduceLT, Int.reduceLE, Int.reduceGT, Int.reduceGE, bvQ, wu, shl_norm, shr_norm, and1_norm, h1, c, ibne, h2]
 · rw [if_neg c]
   simp (disch := omega) only [ir14, stepQ, stepL, eq_self, aBin, reduceIte, Int.reduceEq, Int.reduceLT, Int.reduceLE, Int.reduceGT, Int.reduceGE, bvQ, wu, shl_norm, shr_norm, and1_norm, h1, c, ibne]
theorem eraseR_run (K : BitVec 64) (f : F) (hf : f.size < 1000000000) (hb : F.allF nameB f = true) (d : Int) :
 run tb 16 [strsD names, bvD K, .int .i64 f.op, .str f.name, .sl (F.encs f.args), .int .i64 d] = some [bvD (eraA names K f d), .int .i64 (upE names f d)] := by
 obtain ⟨S, h1, hS⟩ := umodelsR_run names hl hs f hf hb d
 refine run_ir (x := ir16) rfl ?_
 unfold eraA
 by_cases c : upE names f d = 0
 · obtain ⟨hv, hd⟩ := upE_ok c
   rw [hS c] at h1
   have h3 := all3_run names (by omega) hs
   have h2 := unionR_run names hl hs hv K (allS names &&& ~~~modelsS names f) d hd
   rw [if_pos c]
   simp (disch := omega) only [ir16, stepQ, stepL, eq_self, aBin, reduceIte, Int.reduceEq, Int.reduceLT, Int.reduceLE, Int.reduceGT, Int.reduceGE, bvQ, wu, shl_norm, shr_norm, and1_norm, h1, c, ibne, h2, h3]
 · rw [if_neg c]
   simp (disch := omega) only [ir16, stepQ, stepL, eq_self, aBin, reduceIte, Int.reduceEq, Int.reduceLT, Int.reduceLE, Int.reduceGT, Int.reduceGE, bvQ, wu, shl_norm, shr_norm, and1_norm, h1, c, ibne]
end
def lsD (vs : List (List (List UInt8))) : D := .sl (vs.map fun v => [strsD v])
theorem get_LS {vs : List (List (List UInt8))} {i : Nat} (h : i < vs.length) : PO.eval (.get 0 1) [lsD vs, .int .i64 i] = some [strsD vs[i]] := by simp [PO.eval, lsD, h]
theorem chk_LS {vs : List (List (List UInt8))} {i : Nat} (h : i < vs.length) : PO.eval .chk [lsD vs, .int .i64 i] = some [] := ev_chk (by omega) (by simp; omega)
theorem len_LS (vs : List (List (List UInt8))) : PO.eval .lenL [lsD vs] = some [.int .i64 vs.length] := by simp [lsD, ev_lenL]
theorem uanswers_run (raw : List (List UInt8)) (l0 : List Int) (S0 : BitVec 64) (f : F) (v w d0 : Int) (hraw : ∀ s ∈ raw, s.length < 9223372036854775808) :
 run tb 0 [strsD raw, numsD l0, bvD S0, .int .i64 f.op, .str f.name, .sl (F.encs f.args), .int .i64 v, .int .i64 w, .int .i64 d0] = some [.bool true] := by
 have aw := awake34_run
 have sf := small_run f
 simp only [rowF] at sf
 refine run_ir (x := ir0) rfl ?_
 by_cases c1 : (raw.length : Int) > 10
 · simp (disch := omega) only [ir0, ir0p8, stepQ, stepL, eq_self, aBin, reduceIte, Int.reduceEq, Int.reduceLT, Int.reduceLE, Int.reduceGT, Int.reduceGE, len_S, c1, aw]
 cases c2 : smallF f with
 | false =>
  rw [c2] at sf
  simp (disch := omega) only [ir0, ir0p8, stepQ, stepL, eq_self, aBin, reduceIte, Int.reduceEq, Int.reduceLT, Int.reduceLE, Int.reduceGT, Int.reduceGE, len_S, c1, sf, aw]
 | true =>
 rw [c2] at sf
 have fF : f.size < 1000000000 ∧ F.allF nameB f = true := by
  unfold smallF at c2
  simp only [Bool.and_eq_true, decide_eq_true_eq] at c2
  exact ⟨by omega, allF_mono (fun g hg => by simp only [shortB, nameB, decide_eq_true_eq] at hg ⊢; omega) f c2.2.2⟩
 obtain ⟨l, hl, hn⟩ := new_run l0
 obtain ⟨r, p, r1, r2, hp, hr⟩ := range_run 0 3 l 0 hl (by omega) (by omega) (by omega) (by omega)
 obtain ⟨n, rfl⟩ := Int.eq_ofNat_of_zero_le (show 0 ≤ r by omega)
 have hr : run tb 4 [.int .i64 0, .int .i64 3, numsD l, .int .i64 0] = some [.int .i64 n, numsD l, .int .i64 p] := hr
 have hn6 : n ≤ 6 := by omega
 have hvo := voc_run n (by omega)
 have dP := distance_run v w
 have dR := distR_run v w
 obtain ⟨a, p1, a0, a1, hp1, ha⟩ := n_run 64 l p hl hp (by omega) (by omega)
 obtain ⟨b, p2, b0, b1, hp2, hb⟩ := n_run 64 l p1 hl hp1 (by omega) (by omega)
 have dAB := distance_run a b
 have hneg : ¬ ((ones (dif a b) 64 : Nat) : Int) < 0 := by omega
 obtain ⟨vs, hvs⟩ : ∃ vs : List (List (List UInt8)), vs = [raw, vocN n] := ⟨_, rfl⟩
 have hmk : PO.eval (.mk 1 2) [strsD raw, strsD (vocN n)] = some [lsD vs] := by subst hvs; rfl
 have hsh : ∀ x ∈ vs, x.length < 60 ∧ ∀ s ∈ x, s.length < 9223372036854775808 := by
  subst hvs
  intro x hx
  simp only [List.mem_cons, List.not_mem_nil, or_false] at hx
  rcases hx with rfl | rfl
  · exact ⟨by omega, hraw⟩
  · exact ⟨by rw [vocN_len]; omega, fun s hs => by rw [vocN_short s hs]; omega⟩
 have lvs : vs.length = 2 := by subst hvs; rfl
 clear hvs
 have hpm : 2 ^ n ≤ 64 := pow6 hn6
 have hpp := Nat.two_pow_pos n
 have hmax : (if (1 : Int) > (n : Int) then (1 : Int) else n) = ((max n 1 : Nat) : Int) := by split <;> omega
 have hwn : IntKind.u64.wrap (n : Int) = (n : Int) := wrapU (by omega) (by omega)
 simp (disch := omega) only [ir0, ir0p8, ir0p7, stepQ, stepL, eq_self, aBin, reduceIte, Int.reduceEq, Int.reduceLT, Int.reduceLE, Int.reduceGT, Int.reduceGE, len_S, c1, sf, hn, hr, dP, dR, ha, hb, dAB, hneg, ibne, hvo, callQ_S, hmk, len_LS]
 refine loop_k (σ := Nat) vs.length (fun _ q => q ≤ l.length) (fun i q => [.int .i64 i, numsD l, .int .i64 q]) (fun _ _ => [.bool true]) ?_ ?_ 0 p2 (Nat.zero_le _) hp2
 · rintro i q L hi hq hL
   obtain ⟨k1, k2⟩ := hsh vs[i] (List.getElem_mem hi)
   have hgt := get_LS hi
   have hck := chk_LS hi
   generalize vs[i] = x at *
   obtain ⟨d, q1, d1, d3, hq1, hd⟩ := range_run 1 3 l q hl hq (by omega) (by omega) (by omega)
   obtain ⟨ds, hds⟩ : ∃ ds : List Int, ds = [d0, d] := ⟨_, rfl⟩
   have hmk2 : PO.eval (.mk 1 2) [.int .i64 d0, .int .i64 d] = some [numsD ds] := by subst hds; rfl
   have lds : ds.length = 2 := by subst hds; rfl
   clear hds
   simp (disch := omega) only [ir0p6, stepQ, stepL, eq_self, aBin, reduceIte, Int.reduceEq, Int.reduceLT, Int.reduceLE, Int.reduceGT, Int.reduceGE, hi, hck, hgt, hd, hmk2, len_N]
   refine loop_k (σ := Nat) ds.length (fun _ q => q ≤ l.length) (fun i q => [.int .i64 i, numsD l, .int .i64 q]) (fun _ _ => [.bool true]) ?_ ?_ 0 q1 (Nat.zero_le _) hq1
   · rintro i2 q hL2 hi2 hq hL2'
     have hgt2 := get_N hi2
     have hck2 := chk_N hi2
     generalize ds[i2] = d at *
     obtain ⟨S, q1, hq1, hS⟩ := set_run l q hl hq
     obtain ⟨ks, hks⟩ : ∃ ks : List (BitVec 64), ks = [S0, S] := ⟨_, rfl⟩
     have hmk3 : PO.eval (.mk 1 2) [bvD S0, bvD S] = some [bvsD ks] := by subst hks; rfl
     have lks : ks.length = 2 := by subst hks; rfl
     clear hks
     simp (disch := omega) only [ir0p5, stepQ, stepL, eq_self, aBin, reduceIte, Int.reduceEq, Int.reduceLT, Int.reduceLE, Int.reduceGT, Int.reduceGE, hi2, hck2, hgt2, hS, hmk3, len_V]
     refine loop_k (σ := Nat) ks.length (fun _ q => q ≤ l.length) (fun i q => [.int .i64 i, numsD l, .int .i64 q]) (fun _ _ => [.bool true]) ?_ ?_ 0 q1 (Nat.zero_le _) hq1
     · rintro i3 q hL3 hi3 hq hL3'
       have hgt3 := get_V hi3
       have hck3 := chk_V hi3
       generalize ks[i3] = K at *
       obtain ⟨y, q1, y0, y1, hq1, hy⟩ := n_run ((2 ^ n : Nat) : Int) l q hl hq (by omega) (by omega)
       obtain ⟨ys, hys⟩ : ∃ ys : List Int, ys = [v, y] := ⟨_, rfl⟩
       have hmk4 : PO.eval (.mk 1 2) [.int .i64 v, .int .i64 y] = some [numsD ys] := by subst hys; rfl
       have lys : ys.length = 2 := by subst hys; rfl
       clear hys
       simp (disch := omega) only [ir0p4, stepQ, stepL, eq_self, aBin, reduceIte, Int.reduceEq, Int.reduceLT, Int.reduceLE, Int.reduceGT, Int.reduceGE, shl_norm, nat_nn, hwn, hi3, hck3, hgt3, hy, hmk4, len_N]
       refine loop_k (σ := Unit) ys.length (fun _ _ => True) (fun i _ => [.int .i64 i]) (fun _ _ => [.bool true]) ?_ ?_ 0 () (Nat.zero_le _) trivial
       · rintro i4 _ M4 hi4 _ hM4
         have hnx := hM4 () trivial
         have hgt4 := get_N hi4
         have hck4 := chk_N hi4
         generalize ys[i4] = z at *
         have e1 := nearestA_run x (by omega) z K d
         have e2 := nearestAR_run x (by omega) k2 z K d
         generalize nearA x z K d = A at *
         generalize nearE x z d = E at *
         simp (disch := omega) only [ir0p3, ir0p0, stepQ, stepL, eq_self, aBin, reduceIte, Int.reduceEq, Int.reduceLT, Int.reduceLE, Int.reduceGT, Int.reduceGE, bvQ, wu, shl_norm, shr_norm, and1_norm, hi4, hck4, hgt4, e1, e2, ibne, wr, natS, hnx]
       · rintro _ M4 _
         obtain ⟨g, q2, hq2, hmg, hg⟩ := formula_run (max n 1) (by omega) (by omega) l hl 3 (by omega) q1 hq1
         have hg : run tb 12 [.int .i64 (max n 1 : Nat), .int .i64 3, numsD l, .int .i64 q1] = some [.int .i64 g.op, .str g.name, .sl (F.encs g.args), numsD l, .int .i64 q2] := hg
         obtain ⟨g1, g2, _⟩ := made_models (n := max n 1) (by omega) (by omega) hmg
         obtain ⟨fs, hfs⟩ : ∃ fs : List F, fs = [f, g] := ⟨_, rfl⟩
         have hmk5 : PO.eval (.mk 3 2) [.int .i64 f.op, .str f.name, .sl (F.encs f.args), .int .i64 g.op, .str g.name, .sl (F.encs g.args)] = some [.sl (F.encs fs)] := by
          subst hfs; rw [ev_mk32]; simp [F.encs, F.enc_eq]
         have hff : ∀ h ∈ fs, h.size < 1000000000 ∧ F.allF nameB h = true := by
          subst hfs
          intro h hh
          simp only [List.mem_cons, List.not_mem_nil, or_false] at hh
          rcases hh with rfl | rfl
          · exact fF
          · exact ⟨by omega, good_nameB g1⟩
         have lfs : fs.length = 2 := by subst hfs; rfl
         clear hfs
         have hnext := hL3' q2 hq2
         simp (disch := omega) only [ir0p3, stepQ, stepL, eq_self, aBin, reduceIte, Int.reduceEq, Int.reduceLT, Int.reduceLE, Int.reduceGT, Int.reduceGE, Nat.lt_irrefl, ev_max, hmax, hg, hmk5, len_F]
         refine loop_k (σ := Unit) fs.length (fun _ _ => True) (fun i _ => [.int .i64 i]) (fun _ _ => [.bool true]) ?_ ?_ 0 () (Nat.zero_le _) trivial
         · rintro i5 _ M5 hi5 _ hM5
           have hnx := hM5 () trivial
           have hgt5 := get_F hi5
           have hck5 := chk_F hi5
           obtain ⟨z1, z2⟩ := hff _ (List.getElem_mem hi5)
           generalize fs[i5] = h at *
           simp only [rowF] at hgt5
           have e1 := update_run x (by omega) K h z1 d
           have e2 := updateR_run x (by omega) k2 K h z1 z2 d
           have e3 := erase_run x (by omega) K h z1 d
           have e4 := eraseR_run x (by omega) k2 K h z1 z2 d
           generalize updA x K h d = A at *
           generalize eraA x K h d = B at *
           generalize upE x h d = E at *
           simp (disch := omega) only [ir0p2, ir0p1, stepQ, stepL, eq_self, aBin, reduceIte, Int.reduceEq, Int.reduceLT, Int.reduceLE, Int.reduceGT, Int.reduceGE, bvQ, wu, shl_norm, shr_norm, and1_norm, hi5, hck5, hgt5, e1, e2, e3, e4, ibne, wr, natS, hnx]
         · rintro _ M5 _
           simp (disch := omega) only [ir0p2, stepQ, stepL, eq_self, aBin, reduceIte, Int.reduceEq, Int.reduceLT, Int.reduceLE, Int.reduceGT, Int.reduceGE, Nat.lt_irrefl, wr, natS, hnext]
     · rintro q M3 hq
       have hnext := hL2' q hq
       simp (disch := omega) only [ir0p4, stepQ, stepL, eq_self, aBin, reduceIte, Int.reduceEq, Int.reduceLT, Int.reduceLE, Int.reduceGT, Int.reduceGE, Nat.lt_irrefl, wr, natS, hnext]
   · rintro q M2 hq
     have hnext := hL q hq
     simp (disch := omega) only [ir0p5, stepQ, stepL, eq_self, aBin, reduceIte, Int.reduceEq, Int.reduceLT, Int.reduceLE, Int.reduceGT, Int.reduceGE, Nat.lt_irrefl, wr, natS, hnext]
 · rintro q L _
   simp (disch := omega) only [ir0p6, stepQ, stepL, eq_self, aBin, reduceIte, Int.reduceEq, Int.reduceLT, Int.reduceLE, Int.reduceGT, Int.reduceGE, Nat.lt_irrefl, aw]
end Go.Proofs.YtefkehflmlikmaaGreatDoor
