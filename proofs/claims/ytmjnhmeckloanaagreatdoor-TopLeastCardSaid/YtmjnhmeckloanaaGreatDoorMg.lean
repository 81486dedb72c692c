/- What functions of the program compute: lemmas. -/
import Derived.Test.YtmjnhmeckloanaaGreatDoorWd
import Derived.Test.YtmjnhmeckloanaaGreatDoorOd
import Derived.Test.YtmjnhmeckloanaaGreatDoorTz
import Derived.Test.YtmjnhmeckloanaaGreatDoorAm6
set_option linter.unusedSimpArgs false
set_option linter.unusedVariables false
set_option linter.unusedSectionVars false
namespace Go.Proofs.YtmjnhmeckloanaaGreatDoor
open Go Am
set_option maxRecDepth 100000
theorem tzX_run (x : BitVec 64) : run tb 79 [bvD x] = some [.int .i64 (low x)] := run_ext rfl (tzE_run x)
theorem app_N1 {l : List Int} {a : Int} (h : l.length + 1 ≤ 1000000) : PO.eval (.app 1 8) [numsD l, .sl [[.int .i64 a]]] = some [numsD (l ++ [a])] := by
 unfold numsD
 rw [ev_app (by simp; omega) (by simp; omega) (by simp [numR])]
 simp [numR]
def natL (l : List Nat) : List Int := l.map fun (n : Nat) => (n : Int)
theorem worlds_run (voc : List (List UInt8)) (X : BitVec 64) (hl : voc.length < 1000000000) : run tb 58 [strsD voc, bvD X] = some [numsD (natL (worldsTo (X &&& allS voc) 64))] := by
 refine run_ir (x := ir58) rfl ?_
 have h1 := all_run voc hl
 simp (disch := omega) only [ir58, stepQ, stepL, eq_self, aBin, reduceIte, Int.reduceEq, Int.reduceLT, Int.reduceLE, Int.reduceGT, Int.reduceGE, bvQ, wu, shl_norm, shr_norm, and1_norm, h1]
 generalize X &&& allS voc = Y
 have h0 : from_ Y 0 = Y := from_zero Y
 show loopQ _ _ _ _ [bvD Y, numsD (natL (worldsTo Y 0))] = _
 rw [← h0]
 conv => rhs; rw [h0]
 conv => lhs; rw [show worldsTo (from_ Y 0) 0 = worldsTo Y 0 from rfl]
 refine loop_km (ι := Nat) (fun a => 64 - a) (fun a => a ≤ 64) (fun a => [bvD (from_ Y a), numsD (natL (worldsTo Y a))]) (fun _ => [numsD (natL (worldsTo Y 64))]) ?_ 0 (by omega)
 rintro a L ha hL
 by_cases hz : from_ Y a = 0#64
 · have hd := from_done Y a ha hz
   simp (disch := omega) only [ir58p0, stepQ, stepL, eq_self, aBin, reduceIte, Int.reduceEq, Int.reduceLT, Int.reduceLE, Int.reduceGT, Int.reduceGE, bvQ, wu, shl_norm, shr_norm, and1_norm, hz, hd]
 · obtain ⟨n1, n2, n3, n4⟩ := from_next Y a hz
   have ht := tzX_run (from_ Y a)
   have hnext := hL (low (from_ Y a) + 1) (by show _ ≤ 64; omega) (by show 64 - (low (from_ Y a) + 1) < 64 - a; omega)
   rw [n4] at hnext
   have hlen : (natL (worldsTo Y a)).length + 1 ≤ 1000000 := by
    have := worldsTo_len Y a
    simp only [natL, List.length_map]; omega
   have happ := app_N1 (a := (low (from_ Y a) : Int)) hlen
   have hnl : natL (worldsTo Y a ++ [low (from_ Y a)]) = natL (worldsTo Y a) ++ [(low (from_ Y a) : Int)] := by simp [natL]
   rw [hnl] at hnext
   simp (disch := omega) only [ir58p0, stepQ, stepL, eq_self, aBin, reduceIte, Int.reduceEq, Int.reduceLT, Int.reduceLE, Int.reduceGT, Int.reduceGE, bvQ, wu, shl_norm, shr_norm, and1_norm, hz, ht, happ, n3, hnext]
theorem differ_run (v w : Int) : run tb 59 [.int .i64 v, .int .i64 w] = some [bvD (dif v w)] := by
 refine run_ir (x := ir59) rfl ?_
 have l63 : D.int .u64 63 = bvD 63#64 := rfl
 simp (disch := omega) only [ir59, stepQ, stepL, eq_self, aBin, reduceIte, Int.reduceEq, Int.reduceLT, Int.reduceLE, Int.reduceGT, Int.reduceGE, bvQ, wu, shl_norm, shr_norm, and1_norm, l63]
 rw [ofInt_wrap]
 exact congrArg (fun x => some [bvD (x &&& 63#64)]) (ofIntU (BitVec.ofInt 64 v ^^^ BitVec.ofInt 64 w))
theorem distance_run (v w : Int) : run tb 85 [.int .i64 v, .int .i64 w] = some [.int .i64 (ones (dif v w) 64)] := by
 refine run_ir (x := ir85) rfl ?_
 have h1 := differ_run v w
 have h2 := ones_run (dif v w)
 simp (disch := omega) only [ir85, stepQ, stepL, eq_self, aBin, reduceIte, Int.reduceEq, Int.reduceLT, Int.reduceLE, Int.reduceGT, Int.reduceGE, h1, h2]
def msF (d : Int) : D := if d = 1 then fnD 113 else if d = 2 then fnD 115 else if d = 3 then fnD 116 else .raw .nilFunc
def dOk (d : Int) : Bool := decide (1 ≤ d) && decide (d ≤ 3)
theorem measure_run (d : Int) : run tb 36 [.int .i64 d] = some [msF d, .bool (dOk d)] := by
 refine run_ir (x := ir36) rfl ?_
 unfold msF dOk
 by_cases h1 : d = 1
 · subst h1; simp (disch := omega) only [ir36, stepQ, stepL, eq_self, aBin, reduceIte, Int.reduceEq, Int.reduceLT, Int.reduceLE, Int.reduceGT, Int.reduceGE]
 by_cases h2 : d = 2
 · subst h2; simp (disch := omega) only [ir36, stepQ, stepL, eq_self, aBin, reduceIte, Int.reduceEq, Int.reduceLT, Int.reduceLE, Int.reduceGT, Int.reduceGE]
 by_cases h3 : d = 3
 · subst h3; simp (disch := omega) only [ir36, stepQ, stepL, eq_self, aBin, reduceIte, Int.reduceEq, Int.reduceLT, Int.reduceLE, Int.reduceGT, Int.reduceGE]
 have h4 : (decide (1 ≤ d) && decide (d ≤ 3)) = false := by simp; omega
 rw [if_neg h1, if_neg h2, if_neg h3, h4]
 simp (disch := omega) only [ir36, stepQ, stepL, eq_self, aBin, reduceIte, Int.reduceEq, Int.reduceLT, Int.reduceLE, Int.reduceGT, Int.reduceGE, h1, h2, h3]
theorem m1_run (a b : BitVec 64) : run tb 60 [bvD a, bvD b] = some [.bool (nearP 1 a b)] := by
 refine run_ir (x := ir60) rfl ?_
 have h1 := ones_run a
 have h2 := ones_run b
 have e : nearP 1 a b = decide ((ones a 64 : Int) < (ones b 64 : Int)) := by simp [nearP]
 rw [e]
 simp (disch := omega) only [ir60, stepQ, stepL, eq_self, aBin, reduceIte, Int.reduceEq, Int.reduceLT, Int.reduceLE, Int.reduceGT, Int.reduceGE, h1, h2]
theorem m2_run (a b : BitVec 64) : run tb 61 [bvD a, bvD b] = some [.bool (nearP 2 a b)] := by
 refine run_ir (x := ir61) rfl ?_
 have e : nearP 2 a b = (decide (a &&& ~~~b = 0#64) && !decide (a = b)) := rfl
 rw [e]
 by_cases h : a &&& ~~~b = 0#64
 · simp (disch := omega) only [ir61, stepQ, stepL, eq_self, aBin, reduceIte, Int.reduceEq, Int.reduceLT, Int.reduceLE, Int.reduceGT, Int.reduceGE, bvQ, wu, shl_norm, shr_norm, and1_norm, h, decide_true, Bool.true_and]
 · simp (disch := omega) only [ir61, stepQ, stepL, eq_self, aBin, reduceIte, Int.reduceEq, Int.reduceLT, Int.reduceLE, Int.reduceGT, Int.reduceGE, bvQ, wu, shl_norm, shr_norm, and1_norm, h, decide_false, Bool.false_and]
theorem m3_run (a b : BitVec 64) : run tb 62 [bvD a, bvD b] = some [.bool (nearP 3 a b)] := by
 refine run_ir (x := ir62) rfl ?_
 have e : nearP 3 a b = (decide (a = 0#64) && !decide (b = 0#64)) := rfl
 rw [e]
 by_cases h : a = 0#64
 · simp (disch := omega) only [ir62, stepQ, stepL, eq_self, aBin, reduceIte, Int.reduceEq, Int.reduceLT, Int.reduceLE, Int.reduceGT, Int.reduceGE, bvQ, wu, shl_norm, shr_norm, and1_norm, h, decide_true, Bool.true_and]
 · simp (disch := omega) only [ir62, stepQ, stepL, eq_self, aBin, reduceIte, Int.reduceEq, Int.reduceLT, Int.reduceLE, Int.reduceGT, Int.reduceGE, bvQ, wu, shl_norm, shr_norm, and1_norm, h, decide_false, Bool.false_and]
theorem row_nat {l : List Nat} {i : Nat} (h : i < l.length) : PO.eval (.row 1) [numsD (natL l), .int .i64 i] = some [.int .i64 (l[i] : Nat)] := by
 have h1 : i < (natL l).length := by simpa [natL] using h
 have := row_N h1
 rw [this]; simp [natL]
theorem len_nat (l : List Nat) : PO.eval .lenL [numsD (natL l)] = some [.int .i64 l.length] := by rw [len_N]; simp [natL]
theorem nearest_run (names : List (List UInt8)) (v : Int) (X : BitVec 64) (d : Int) (hd : dOk d = true) (hl : names.length < 1000000000) :
 run tb 37 [strsD names, .int .i64 v, bvD X, msF d] = some [bvD (accN v (worldsTo (X &&& allS names) 64) d (worldsTo (X &&& allS names) 64).length)] := by
 refine run_ir (x := ir37) rfl ?_
 have h1 := worlds_run names X hl
 obtain ⟨l, hll⟩ : ∃ l, l = worldsTo (X &&& allS names) 64 := ⟨_, rfl⟩
 have hlt : ∀ w ∈ l, w < 64 := fun w hw => by rw [hll, mem_worldsTo] at hw; exact hw.1
 have hlen : l.length ≤ 64 := by rw [hll]; exact worldsTo_len _ _
 rw [← hll] at h1 ⊢
 clear hll
 simp (disch := omega) only [ir37, stepQ, stepL, eq_self, aBin, reduceIte, Int.reduceEq, Int.reduceLT, Int.reduceLE, Int.reduceGT, Int.reduceGE, bvQ, wu, shl_norm, shr_norm, and1_norm, h1, callQ_N, len_nat]
 rw [← accN_0 v l d]
 refine loop_k (σ := Unit) l.length (fun _ _ => True) (fun i _ => [msF d, bvD (accN v l d i), .int .i64 i]) (fun _ _ => [bvD (accN v l d l.length)]) ?_ ?_ 0 () (Nat.zero_le _) trivial
 · rintro i _ L hi _ hL
   have hnext := hL () trivial
   have hw := hlt _ (List.getElem_mem hi)
   rw [accN_s hi hw] at hnext
   have hrw := row_nat hi
   have d1 := fun u : Nat => differ_run v u
   simp (disch := omega) only [ir37p3, stepQ, stepL, eq_self, aBin, reduceIte, Int.reduceEq, Int.reduceLT, Int.reduceLE, Int.reduceGT, Int.reduceGE, hi, hrw, len_nat]
   generalize l[i] = w at *
   refine loop_k (σ := Unit) l.length (fun j _ => (l.take j).all (fun u => !nearP d (dif v u) (dif v w)) = true) (fun j _ => [msF d, .int .i64 j]) (fun _ _ => [bvD (accN v l d l.length)]) ?_ ?_ 0 () (Nat.zero_le _) rfl
   · rintro j _ M hj hp hM
     have hrj := row_nat hj
     have hmem : l[j] ∈ l := List.getElem_mem hj
     have hpj : (!nearP d (dif v (l[j] : Nat)) (dif v w)) = true → (l.take (j + 1)).all (fun u => !nearP d (dif v u) (dif v w)) = true := fun h => by
      rw [List.take_add_one, List.getElem?_eq_getElem hj]
      simp only [Option.toList_some, List.all_append, List.all_cons, List.all_nil, Bool.and_true, Bool.true_and, hp]; exact h
     have hok : nearP d (dif v (l[j] : Nat)) (dif v w) = true → okN v l d w = false := fun h => by
      unfold okN
      rw [List.all_eq_false]
      exact ⟨_, hmem, by rw [h]; simp⟩
     generalize l[j] = u at *
     cases hb : nearP d (dif v u) (dif v w) with
     | true =>
      rw [hok hb] at hnext
      simp only [Bool.false_eq_true, if_false] at hnext
      unfold dOk at hd
      simp only [Bool.and_eq_true, decide_eq_true_eq] at hd
      rcases (by omega : d = 1 ∨ d = 2 ∨ d = 3) with rfl | rfl | rfl
      · have hm := m1_run (dif v u) (dif v w)
        rw [hb] at hm
        simp only [msF, Int.reduceEq, if_true, if_false] at hnext ⊢
        simp (disch := omega) only [ir37p2, ir37p1, ir37p0, stepQ, stepL, eq_self, aBin, reduceIte, Int.reduceEq, Int.reduceLT, Int.reduceLE, Int.reduceGT, Int.reduceGE, k_isf, isFn, Nat.reduceBEq, hj, hrj, d1, hm, wr, natS, hnext]
      · have hm := m2_run (dif v u) (dif v w)
        rw [hb] at hm
        simp only [msF, Int.reduceEq, if_true, if_false] at hnext ⊢
        simp (disch := omega) only [ir37p2, ir37p1, ir37p0, stepQ, stepL, eq_self, aBin, reduceIte, Int.reduceEq, Int.reduceLT, Int.reduceLE, Int.reduceGT, Int.reduceGE, k_isf, isFn, Nat.reduceBEq, hj, hrj, d1, hm, wr, natS, hnext]
      · have hm := m3_run (dif v u) (dif v w)
        rw [hb] at hm
        simp only [msF, Int.reduceEq, if_true, if_false] at hnext ⊢
        simp (disch := omega) only [ir37p2, ir37p1, ir37p0, stepQ, stepL, eq_self, aBin, reduceIte, Int.reduceEq, Int.reduceLT, Int.reduceLE, Int.reduceGT, Int.reduceGE, k_isf, isFn, Nat.reduceBEq, hj, hrj, d1, hm, wr, natS, hnext]
     | false =>
      have hnx := hM () (hpj (by rw [hb]; rfl))
      unfold dOk at hd
      simp only [Bool.and_eq_true, decide_eq_true_eq] at hd
      rcases (by omega : d = 1 ∨ d = 2 ∨ d = 3) with rfl | rfl | rfl
      · have hm := m1_run (dif v u) (dif v w)
        rw [hb] at hm
        simp only [msF, Int.reduceEq, if_true, if_false] at hnx ⊢
        simp (disch := omega) only [ir37p2, ir37p1, stepQ, stepL, eq_self, aBin, reduceIte, Int.reduceEq, Int.reduceLT, Int.reduceLE, Int.reduceGT, Int.reduceGE, k_isf, isFn, Nat.reduceBEq, hj, hrj, d1, hm, wr, natS, hnx]
      · have hm := m2_run (dif v u) (dif v w)
        rw [hb] at hm
        simp only [msF, Int.reduceEq, if_true, if_false] at hnx ⊢
        simp (disch := omega) only [ir37p2, ir37p1, stepQ, stepL, eq_self, aBin, reduceIte, Int.reduceEq, Int.reduceLT, Int.reduceLE, Int.reduceGT, Int.reduceGE, k_isf, isFn, Nat.reduceBEq, hj, hrj, d1, hm, wr, natS, hnx]
      · have hm := m3_run (dif v u) (dif v w)
        rw [hb] at hm
        simp only [msF, Int.reduceEq, if_true, if_false] at hnx ⊢
        simp (disch := omega) only [ir37p2, ir37p1, stepQ, stepL, eq_self, aBin, reduceIte, Int.reduceEq, Int.reduceLT, Int.reduceLE, Int.reduceGT, Int.reduceGE, k_isf, isFn, Nat.reduceBEq, hj, hrj, d1, hm, wr, natS, hnx]
   · rintro _ M hp
     rw [List.take_length] at hp
     have hok : okN v l d w = true := hp
     rw [hok, if_pos rfl] at hnext
     simp (disch := omega) only [ir37p2, ir37p0, stepQ, stepL, eq_self, aBin, reduceIte, Int.reduceEq, Int.reduceLT, Int.reduceLE, Int.reduceGT, Int.reduceGE, bvQ, wu, shl_norm, shr_norm, and1_norm, Nat.lt_irrefl, bv_convN, wr, natS, hnext]
 · rintro _ L _
   simp (disch := omega) only [ir37p3, stepQ, stepL, eq_self, aBin, reduceIte, Int.reduceEq, Int.reduceLT, Int.reduceLE, Int.reduceGT, Int.reduceGE, Nat.lt_irrefl]
end Go.Proofs.YtmjnhmeckloanaaGreatDoor

namespace Go.Proofs.YtmjnhmeckloanaaGreatDoor
open Go Am
set_option maxRecDepth 100000
theorem nearV (names : List (List UInt8)) (hv : vocOk names = true) (v : Int) (X : BitVec 64) (d : Int) :
 accN v (worldsTo (X &&& allS names) 64) d (worldsTo (X &&& allS names) 64).length = nearS (2 ^ names.length) v X d := by
 have h6 := vocOk_len hv
 have hal : allS names = alW names.length := by unfold allS; rw [if_pos hv]
 rw [hal, worlds_all h6]
 exact accN_near (pow6 h6) v X d
theorem nearestV_run (names : List (List UInt8)) (hv : vocOk names = true) (v : Int) (X : BitVec 64) (d : Int) (hd : dOk d = true) :
 run tb 37 [strsD names, .int .i64 v, bvD X, msF d] = some [bvD (nearS (2 ^ names.length) v X d)] := by
 have := nearest_run names v X d hd (by have := vocOk_len hv; omega)
 rwa [nearV names hv] at this
def nearE (names : List (List UInt8)) (v d : Int) : Int := if vocOk names = false ∨ v < 0 ∨ ((2 ^ names.length : Nat) : Int) ≤ v then 1 else if dOk d = false then 4 else 0
def nearA (names : List (List UInt8)) (v : Int) (X : BitVec 64) (d : Int) : BitVec 64 := if nearE names v d = 0 then nearS (2 ^ names.length) v X d else 0#64
theorem nearestA_run (names : List (List UInt8)) (hl : names.length < 60) (v : Int) (X : BitVec 64) (d : Int) :
 run tb 16 [strsD names, .int .i64 v, bvD X, .int .i64 d] = some [bvD (nearA names v X d), .int .i64 (nearE names v d)] := by
 refine run_ir (x := ir16) rfl ?_
 have h1 := valid_run names (by omega)
 have h2 := measure_run d
 unfold nearA
 cases hv : vocOk names with
 | false =>
  rw [hv] at h1
  have e : nearE names v d = 1 := by unfold nearE; rw [if_pos (.inl hv)]
  rw [e, if_neg (by decide)]
  simp (disch := omega) only [ir16, ir16p0, stepQ, stepL, eq_self, aBin, reduceIte, Int.reduceEq, Int.reduceLT, Int.reduceLE, Int.reduceGT, Int.reduceGE, bvQ, wu, shl_norm, shr_norm, and1_norm, h1]
 | true =>
  rw [hv] at h1
  by_cases c1 : v < 0
  · have e : nearE names v d = 1 := by unfold nearE; rw [if_pos (.inr (.inl c1))]
    rw [e, if_neg (by decide)]
    simp (disch := omega) only [ir16, ir16p0, stepQ, stepL, eq_self, aBin, reduceIte, Int.reduceEq, Int.reduceLT, Int.reduceLE, Int.reduceGT, Int.reduceGE, bvQ, wu, shl_norm, shr_norm, and1_norm, h1, c1]
  by_cases c2 : v ≥ ((2 ^ names.length : Nat) : Int)
  · have e : nearE names v d = 1 := by unfold nearE; rw [if_pos (.inr (.inr c2))]
    rw [e, if_neg (by decide)]
    simp (disch := omega) only [ir16, ir16p0, stepQ, stepL, eq_self, aBin, reduceIte, Int.reduceEq, Int.reduceLT, Int.reduceLE, Int.reduceGT, Int.reduceGE, bvQ, wu, shl_norm, shr_norm, and1_norm, h1, c1, len_S, c2]
  have hno : ¬ (vocOk names = false ∨ v < 0 ∨ ((2 ^ names.length : Nat) : Int) ≤ v) := by
   rintro (h | h | h)
   · rw [hv] at h; cases h
   · exact c1 h
   · exact c2 h
  cases hd : dOk d with
  | false =>
   rw [hd] at h2
   have e : nearE names v d = 4 := by unfold nearE; rw [if_neg hno, if_pos hd]
   rw [e, if_neg (by decide)]
   simp (disch := omega) only [ir16, ir16p0, stepQ, stepL, eq_self, aBin, reduceIte, Int.reduceEq, Int.reduceLT, Int.reduceLE, Int.reduceGT, Int.reduceGE, bvQ, wu, shl_norm, shr_norm, and1_norm, h1, c1, len_S, c2, h2]
  | true =>
   rw [hd] at h2
   have e : nearE names v d = 0 := by unfold nearE; rw [if_neg hno, if_neg (by rw [hd]; simp)]
   have h3 := nearestV_run names hv v X d hd
   rw [e, if_pos rfl]
   simp (disch := omega) only [ir16, ir16p0, stepQ, stepL, eq_self, aBin, reduceIte, Int.reduceEq, Int.reduceLT, Int.reduceLE, Int.reduceGT, Int.reduceGE, bvQ, wu, shl_norm, shr_norm, and1_norm, h1, c1, len_S, c2, h2, h3]
theorem spread_run (names : List (List UInt8)) (hv : vocOk names = true) (K X : BitVec 64) (d : Int) (hd : dOk d = true) :
 run tb 35 [strsD names, bvD K, bvD X, .int .i64 d] = some [bvD (unionS (2 ^ names.length) K X d)] := by
 refine run_ir (x := ir35) rfl ?_
 have h6 := vocOk_len hv
 have h64 := pow6 h6
 have h1 := measure_run d
 have hal : allS names = alW names.length := by unfold allS; rw [if_pos hv]
 have h2 := worlds_run names K (by omega)
 rw [hal, worlds_all h6] at h2
 rw [hd] at h1
 have h3 := fun v : Nat => nearestV_run names hv v X d hd
 have hlen := worldsTo_len K (2 ^ names.length)
 have hU := union_list h64 K X d
 have hS := unionT_list h64 K X d
 rw [← hU]
 clear hU
 generalize worldsTo K (2 ^ names.length) = l at *
 generalize 2 ^ names.length = n at *
 simp (disch := omega) only [ir35, stepQ, stepL, eq_self, aBin, reduceIte, Int.reduceEq, Int.reduceLT, Int.reduceLE, Int.reduceGT, Int.reduceGE, bvQ, wu, shl_norm, shr_norm, and1_norm, h1, h2, callQ_N, len_nat]
 have z : (0#64 : BitVec 64) = bitsTo (fun w => (l.take 0).any fun v => (nearS n v X d).getLsbD w) n := (set_zero.2 fun w h => by rw [has_bits h64] at h; simp at h).symm
 rw [z]
 refine loop_k (σ := Unit) l.length (fun _ _ => True) (fun i _ => [bvD (bitsTo (fun w => (l.take i).any fun v => (nearS n v X d).getLsbD w) n), .int .i64 i]) (fun _ _ => [bvD (bitsTo (fun w => (l.take l.length).any fun v => (nearS n v X d).getLsbD w) n)]) ?_ ?_ 0 () (Nat.zero_le _) trivial
 · rintro i _ L hi _ hL
   have hnext := hL () trivial
   rw [hS i hi] at hnext
   have hrw := row_nat hi
   simp (disch := omega) only [ir35p0, stepQ, stepL, eq_self, aBin, reduceIte, Int.reduceEq, Int.reduceLT, Int.reduceLE, Int.reduceGT, Int.reduceGE, bvQ, wu, shl_norm, shr_norm, and1_norm, hi, hrw, h3, wr, natS, hnext]
 · rintro _ L _
   simp (disch := omega) only [ir35p0, stepQ, stepL, eq_self, aBin, reduceIte, Int.reduceEq, Int.reduceLT, Int.reduceLE, Int.reduceGT, Int.reduceGE, Nat.lt_irrefl]
def upE (names : List (List UInt8)) (f : F) (d : Int) : Int := if vocOk names = false then 1 else if dOk d = false then 4 else modelsE names f
theorem upE_ok {names : List (List UInt8)} {f : F} {d : Int} (h : upE names f d = 0) : vocOk names = true ∧ dOk d = true := by
 unfold upE at h
 cases hv : vocOk names with
 | false => rw [if_pos hv] at h; cases h
 | true =>
  cases hd : dOk d with
  | false => rw [if_neg (by rw [hv]; simp), if_pos hd] at h; cases h
  | true => exact ⟨rfl, rfl⟩
theorem umodels_run (names : List (List UInt8)) (hl : names.length < 1000000000) (f : F) (hf : f.size < 1000000000) (d : Int) :
 ∃ S, run tb 34 [strsD names, .int .i64 f.op, .str f.name, .sl (F.encs f.args), .int .i64 d] = some [bvD S, .int .i64 (upE names f d)] ∧ (upE names f d = 0 → S = modelsS names f) := by
 have h1 := valid_run names hl
 have h2 := measure_run d
 have h3 := modelsW_run names f hl hf
 simp only [rowF] at h3
 unfold upE
 cases hv : vocOk names with
 | false =>
  rw [hv] at h1
  refine ⟨0#64, run_ir (x := ir34) rfl ?_, by simp⟩
  simp (disch := omega) only [ir34, stepQ, stepL, eq_self, aBin, reduceIte, Int.reduceEq, Int.reduceLT, Int.reduceLE, Int.reduceGT, Int.reduceGE, bvQ, wu, shl_norm, shr_norm, and1_norm, h1]
 | true =>
  rw [hv] at h1
  cases hd : dOk d with
  | false =>
   rw [hd] at h2
   refine ⟨0#64, run_ir (x := ir34) rfl ?_, by simp⟩
   simp (disch := omega) only [ir34, stepQ, stepL, eq_self, aBin, reduceIte, Int.reduceEq, Int.reduceLT, Int.reduceLE, Int.reduceGT, Int.reduceGE, bvQ, wu, shl_norm, shr_norm, and1_norm, h1, h2, Bool.true_eq_false]
  | true =>
   rw [hd] at h2
   refine ⟨modelsS names f, run_ir (x := ir34) rfl ?_, fun _ => rfl⟩
   simp (disch := omega) only [ir34, stepQ, stepL, eq_self, aBin, reduceIte, Int.reduceEq, Int.reduceLT, Int.reduceLE, Int.reduceGT, Int.reduceGE, bvQ, wu, shl_norm, shr_norm, and1_norm, h1, h2, h3, Bool.true_eq_false]
def updA (names : List (List UInt8)) (K : BitVec 64) (f : F) (d : Int) : BitVec 64 := if upE names f d = 0 then unionS (2 ^ names.length) K (modelsS names f) d else 0#64
theorem update_run (names : List (List UInt8)) (hl : names.length < 1000000000) (K : BitVec 64) (f : F) (hf : f.size < 1000000000) (d : Int) :
 run tb 15 [strsD names, bvD K, .int .i64 f.op, .str f.name, .sl (F.encs f.args), .int .i64 d] = some [bvD (updA names K f d), .int .i64 (upE names f d)] := by
 obtain ⟨S, h1, hS⟩ := umodels_run names hl f hf d
 refine run_ir (x := ir15) rfl ?_
 unfold updA
 by_cases c : upE names f d = 0
 · obtain ⟨hv, hd⟩ := upE_ok c
   rw [hS c] at h1
   have h2 := spread_run names hv K (modelsS names f) d hd
   rw [if_pos c]
   simp (disch := omega) only [ir15, stepQ, stepL, eq_self, aBin, reduceIte, Int.reduceEq, Int.reduceLT, Int.reduceLE, Int.reduceGT, Int.reduceGE, bvQ, wu, shl_norm, shr_norm, and1_norm, h1, c, ibne, h2]
 · rw [if_neg c]
   simp (disch := omega) only [ir15, stepQ, stepL, eq_self, aBin, reduceIte, Int.reduceEq, Int.reduceLT, Int.reduceLE, Int.reduceGT, Int.reduceGE, bvQ, wu, shl_norm, shr_norm, and1_norm, h1, c, ibne]
end Go.Proofs.YtmjnhmeckloanaaGreatDoor

namespace Go.Proofs.YtmjnhmeckloanaaGreatDoor
open Go Am
set_option maxRecDepth 100000
theorem updateF_run {n : Nat} (hn : n ≤ 6) (K : BitVec 64) {f : F} (hf : f.size ≤ 256) (he : modelsE (vocN n) f = 0) (d : Int) (hd : dOk d = true) :
 run tb 15 [strsD (vocN n), bvD K, .int .i64 f.op, .str f.name, .sl (F.encs f.args), .int .i64 d] = some [bvD (unionS (2 ^ n) K (modelsS (vocN n) f) d), .int .i64 0] := by
 have h1 := update_run (vocN n) (by rw [vocN_len]; omega) K f (by omega) d
 have e : upE (vocN n) f d = 0 := by unfold upE; rw [if_neg (by simp [vocN_ok hn]), if_neg (by simp [hd]), he]
 unfold updA at h1
 rw [e, if_pos rfl, vocN_len] at h1
 exact h1
end Go.Proofs.YtmjnhmeckloanaaGreatDoor

namespace Go.Proofs.YtmjnhmeckloanaaGreatDoor
open Go Am
set_option maxRecDepth 100000
def idxZ (x : BitVec 64) : Nat → List (BitVec 64) → Int
 | _, [] => -1
 | k, y :: l => if x = y then (k : Int) else idxZ x (k + 1) l
theorem idxZ_ge (x : BitVec 64) : ∀ (k : Nat) (l : List (BitVec 64)), decide (idxZ x k l ≥ 0) = l.contains x
 | k, [] => rfl
 | k, y :: l => by
  rw [idxZ, List.contains_cons]
  by_cases h : x = y
  · rw [if_pos h, h]; simp
  · rw [if_neg h, idxZ_ge x (k + 1) l]
    have : (x == y) = false := by simpa using h
    rw [this, Bool.false_or]
theorem indexZ_run (l : List (BitVec 64)) (x : BitVec 64) (hl : l.length < 1000000000) : run tb 75 [bvsD l, bvD x] = some [.int .i64 (idxZ x 0 l)] := by
 refine run_ir (x := ir75) rfl ?_
 simp (disch := omega) only [ir75, stepQ, stepL, eq_self, aBin, reduceIte, Int.reduceEq, Int.reduceLT, Int.reduceLE, Int.reduceGT, Int.reduceGE, len_V]
 rw [show idxZ x 0 l = idxZ x 0 (l.drop 0) from rfl]
 refine loop_k (σ := Unit) l.length (fun _ _ => True) (fun i _ => [.int .i64 i]) (fun i _ => [.int .i64 (idxZ x i (l.drop i))]) ?_ ?_ 0 () (Nat.zero_le _) trivial
 · rintro i _ L hi _ hL
   have hnext := hL () trivial
   have hr := row_V hi
   rw [drop_s hi, idxZ]
   by_cases hx : x = l[i]
   · rw [if_pos hx]
     simp (disch := omega) only [ir75p0, stepQ, stepL, eq_self, aBin, reduceIte, Int.reduceEq, Int.reduceLT, Int.reduceLE, Int.reduceGT, Int.reduceGE, bvQ, wu, shl_norm, shr_norm, and1_norm, hi, hr, eq_true hx]
   · rw [if_neg hx]
     simp (disch := omega) only [ir75p0, stepQ, stepL, eq_self, aBin, reduceIte, Int.reduceEq, Int.reduceLT, Int.reduceLE, Int.reduceGT, Int.reduceGE, bvQ, wu, shl_norm, shr_norm, and1_norm, hi, hr, hx, wr, natS, hnext]
 · rintro _ L _
   rw [List.drop_length]
   simp (disch := omega) only [ir75p0, stepQ, stepL, eq_self, aBin, reduceIte, Int.reduceEq, Int.reduceLT, Int.reduceLE, Int.reduceGT, Int.reduceGE, Nat.lt_irrefl, idxZ]
theorem containsZ_run (l : List (BitVec 64)) (x : BitVec 64) (hl : l.length < 1000000000) : run tb 55 [bvsD l, bvD x] = some [.bool (l.contains x)] := by
 refine run_ir (x := ir55) rfl ?_
 have h := indexZ_run l x hl
 rw [← idxZ_ge x 0 l]
 simp (disch := omega) only [ir55, stepQ, stepL, eq_self, aBin, reduceIte, Int.reduceEq, Int.reduceLT, Int.reduceLE, Int.reduceGT, Int.reduceGE, h]
def firstE (names : List (List UInt8)) : List F → Int
 | [] => 0
 | f :: l => if modelsE names f = 0 then firstE names l else modelsE names f
def prE (names : List (List UInt8)) (fs : List F) (kind : Int) : Int :=
 if vocOk names = false then 1 else if kind < 1 ∨ kind > 4 then 4 else if fs.length > 8 then 2 else if firstE names fs ≠ 0 then firstE names fs else if (fs.map (modelsS names)).contains 0#64 = true then 7 else 0
theorem app_V1 {l : List (BitVec 64)} {a : BitVec 64} (h : l.length + 1 ≤ 1000000) : PO.eval (.app 1 8) [bvsD l, .sl [[bvD a]]] = some [bvsD (l ++ [a])] := by
 unfold bvsD
 rw [ev_app (by simp; omega) (by simp; omega) (by simp)]
 simp
theorem row_Fq {l : List F} {i : Nat} (h : i < l.length) : PO.eval (.row 3) [.sl (F.encs l), .int .i64 i] = some [.int .i64 l[i].op, .str l[i].name, .sl (F.encs l[i].args)] := row_F h
theorem mprofile_run (names : List (List UInt8)) (hl : names.length < 1000000000) (fs : List F) (hf : ∀ f ∈ fs, f.size < 1000000000) (hfl : fs.length < 1000000000) (kind : Int) :
 run tb 32 [strsD names, .sl (F.encs fs), .int .i64 kind] = some [if prE names fs kind = 0 then bvsD (fs.map (modelsS names)) else .sl [], .int .i64 (prE names fs kind)] := by
 refine run_ir (x := ir32) rfl ?_
 have h1 := valid_run names hl
 cases hv : vocOk names with
 | false =>
  rw [hv] at h1
  have e : prE names fs kind = 1 := by unfold prE; rw [if_pos hv]
  rw [e, if_neg (by decide)]
  simp (disch := omega) only [ir32, stepQ, stepL, eq_self, aBin, reduceIte, Int.reduceEq, Int.reduceLT, Int.reduceLE, Int.reduceGT, Int.reduceGE, h1]
 | true =>
 rw [hv] at h1
 by_cases c1 : kind < 1
 · have e : prE names fs kind = 4 := by unfold prE; rw [if_neg (by simp [hv]), if_pos (.inl c1)]
   rw [e, if_neg (by decide)]
   simp (disch := omega) only [ir32, ir32p1, stepQ, stepL, eq_self, aBin, reduceIte, Int.reduceEq, Int.reduceLT, Int.reduceLE, Int.reduceGT, Int.reduceGE, h1, c1]
 by_cases c2 : kind > 4
 · have e : prE names fs kind = 4 := by unfold prE; rw [if_neg (by simp [hv]), if_pos (.inr c2)]
   rw [e, if_neg (by decide)]
   simp (disch := omega) only [ir32, ir32p1, stepQ, stepL, eq_self, aBin, reduceIte, Int.reduceEq, Int.reduceLT, Int.reduceLE, Int.reduceGT, Int.reduceGE, h1, c1, c2]
 by_cases c3 : fs.length > 8
 · have e : prE names fs kind = 2 := by unfold prE; rw [if_neg (by simp [hv]), if_neg (by omega), if_pos c3]
   have c3' : (fs.length : Int) > 8 := by omega
   rw [e, if_neg (by decide)]
   simp (disch := omega) only [ir32, ir32p1, stepQ, stepL, eq_self, aBin, reduceIte, Int.reduceEq, Int.reduceLT, Int.reduceLE, Int.reduceGT, Int.reduceGE, h1, c1, c2, len_F, c3']
 have c3' : ¬ (fs.length : Int) > 8 := by omega
 have e : prE names fs kind = if firstE names fs ≠ 0 then firstE names fs else if (fs.map (modelsS names)).contains 0#64 = true then 7 else 0 := by unfold prE; rw [if_neg (by simp [hv]), if_neg (by omega), if_neg c3]
 rw [e]
 simp (disch := omega) only [ir32, ir32p1, stepQ, stepL, eq_self, aBin, reduceIte, Int.reduceEq, Int.reduceLT, Int.reduceLE, Int.reduceGT, Int.reduceGE, h1, c1, c2, len_F, c3']
 show loopQ _ _ _ _ [.int .i64 ((0 : Nat) : Int), bvsD ((fs.take 0).map (modelsS names))] = _
 have hd0 : firstE names fs = firstE names (fs.drop 0) := by simp
 rw [hd0]
 refine loop_k (σ := Unit) fs.length (fun _ _ => True) (fun i _ => [.int .i64 i, bvsD ((fs.take i).map (modelsS names))])
  (fun i _ => [if (if firstE names (fs.drop i) ≠ 0 then firstE names (fs.drop i) else if (fs.map (modelsS names)).contains 0#64 = true then 7 else 0) = 0 then bvsD (fs.map (modelsS names)) else .sl [], .int .i64 (if firstE names (fs.drop i) ≠ 0 then firstE names (fs.drop i) else if (fs.map (modelsS names)).contains 0#64 = true then 7 else 0)]) ?_ ?_ 0 () (Nat.zero_le _) trivial
 · rintro i _ L hi _ hL
   have hnext := hL () trivial
   have hr := row_Fq hi
   have hm := modelsW_run names fs[i] hl (hf _ (List.getElem_mem hi))
   simp only [rowF] at hm
   rw [drop_s hi, firstE]
   by_cases c : modelsE names fs[i] = 0
   · rw [if_pos c]
     rw [c] at hm
     have htk : (fs.take (i + 1)).map (modelsS names) = (fs.take i).map (modelsS names) ++ [modelsS names fs[i]] := by
      rw [List.take_add_one, List.getElem?_eq_getElem hi, List.map_append]; rfl
     rw [htk] at hnext
     have happ := app_V1 (l := (fs.take i).map (modelsS names)) (a := modelsS names fs[i]) (by rw [List.length_map, List.length_take]; omega)
     simp (disch := omega) only [ir32p0, stepQ, stepL, eq_self, aBin, reduceIte, Int.reduceEq, Int.reduceLT, Int.reduceLE, Int.reduceGT, Int.reduceGE, hi, hr, hm, ibne, happ, wr, natS, hnext]
   · rw [if_neg c, if_pos c, if_neg c]
     simp (disch := omega) only [ir32p0, stepQ, stepL, eq_self, aBin, reduceIte, Int.reduceEq, Int.reduceLT, Int.reduceLE, Int.reduceGT, Int.reduceGE, hi, hr, hm, ibne, c]
 · rintro _ L _
   rw [List.take_length, List.drop_length]
   have hc := containsZ_run (fs.map (modelsS names)) 0#64 (by rw [List.length_map]; exact hfl)
   cases hz : (fs.map (modelsS names)).contains 0#64 with
   | true =>
    rw [hz] at hc
    simp (disch := omega) only [ir32p0, stepQ, stepL, eq_self, aBin, reduceIte, Int.reduceEq, Int.reduceLT, Int.reduceLE, Int.reduceGT, Int.reduceGE, bvQ, wu, shl_norm, shr_norm, and1_norm, Nat.lt_irrefl, hc, callQ_tb, firstE, ne_eq, not_true_eq_false, if_false, if_true, Int.reduceEq]
   | false =>
    rw [hz] at hc
    simp (disch := omega) only [ir32p0, stepQ, stepL, eq_self, aBin, reduceIte, Int.reduceEq, Int.reduceLT, Int.reduceLE, Int.reduceGT, Int.reduceGE, bvQ, wu, shl_norm, shr_norm, and1_norm, Nat.lt_irrefl, hc, callQ_tb, firstE, ne_eq, not_true_eq_false, if_false, if_true, Int.reduceEq, Bool.false_eq_true]
def dsT (kind : Int) (w : Nat) (l : List Nat) : Nat := l.foldl (fun (m v : Nat) => min m (if kind = 4 then min (ones (dif v w) 64) 1 else ones (dif v w) 64)) 7
theorem dsT_snoc (kind : Int) (w : Nat) (l : List Nat) (v : Nat) : dsT kind w (l ++ [v]) = min (dsT kind w l) (if kind = 4 then min (ones (dif v w) 64) 1 else ones (dif v w) 64) := by simp [dsT]
theorem dsT_le (kind : Int) (w : Nat) (l : List Nat) : dsT kind w l ≤ 7 := by
 have : ∀ (l : List Nat) (a : Nat), l.foldl (fun (m v : Nat) => min m (if kind = 4 then min (ones (dif v w) 64) 1 else ones (dif v w) 64)) a ≤ a := by
  intro l
  induction l with
  | nil => intro a; exact Nat.le_refl _
  | cons v l ih => intro a; simp only [List.foldl_cons]; exact Nat.le_trans (ih _) (Nat.min_le_left _ _)
 exact this l 7
theorem dsT_ent (kind : Int) (w : Nat) {l : List Nat} (h : l ≠ []) : (dsT kind w l : Int) = entS kind (dsL w l) := by
 unfold entS
 by_cases hk : kind = 4
 · subst hk
   simp only [if_true]
   have : ∀ (l : List Nat) (a b : Nat), min a 1 = min b 1 → min (l.foldl (fun (m v : Nat) => min m (if (4 : Int) = 4 then min (ones (dif v w) 64) 1 else ones (dif v w) 64)) a) 1 = min (l.foldl (fun (m v : Nat) => min m (ones (dif v w) 64)) b) 1 := by
    intro l
    induction l with
    | nil => intro a b h; exact h
    | cons v l ih => intro a b h; simp only [List.foldl_cons, if_true]; exact ih _ _ (by omega)
   have h1 := this l 7 7 rfl
   have h2 : dsT 4 w l ≤ 1 := by
    obtain ⟨v, l, rfl⟩ := List.exists_cons_of_ne_nil h
    have h3 : ∀ (l : List Nat) (a : Nat), l.foldl (fun (m v : Nat) => min m (if (4 : Int) = 4 then min (ones (dif v w) 64) 1 else ones (dif v w) 64)) a ≤ a := by
     intro l
     induction l with
     | nil => intro a; exact Nat.le_refl _
     | cons v l ih => intro a; simp only [List.foldl_cons]; exact Nat.le_trans (ih _) (Nat.min_le_left _ _)
    have := h3 l (min 7 (min (ones (dif v w) 64) 1))
    unfold dsT
    simp only [List.foldl_cons, if_true] at this ⊢
    omega
   have h4 : min (dsT 4 w l) 1 = min (dsL w l) 1 := h1
   omega
 · simp only [hk, if_false]; unfold dsT dsL; simp only [hk, if_false]
theorem mdistance_run (names : List (List UInt8)) (hv : vocOk names = true) (X : BitVec 64) (hX : ∃ u, u < 2 ^ names.length ∧ has X u) (w : Nat) (kind : Int) :
 run tb 76 [strsD names, bvD X, .int .i64 w, .int .i64 kind] = some [.int .i64 (entS kind (dsS (2 ^ names.length) X w))] := by
 refine run_ir (x := ir76) rfl ?_
 have h6 := vocOk_len hv
 have h1 := worlds_run names X (by omega)
 have hal : allS names = alW names.length := by unfold allS; rw [if_pos hv]
 rw [hal, worlds_all h6] at h1
 obtain ⟨u, hu, hxu⟩ := hX
 have hne : worldsTo X (2 ^ names.length) ≠ [] := fun h => by
  have := (mem_worldsTo (X := X) (n := 2 ^ names.length)).2 ⟨hu, hxu⟩
  rw [h] at this; cases this
 unfold dsS
 rw [← dsT_ent kind w hne]
 clear hne
 have hlen := worldsTo_len X (2 ^ names.length)
 have h64 := pow6 h6
 generalize worldsTo X (2 ^ names.length) = l at *
 simp (disch := omega) only [ir76, stepQ, stepL, eq_self, aBin, reduceIte, Int.reduceEq, Int.reduceLT, Int.reduceLE, Int.reduceGT, Int.reduceGE, h1, callQ_N, len_nat]
 show loopQ _ _ _ _ [.int .i64 ((dsT kind w (l.take 0) : Nat) : Int), .int .i64 ((0 : Nat) : Int)] = _
 refine loop_k (σ := Unit) l.length (fun _ _ => True) (fun i _ => [.int .i64 ((dsT kind w (l.take i) : Nat) : Int), .int .i64 i]) (fun _ _ => [.int .i64 ((dsT kind w l : Nat) : Int)]) ?_ ?_ 0 () (Nat.zero_le _) trivial
 · rintro i _ L hi _ hL
   have hnext := hL () trivial
   have hr := row_nat hi
   have hd := distance_run (l[i] : Nat) w
   rw [List.take_add_one, List.getElem?_eq_getElem hi, Option.toList_some, dsT_snoc] at hnext
   have hle := dsT_le kind w (l.take i)
   generalize dsT kind w (l.take i) = T at *
   generalize ones (dif (l[i] : Nat) w) 64 = o at *
   by_cases hk : kind = 4
   · subst hk
     simp only [if_true] at hnext
     have e1 : (if (1 : Int) < (o : Int) then (1 : Int) else (o : Int)) = ((min o 1 : Nat) : Int) := by split <;> omega
     have e2 : (if min o 1 < T then ((min o 1 : Nat) : Int) else (T : Int)) = ((min T (min o 1) : Nat) : Int) := by split <;> omega
     simp (disch := omega) only [ir76p1, ir76p0, stepQ, stepL, eq_self, aBin, reduceIte, Int.reduceEq, Int.reduceLT, Int.reduceLE, Int.reduceGT, Int.reduceGE, hi, hr, hd, ev_min, e1, e2, wr, natS, hnext]
   · simp only [hk, if_false] at hnext
     have e2 : (if o < T then ((o : Nat) : Int) else (T : Int)) = ((min T o : Nat) : Int) := by split <;> omega
     simp (disch := omega) only [ir76p1, ir76p0, stepQ, stepL, eq_self, aBin, reduceIte, Int.reduceEq, Int.reduceLT, Int.reduceLE, Int.reduceGT, Int.reduceGE, hi, hr, hd, hk, ev_min, e2, wr, natS, hnext]
 · rintro _ L _
   rw [List.take_length]
   simp (disch := omega) only [ir76p1, stepQ, stepL, eq_self, aBin, reduceIte, Int.reduceEq, Int.reduceLT, Int.reduceLE, Int.reduceGT, Int.reduceGE, Nat.lt_irrefl]
theorem mvector_run (names : List (List UInt8)) (hv : vocOk names = true) (ms : List (BitVec 64)) (hm : Mods (2 ^ names.length) ms) (h8 : ms.length ≤ 1000) (w : Nat) (kind : Int) :
 run tb 56 [strsD names, bvsD ms, .int .i64 w, .int .i64 kind] = some [numsD (vecS (2 ^ names.length) ms kind w)] := by
 refine run_ir (x := ir56) rfl ?_
 simp (disch := omega) only [ir56, stepQ, stepL, eq_self, aBin, reduceIte, Int.reduceEq, Int.reduceLT, Int.reduceLE, Int.reduceGT, Int.reduceGE, len_V]
 show loopQ _ _ _ _ [.int .i64 ((0 : Nat) : Int), numsD (vecS (2 ^ names.length) (ms.take 0) kind w)] = _
 refine loop_k (σ := Unit) ms.length (fun _ _ => True) (fun i _ => [.int .i64 i, numsD (vecS (2 ^ names.length) (ms.take i) kind w)]) (fun _ _ => [numsD (vecS (2 ^ names.length) ms kind w)]) ?_ ?_ 0 () (Nat.zero_le _) trivial
 · rintro i _ L hi _ hL
   have hnext := hL () trivial
   have hr := row_V hi
   have hd := mdistance_run names hv ms[i] (hm _ (List.getElem_mem hi)) w kind
   have htk : vecS (2 ^ names.length) (ms.take (i + 1)) kind w = vecS (2 ^ names.length) (ms.take i) kind w ++ [entS kind (dsS (2 ^ names.length) ms[i] w)] := by
    unfold vecS
    rw [List.take_add_one, List.getElem?_eq_getElem hi, List.map_append]; rfl
   rw [htk] at hnext
   have happ := app_N1 (l := vecS (2 ^ names.length) (ms.take i) kind w) (a := entS kind (dsS (2 ^ names.length) ms[i] w)) (by rw [vec_len, List.length_take]; omega)
   simp (disch := omega) only [ir56p0, stepQ, stepL, eq_self, aBin, reduceIte, Int.reduceEq, Int.reduceLT, Int.reduceLE, Int.reduceGT, Int.reduceGE, hi, hr, hd, happ, wr, natS, hnext]
 · rintro _ L _
   rw [List.take_length]
   simp (disch := omega) only [ir56p0, stepQ, stepL, eq_self, aBin, reduceIte, Int.reduceEq, Int.reduceLT, Int.reduceLE, Int.reduceGT, Int.reduceGE, Nat.lt_irrefl]
def keyT (kind : Int) (v : List Int) : Int := if kind = 3 then mxF v else if kind = 2 then baseF v else sumF id v
theorem keyT_snoc (kind : Int) (v : List Int) (d : Int) : keyT kind (v ++ [d]) = if kind = 3 then (if d > keyT kind v then d else keyT kind v) else if kind = 2 then keyT kind v * 7 + d else keyT kind v + d := by
 unfold keyT
 split
 · simp [mxF]
 split
 · simp [baseF]
 · simp [sumF]
theorem keyT_bound (kind : Int) {v : List Int} (hd : Dig v) (h8 : v.length ≤ 8) : 0 ≤ keyT kind v ∧ keyT kind v < 5764801 := by
 unfold keyT
 split
 · have h1 := mxF_nn v
   have h2 : mxF v ≤ 6 := by
    clear h1
    induction v with
    | nil => simp [mxF]
    | cons x v ih =>
     rw [mxF_cons]
     have := ih (fun y hy => hd y (List.mem_cons_of_mem _ hy)) (by simp at h8; omega)
     have := hd x List.mem_cons_self
     omega
   omega
 split
 · have h := baseF_bound hd
   have hp : (7 : Int) ^ v.length ≤ 7 ^ 8 := by exact_mod_cast Nat.pow_le_pow_right (by omega : 0 < 7) h8
   have : (7 : Int) ^ 8 = 5764801 := by decide
   omega
 · have h1 := sumF_nn (f := id) (v := v) fun x hx => (hd x hx).1
   have h2 := sumF_bound (f := id) (c := 6) (v := v) fun x hx => (hd x hx).2
   omega
theorem mkey_run (kind : Int) (v : List Int) (hd : Dig v) (h8 : v.length ≤ 8) : run tb 57 [.int .i64 kind, numsD v] = some [.int .i64 (keyS kind v), numsD (descI v)] := by
 refine run_ir (x := ir57) rfl ?_
 have h1 : run tb 77 [numsD v] = some [numsD (sortI v)] := run_ext rfl (by rw [show ext77 = sortE from rfl, sortE, fun1_run, if_pos (by omega)])
 have h2 : run tb 78 [numsD (sortI v)] = some [numsD (descI v)] := run_ext rfl (by rw [show ext78 = revE from rfl, revE, fun1_run, if_pos (by rw [sortI_len]; omega)]; rfl)
 have hl : (descI v).length = v.length := (descI_perm v).length_eq
 have hk : keyS kind v = keyT kind (descI v) := rfl
 have hdd : Dig (descI v) := fun x hx => hd x ((descI_perm v).mem_iff.1 hx)
 rw [hk]
 have c1 : ∀ (l : List Int) k e J, callQ (run tb) 1 false [0] k e J (some [numsD l]) = den (run tb) k (e ++ [numsD l]) J := fun l k e J => rfl
 generalize descI v = z at *
 simp (disch := omega) only [ir57, stepQ, stepL, eq_self, aBin, reduceIte, Int.reduceEq, Int.reduceLT, Int.reduceLE, Int.reduceGT, Int.reduceGE, h1, h2, c1, len_N]
 have hz : keyT kind (z.take 0) = 0 := by simp [keyT, mxF, baseF, sumF]
 show loopQ _ _ _ _ ([D.int .i64 0] ++ [.int .i64 ((0 : Nat) : Int)]) = _
 rw [show ([D.int .i64 0] : List D) = [D.int .i64 (keyT kind (z.take 0))] by rw [hz]]
 refine loop_k (σ := Unit) z.length (fun _ _ => True) (fun i _ => [.int .i64 (keyT kind (z.take i)), .int .i64 i]) (fun _ _ => [.int .i64 (keyT kind z), numsD z]) ?_ ?_ 0 () (Nat.zero_le _) trivial
 · rintro i _ L hi _ hL
   have hnext := hL () trivial
   have hg := get_N hi
   have hc := chk_N hi
   rw [List.take_add_one, List.getElem?_eq_getElem hi, Option.toList_some, keyT_snoc] at hnext
   obtain ⟨b1, b2⟩ := keyT_bound kind (v := z.take i) (fun x hx => hdd x (List.mem_of_mem_take hx)) (by rw [List.length_take]; omega)
   obtain ⟨d1, d2⟩ := hdd z[i] (List.getElem_mem hi)
   generalize keyT kind (z.take i) = T at *
   generalize z[i] = d at *
   by_cases k3 : kind = 3
   · rw [if_pos k3] at hnext
     simp (disch := omega) only [ir57p1, ir57p0, stepQ, stepL, eq_self, aBin, reduceIte, Int.reduceEq, Int.reduceLT, Int.reduceLE, Int.reduceGT, Int.reduceGE, hi, hg, hc, k3, ev_max, wr, natS, hnext]
   rw [if_neg k3] at hnext
   by_cases k2 : kind = 2
   · rw [if_pos k2] at hnext
     simp (disch := omega) only [ir57p1, ir57p0, stepQ, stepL, eq_self, aBin, reduceIte, Int.reduceEq, Int.reduceLT, Int.reduceLE, Int.reduceGT, Int.reduceGE, hi, hg, hc, k3, k2, wr, natS, hnext]
   · rw [if_neg k2] at hnext
     simp (disch := omega) only [ir57p1, ir57p0, stepQ, stepL, eq_self, aBin, reduceIte, Int.reduceEq, Int.reduceLT, Int.reduceLE, Int.reduceGT, Int.reduceGE, hi, hg, hc, k3, k2, wr, natS, hnext]
 · rintro _ L _
   rw [List.take_length]
   simp (disch := omega) only [ir57p1, stepQ, stepL, eq_self, aBin, reduceIte, Int.reduceEq, Int.reduceLT, Int.reduceLE, Int.reduceGT, Int.reduceGE, Nat.lt_irrefl]
theorem mranked_run (names : List (List UInt8)) (hv : vocOk names = true) (ms : List (BitVec 64)) (hm : Mods (2 ^ names.length) ms) (h8 : ms.length ≤ 8) (kind : Int) :
 run tb 33 [strsD names, bvsD ms, .int .i64 kind] = some [strsD names, numsD (mrgR (2 ^ names.length) ms kind), .int .i64 0] := by
 refine run_ir (x := ir33) rfl ?_
 have h6 := vocOk_len hv
 have h64 := pow6 h6
 have hkl : (keysL (2 ^ names.length) ms kind).length = 2 ^ names.length := by simp [keysL]
 have hno := normal_run names (keysL (2 ^ names.length) ms kind) (by omega) (by omega)
 rw [if_pos (by simp [normE, hv, hkl]), keys_norm hm h8] at hno
 have hmkN := mkN (n := 2 ^ names.length) (by omega)
 rw [← hkl, fill_zero, hkl] at hmkN
 have hV := fun w : Nat => mvector_run names hv ms hm (by omega) w kind
 have hK := fun w : Nat => mkey_run kind (vecS (2 ^ names.length) ms kind w) (vec_dig hm kind w) (by rw [vec_len]; exact h8)
 have hG := fun (w : Nat) (h : w < 2 ^ names.length) => keysL_get ms kind h
 show den _ _ _ _ = some [strsD names, numsD (normS (scoL (2 ^ names.length) ms kind)), .int .i64 0]
 simp (disch := omega) only [ir33, stepQ, stepL, eq_self, aBin, reduceIte, Int.reduceEq, Int.reduceLT, Int.reduceLE, Int.reduceGT, Int.reduceGE, shl_norm, nat_nn, len_S, hmkN]
 generalize normS (scoL (2 ^ names.length) ms kind) = R at *
 generalize hN : 2 ^ names.length = n at *
 generalize keysL n ms kind = K at *
 have hfl : ∀ i, (fillR K i).length = n := fun i => by simp [fillR, hkl]
 have hl3 : PO.eval .lenL [numsD (fillR K 0)] = some [.int .i64 n] := by rw [len_N, hfl]
 have c2 : ∀ (l : List Int) k e J, callQ (run tb) 1 false [0] k e J (some [numsD l]) = den (run tb) k (e ++ [numsD l]) J := fun l k e J => rfl
 have c3 : ∀ (x : Int) (l : List Int) k e J, callQ (run tb) 2 false [1] k e J (some [.int .i64 x, numsD l]) = den (run tb) k (e ++ [.int .i64 x, numsD l]) J := fun x l k e J => rfl
 simp (disch := omega) only [stepQ, stepL, eq_self, aBin, reduceIte, Int.reduceEq, Int.reduceLT, Int.reduceLE, Int.reduceGT, Int.reduceGE, hl3]
 refine loop_k (σ := Unit) n (fun _ _ => True) (fun i _ => [.int .i64 i, numsD (fillR K i)]) (fun _ _ => [strsD names, numsD R, .int .i64 0]) ?_ ?_ 0 () (Nat.zero_le _) trivial
 · rintro i _ L hi _ hL
   have hnext := hL () trivial
   rw [← fill_succ (by omega), hG i hi] at hnext
   have hc := chk_N (l := fillR K i) (i := i) (by rw [hfl]; exact hi)
   have hs := set_N (l := fillR K i) (i := i) (by rw [hfl]; exact hi) (keyS kind (vecS n ms kind i))
   have h1 := hV i
   have h2 := hK i
   simp (disch := omega) only [ir33p0, stepQ, stepL, eq_self, aBin, reduceIte, Int.reduceEq, Int.reduceLT, Int.reduceLE, Int.reduceGT, Int.reduceGE, hi, h1, c2, h2, c3, hc, hs, wr, natS, hnext]
 · rintro _ L _
   have he : fillR K n = K := by rw [← hkl]; exact fill_end _
   simp (disch := omega) only [ir33p0, stepQ, stepL, eq_self, aBin, reduceIte, Int.reduceEq, Int.reduceLT, Int.reduceLE, Int.reduceGT, Int.reduceGE, Nat.lt_irrefl, he, hno]
end Go.Proofs.YtmjnhmeckloanaaGreatDoor

namespace Go.Proofs.YtmjnhmeckloanaaGreatDoor
open Go Am
set_option maxRecDepth 100000
theorem firstE_all {names : List (List UInt8)} : ∀ {fs : List F}, firstE names fs = 0 ↔ ∀ f ∈ fs, modelsE names f = 0
 | [] => by simp [firstE]
 | f :: l => by
  rw [firstE]
  by_cases h : modelsE names f = 0
  · rw [if_pos h, firstE_all]
    simp [h]
  · rw [if_neg h]
    exact ⟨fun h' => absurd h' h, fun h' => absurd (h' f List.mem_cons_self) h⟩
theorem models_in {names : List (List UInt8)} {f : F} {w : Nat} (h : has (modelsS names f) w) : vocOk names = true → w < 2 ^ names.length := fun hv => by
 unfold modelsS at h
 split at h
 · exact ((has_modN (vocOk_len hv)).1 h).1
 · simp [has] at h
theorem prE_ok {names : List (List UInt8)} {fs : List F} {kind : Int} (h : prE names fs kind = 0) : vocOk names = true ∧ 1 ≤ kind ∧ kind ≤ 4 ∧ fs.length ≤ 8 ∧ Mods (2 ^ names.length) (fs.map (modelsS names)) := by
 unfold prE at h
 cases hv : vocOk names with
 | false => rw [if_pos hv] at h; cases h
 | true =>
  rw [if_neg (by simp [hv])] at h
  split at h
  · cases h
  rename_i hk
  split at h
  · cases h
  rename_i hl
  split at h
  · rename_i h1; exact absurd h h1
  split at h
  · cases h
  rename_i hz
  refine ⟨rfl, by omega, by omega, by omega, fun X hX => ?_⟩
  have hne : X ≠ 0#64 := fun e => by subst e; exact hz (List.contains_iff_mem.2 hX)
  obtain ⟨w, hw⟩ := set_ne hne
  obtain ⟨f, _, rfl⟩ := List.mem_map.1 hX
  exact ⟨w, models_in hw hv, hw⟩
theorem morder_run (names : List (List UInt8)) (hl : names.length < 1000000000) (fs : List F) (hf : ∀ f ∈ fs, f.size < 1000000000) (hfl : fs.length < 1000000000) (kind : Int) :
 run tb 13 [strsD names, .sl (F.encs fs), .int .i64 kind] = some (if prE names fs kind = 0 then [strsD names, numsD (mrgR (2 ^ names.length) (fs.map (modelsS names)) kind), .int .i64 0] else [.sl [], .sl [], .int .i64 (prE names fs kind)]) := by
 refine run_ir (x := ir13) rfl ?_
 have h1 := mprofile_run names hl fs hf hfl kind
 by_cases c : prE names fs kind = 0
 · obtain ⟨hv, k1, k4, h8, hm⟩ := prE_ok c
   rw [if_pos c, c] at h1
   have h2 := mranked_run names hv (fs.map (modelsS names)) hm (by rw [List.length_map]; exact h8) kind
   rw [if_pos c]
   simp (disch := omega) only [ir13, stepQ, stepL, eq_self, aBin, reduceIte, Int.reduceEq, Int.reduceLT, Int.reduceLE, Int.reduceGT, Int.reduceGE, h1, ibne, h2]
 · rw [if_neg c] at h1 ⊢
   simp (disch := omega) only [ir13, stepQ, stepL, eq_self, aBin, reduceIte, Int.reduceEq, Int.reduceLT, Int.reduceLE, Int.reduceGT, Int.reduceGE, h1, ibne, c]
def mgE (names : List (List UInt8)) (fs : List F) (c : F) (kind : Int) : Int := if prE names fs kind ≠ 0 then prE names fs kind else modelsE names c
def mgA (names : List (List UInt8)) (fs : List F) (c : F) (kind : Int) : BitVec 64 := if mgE names fs c kind = 0 then leastS names (mrgR (2 ^ names.length) (fs.map (modelsS names)) kind) (modelsS names c) else 0#64
theorem mmerge_run (names : List (List UInt8)) (hl : names.length < 1000000000) (fs : List F) (hf : ∀ f ∈ fs, f.size < 1000000000) (hfl : fs.length < 1000000000) (c : F) (hc : c.size < 1000000000) (kind : Int) :
 run tb 14 [strsD names, .sl (F.encs fs), .int .i64 c.op, .str c.name, .sl (F.encs c.args), .int .i64 kind] = some [bvD (mgA names fs c kind), .int .i64 (mgE names fs c kind)] := by
 refine run_ir (x := ir14) rfl ?_
 have h1 := morder_run names hl fs hf hfl kind
 have h2 := modelsW_run names c hl hc
 simp only [rowF] at h2
 unfold mgA
 by_cases c1 : prE names fs kind = 0
 · have e : mgE names fs c kind = modelsE names c := by unfold mgE; rw [if_neg (by simp [c1])]
   rw [if_pos c1] at h1
   rw [e]
   by_cases c2 : modelsE names c = 0
   · have hle := prE_ok c1
     have h6 := vocOk_len hle.1
     have h64 := pow6 h6
     have h3 := leastO_run names (mrgR (2 ^ names.length) (fs.map (modelsS names)) kind) hl (by unfold mrgR; rw [norm_len, scoL_len]; omega) (modelsS names c)
     rw [c2] at h2
     rw [c2, if_pos rfl]
     simp (disch := omega) only [ir14, stepQ, stepL, eq_self, aBin, reduceIte, Int.reduceEq, Int.reduceLT, Int.reduceLE, Int.reduceGT, Int.reduceGE, h1, ibne, h2, h3]
   · rw [if_neg c2]
     simp (disch := omega) only [ir14, stepQ, stepL, eq_self, aBin, reduceIte, Int.reduceEq, Int.reduceLT, Int.reduceLE, Int.reduceGT, Int.reduceGE, bvQ, wu, shl_norm, shr_norm, and1_norm, h1, ibne, h2, c2]
 · have e : mgE names fs c kind = prE names fs kind := by unfold mgE; rw [if_pos c1]
   rw [if_neg c1] at h1
   rw [e, if_neg c1]
   simp (disch := omega) only [ir14, stepQ, stepL, eq_self, aBin, reduceIte, Int.reduceEq, Int.reduceLT, Int.reduceLE, Int.reduceGT, Int.reduceGE, bvQ, wu, shl_norm, shr_norm, and1_norm, h1, ibne, c1]
end Go.Proofs.YtmjnhmeckloanaaGreatDoor
