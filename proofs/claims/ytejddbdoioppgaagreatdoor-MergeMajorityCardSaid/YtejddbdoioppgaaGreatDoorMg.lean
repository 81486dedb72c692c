/- Plain programs of the functions of the program and lemmas about what they compute. -/
import Derived.Test.YtejddbdoioppgaaGreatDoorWd
import Derived.Test.YtejddbdoioppgaaGreatDoorOd
import Derived.Test.YtejddbdoioppgaaGreatDoorTz
import Derived.Test.YtejddbdoioppgaaGreatDoorAm6
set_option linter.unusedSimpArgs false
set_option linter.unusedVariables false
set_option linter.unusedSectionVars false
namespace Go.Proofs.YtejddbdoioppgaaGreatDoor
open Go Am
set_option maxRecDepth 100000
set_option linter.unusedSimpArgs false
set_option linter.unusedVariables false
theorem tzX_run (x : BitVec 64) : run tb 74 [bvD x] = some [.int .i64 (low x)] := run_ext rfl (tzE_run x)
theorem app_N1 {l : List Int} {a : Int} (h : l.length + 1 ≤ 1000000) : PO.eval (.app 1 8) [numsD l, .sl [[.int .i64 a]]] = some [numsD (l ++ [a])] := by
 unfold numsD
 rw [ev_app (by simp; omega) (by simp; omega) (by simp [numR])]
 simp [numR]
def natL (l : List Nat) : List Int := l.map fun (n : Nat) => (n : Int)
theorem worlds_run (voc : List (List UInt8)) (X : BitVec 64) (hl : voc.length < 1000000000) : run tb 65 [strsD voc, bvD X] = some [numsD (natL (worldsTo (X &&& allS voc) 64))] := by
 refine run_ir (x := ir65) rfl ?_
 have h1 := all_run voc hl
 simp (disch := omega) only [ir65, stepQ, stepL, eq_self, aBin, reduceIte, Int.reduceEq, Int.reduceLT, Int.reduceLE, Int.reduceGT, Int.reduceGE, bvQ, wu, shl_norm, shr_norm, and1_norm, h1]
 generalize X &&& allS voc = Y
 have h0 : from_ Y 0 = Y := from_zero Y
 show loopQ _ _ _ _ [bvD Y, numsD (natL (worldsTo Y 0))] = _
 rw [← h0]
 conv => rhs; rw [h0]
 conv => lhs; rw [show worldsTo (from_ Y 0) 0 = worldsTo Y 0 from rfl]
 refine loop_km (ι := Nat) (fun a => 64 - a) (fun a => a ≤ 64) (fun a => [bvD (from_ Y a), numsD (natL (worldsTo Y a))]) (fun _ => [numsD (natL (worldsTo Y 64))]) ?_ 0 (by omega)
 rintro a L ha hL
 by_cases hz : from_ Y a = 0#64
 · have hd := from_done Y a ha hz
   simp (disch := omega) only [ir65p0, stepQ, stepL, eq_self, aBin, reduceIte, Int.reduceEq, Int.reduceLT, Int.reduceLE, Int.reduceGT, Int.reduceGE, bvQ, wu, shl_norm, shr_norm, and1_norm, hz, hd]
 · obtain ⟨n1, n2, n3, n4⟩ := from_next Y a hz
   have ht := tzX_run (from_ Y a)
   have hnext := hL (low (from_ Y a) + 1) (by show _ ≤ 64; omega) (by show 64 - (low (from_ Y a) + 1) < 64 - a; omega)
   rw [n4] at hnext
   have hlen : (natL (worldsTo Y a)).length + 1 ≤ 1000000 := by
    have := worldsTo_len Y a
    simp only [natL, List.length_map]; omega
   have happ := app_N1 (a := (low (from_ Y a) : Int)) hlen
   have hnl : natL (worldsTo Y a ++ [low (from_ Y a)]) = natL (worldsTo Y a) ++ [(low (from_ Y a) : Int)] := by simp [natL]
   rw [hnl] at hnext
   simp (disch := omega) only [ir65p0, stepQ, stepL, eq_self, aBin, reduceIte, Int.reduceEq, Int.reduceLT, Int.reduceLE, Int.reduceGT, Int.reduceGE, bvQ, wu, shl_norm, shr_norm, and1_norm, hz, ht, happ, n3, hnext]
theorem differ_run (v w : Int) : run tb 75 [.int .i64 v, .int .i64 w] = some [bvD (dif v w)] := by
 refine run_ir (x := ir75) rfl ?_
 have l63 : D.int .u64 63 = bvD 63#64 := rfl
 simp (disch := omega) only [ir75, stepQ, stepL, eq_self, aBin, reduceIte, Int.reduceEq, Int.reduceLT, Int.reduceLE, Int.reduceGT, Int.reduceGE, bvQ, wu, shl_norm, shr_norm, and1_norm, l63]
 rw [ofInt_wrap]
 exact congrArg (fun x => some [bvD (x &&& 63#64)]) (ofIntU (BitVec.ofInt 64 v ^^^ BitVec.ofInt 64 w))
theorem distance_run (v w : Int) : run tb 66 [.int .i64 v, .int .i64 w] = some [.int .i64 (ones (dif v w) 64)] := by
 refine run_ir (x := ir66) rfl ?_
 have h1 := differ_run v w
 have h2 := ones_run (dif v w)
 simp (disch := omega) only [ir66, stepQ, stepL, eq_self, aBin, reduceIte, Int.reduceEq, Int.reduceLT, Int.reduceLE, Int.reduceGT, Int.reduceGE, h1, h2]
theorem row_nat {l : List Nat} {i : Nat} (h : i < l.length) : PO.eval (.row 1) [numsD (natL l), .int .i64 i] = some [.int .i64 (l[i] : Nat)] := by
 have h1 : i < (natL l).length := by simpa [natL] using h
 have := row_N h1
 rw [this]; simp [natL]
theorem len_nat (l : List Nat) : PO.eval .lenL [numsD (natL l)] = some [.int .i64 l.length] := by rw [len_N]; simp [natL]
end Go.Proofs.YtejddbdoioppgaaGreatDoor

namespace Go.Proofs.YtejddbdoioppgaaGreatDoor
open Go Am
set_option maxRecDepth 100000
set_option linter.unusedSimpArgs false
set_option linter.unusedVariables false
def idxZ (x : BitVec 64) : Nat → List (BitVec 64) → Int
 | _, [] => -1
 | k, y :: l => if x = y then (k : Int) else idxZ x (k + 1) l
theorem idxZ_ge (x : BitVec 64) : ∀ (k : Nat) (l : List (BitVec 64)), decide (idxZ x k l ≥ 0) = l.contains x
 | k, [] => rfl
 | k, y :: l => by
  rw [idxZ, List.contains_cons]
  by_cases h : x = y
  · rw [if_pos h, h]; simp
  · rw [if_neg h, idxZ_ge x (k + 1) l]
    have : (x == y) = false := by simpa using h
    rw [this, Bool.false_or]
theorem indexZ_run (l : List (BitVec 64)) (x : BitVec 64) (hl : l.length < 1000000000) : run tb 57 [bvsD l, bvD x] = some [.int .i64 (idxZ x 0 l)] := by
 refine run_ir (x := ir57) rfl ?_
 simp (disch := omega) only [ir57, stepQ, stepL, eq_self, aBin, reduceIte, Int.reduceEq, Int.reduceLT, Int.reduceLE, Int.reduceGT, Int.reduceGE, len_V]
 rw [show idxZ x 0 l = idxZ x 0 (l.drop 0) from rfl]
 refine loop_k (σ := Unit) l.length (fun _ _ => True) (fun i _ => [.int .i64 i]) (fun i _ => [.int .i64 (idxZ x i (l.drop i))]) ?_ ?_ 0 () (Nat.zero_le _) trivial
 · rintro i _ L hi _ hL
   have hnext := hL () trivial
   have hr := row_V hi
   rw [drop_s hi, idxZ]
   by_cases hx : x = l[i]
   · rw [if_pos hx]
     simp (disch := omega) only [ir57p0, stepQ, stepL, eq_self, aBin, reduceIte, Int.reduceEq, Int.reduceLT, Int.reduceLE, Int.reduceGT, Int.reduceGE, bvQ, wu, shl_norm, shr_norm, and1_norm, hi, hr, eq_true hx]
   · rw [if_neg hx]
     simp (disch := omega) only [ir57p0, stepQ, stepL, eq_self, aBin, reduceIte, Int.reduceEq, Int.reduceLT, Int.reduceLE, Int.reduceGT, Int.reduceGE, bvQ, wu, shl_norm, shr_norm, and1_norm, hi, hr, hx, wr, natS, hnext]
 · rintro _ L _
   rw [List.drop_length]
   simp (disch := omega) only [ir57p0, stepQ, stepL, eq_self, aBin, reduceIte, Int.reduceEq, Int.reduceLT, Int.reduceLE, Int.reduceGT, Int.reduceGE, Nat.lt_irrefl, idxZ]
theorem containsZ_run (l : List (BitVec 64)) (x : BitVec 64) (hl : l.length < 1000000000) : run tb 40 [bvsD l, bvD x] = some [.bool (l.contains x)] := by
 refine run_ir (x := ir40) rfl ?_
 have h := indexZ_run l x hl
 rw [← idxZ_ge x 0 l]
 simp (disch := omega) only [ir40, stepQ, stepL, eq_self, aBin, reduceIte, Int.reduceEq, Int.reduceLT, Int.reduceLE, Int.reduceGT, Int.reduceGE, h]
def firstE (names : List (List UInt8)) : List F → Int
 | [] => 0
 | f :: l => if modelsE names f = 0 then firstE names l else modelsE names f
def prE (names : List (List UInt8)) (fs : List F) (kind : Int) : Int :=
 if vocOk names = false then 1 else if kind < 1 ∨ kind > 4 then 4 else if fs.length > 8 then 2 else if firstE names fs ≠ 0 then firstE names fs else if (fs.map (modelsS names)).contains 0#64 = true then 7 else 0
theorem app_V1 {l : List (BitVec 64)} {a : BitVec 64} (h : l.length + 1 ≤ 1000000) : PO.eval (.app 1 8) [bvsD l, .sl [[bvD a]]] = some [bvsD (l ++ [a])] := by
 unfold bvsD
 rw [ev_app (by simp; omega) (by simp; omega) (by simp)]
 simp
theorem row_Fq {l : List F} {i : Nat} (h : i < l.length) : PO.eval (.row 3) [.sl (F.encs l), .int .i64 i] = some [.int .i64 l[i].op, .str l[i].name, .sl (F.encs l[i].args)] := row_F h
theorem mprofile_run (names : List (List UInt8)) (hl : names.length < 1000000000) (fs : List F) (hf : ∀ f ∈ fs, f.size < 1000000000) (hfl : fs.length < 1000000000) (kind : Int) :
 run tb 27 [strsD names, .sl (F.encs fs), .int .i64 kind] = some [if prE names fs kind = 0 then bvsD (fs.map (modelsS names)) else .sl [], .int .i64 (prE names fs kind)] := by
 refine run_ir (x := ir27) rfl ?_
 have h1 := valid_run names hl
 cases hv : vocOk names with
 | false =>
  rw [hv] at h1
  have e : prE names fs kind = 1 := by unfold prE; rw [if_pos hv]
  rw [e, if_neg (by decide)]
  simp (disch := omega) only [ir27, stepQ, stepL, eq_self, aBin, reduceIte, Int.reduceEq, Int.reduceLT, Int.reduceLE, Int.reduceGT, Int.reduceGE, h1]
 | true =>
 rw [hv] at h1
 by_cases c1 : kind < 1
 · have e : prE names fs kind = 4 := by unfold prE; rw [if_neg (by simp [hv]), if_pos (.inl c1)]
   rw [e, if_neg (by decide)]
   simp (disch := omega) only [ir27, ir27p1, stepQ, stepL, eq_self, aBin, reduceIte, Int.reduceEq, Int.reduceLT, Int.reduceLE, Int.reduceGT, Int.reduceGE, h1, c1]
 by_cases c2 : kind > 4
 · have e : prE names fs kind = 4 := by unfold prE; rw [if_neg (by simp [hv]), if_pos (.inr c2)]
   rw [e, if_neg (by decide)]
   simp (disch := omega) only [ir27, ir27p1, stepQ, stepL, eq_self, aBin, reduceIte, Int.reduceEq, Int.reduceLT, Int.reduceLE, Int.reduceGT, Int.reduceGE, h1, c1, c2]
 by_cases c3 : fs.length > 8
 · have e : prE names fs kind = 2 := by unfold prE; rw [if_neg (by simp [hv]), if_neg (by omega), if_pos c3]
   have c3' : (fs.length : Int) > 8 := by omega
   rw [e, if_neg (by decide)]
   simp (disch := omega) only [ir27, ir27p1, stepQ, stepL, eq_self, aBin, reduceIte, Int.reduceEq, Int.reduceLT, Int.reduceLE, Int.reduceGT, Int.reduceGE, h1, c1, c2, len_F, c3']
 have c3' : ¬ (fs.length : Int) > 8 := by omega
 have e : prE names fs kind = if firstE names fs ≠ 0 then firstE names fs else if (fs.map (modelsS names)).contains 0#64 = true then 7 else 0 := by unfold prE; rw [if_neg (by simp [hv]), if_neg (by omega), if_neg c3]
 rw [e]
 simp (disch := omega) only [ir27, ir27p1, stepQ, stepL, eq_self, aBin, reduceIte, Int.reduceEq, Int.reduceLT, Int.reduceLE, Int.reduceGT, Int.reduceGE, h1, c1, c2, len_F, c3']
 show loopQ _ _ _ _ [.int .i64 ((0 : Nat) : Int), bvsD ((fs.take 0).map (modelsS names))] = _
 have hd0 : firstE names fs = firstE names (fs.drop 0) := by simp
 rw [hd0]
 refine loop_k (σ := Unit) fs.length (fun _ _ => True) (fun i _ => [.int .i64 i, bvsD ((fs.take i).map (modelsS names))])
  (fun i _ => [if (if firstE names (fs.drop i) ≠ 0 then firstE names (fs.drop i) else if (fs.map (modelsS names)).contains 0#64 = true then 7 else 0) = 0 then bvsD (fs.map (modelsS names)) else .sl [], .int .i64 (if firstE names (fs.drop i) ≠ 0 then firstE names (fs.drop i) else if (fs.map (modelsS names)).contains 0#64 = true then 7 else 0)]) ?_ ?_ 0 () (Nat.zero_le _) trivial
 · rintro i _ L hi _ hL
   have hnext := hL () trivial
   have hr := row_Fq hi
   have hm := modelsW_run names fs[i] hl (hf _ (List.getElem_mem hi))
   simp only [rowF] at hm
   rw [drop_s hi, firstE]
   by_cases c : modelsE names fs[i] = 0
   · rw [if_pos c]
     rw [c] at hm
     have htk : (fs.take (i + 1)).map (modelsS names) = (fs.take i).map (modelsS names) ++ [modelsS names fs[i]] := by
      rw [List.take_add_one, List.getElem?_eq_getElem hi, List.map_append]; rfl
     rw [htk] at hnext
     have happ := app_V1 (l := (fs.take i).map (modelsS names)) (a := modelsS names fs[i]) (by rw [List.length_map, List.length_take]; omega)
     simp (disch := omega) only [ir27p0, stepQ, stepL, eq_self, aBin, reduceIte, Int.reduceEq, Int.reduceLT, Int.reduceLE, Int.reduceGT, Int.reduceGE, hi, hr, hm, ibne, happ, wr, natS, hnext]
   · rw [if_neg c, if_pos c, if_neg c]
     simp (disch := omega) only [ir27p0, stepQ, stepL, eq_self, aBin, reduceIte, Int.reduceEq, Int.reduceLT, Int.reduceLE, Int.reduceGT, Int.reduceGE, hi, hr, hm, ibne, c]
 · rintro _ L _
   rw [List.take_length, List.drop_length]
   have hc := containsZ_run (fs.map (modelsS names)) 0#64 (by rw [List.length_map]; exact hfl)
   cases hz : (fs.map (modelsS names)).contains 0#64 with
   | true =>
    rw [hz] at hc
    simp (disch := omega) only [ir27p0, stepQ, stepL, eq_self, aBin, reduceIte, Int.reduceEq, Int.reduceLT, Int.reduceLE, Int.reduceGT, Int.reduceGE, bvQ, wu, shl_norm, shr_norm, and1_norm, Nat.lt_irrefl, hc, callQ_tb, firstE, ne_eq, not_true_eq_false, if_false, if_true, Int.reduceEq]
   | false =>
    rw [hz] at hc
    simp (disch := omega) only [ir27p0, stepQ, stepL, eq_self, aBin, reduceIte, Int.reduceEq, Int.reduceLT, Int.reduceLE, Int.reduceGT, Int.reduceGE, bvQ, wu, shl_norm, shr_norm, and1_norm, Nat.lt_irrefl, hc, callQ_tb, firstE, ne_eq, not_true_eq_false, if_false, if_true, Int.reduceEq, Bool.false_eq_true]
def dsT (kind : Int) (w : Nat) (l : List Nat) : Nat := l.foldl (fun (m v : Nat) => min m (if kind = 4 then min (ones (dif v w) 64) 1 else ones (dif v w) 64)) 7
theorem dsT_snoc (kind : Int) (w : Nat) (l : List Nat) (v : Nat) : dsT kind w (l ++ [v]) = min (dsT kind w l) (if kind = 4 then min (ones (dif v w) 64) 1 else ones (dif v w) 64) := by simp [dsT]
theorem dsT_le (kind : Int) (w : Nat) (l : List Nat) : dsT kind w l ≤ 7 := by
 have : ∀ (l : List Nat) (a : Nat), l.foldl (fun (m v : Nat) => min m (if kind = 4 then min (ones (dif v w) 64) 1 else ones (dif v w) 64)) a ≤ a := by
  intro l
  induction l with
  | nil => intro a; exact Nat.le_refl _
  | cons v l ih => intro a; simp only [List.foldl_cons]; exact Nat.le_trans (ih _) (Nat.min_le_left _ _)
 exact this l 7
theorem dsT_ent (kind : Int) (w : Nat) {l : List Nat} (h : l ≠ []) : (dsT kind w l : Int) = entS kind (dsL w l) := by
 unfold entS
 by_cases hk : kind = 4
 · subst hk
   simp only [if_true]
   have : ∀ (l : List Nat) (a b : Nat), min a 1 = min b 1 → min (l.foldl (fun (m v : Nat) => min m (if (4 : Int) = 4 then min (ones (dif v w) 64) 1 else ones (dif v w) 64)) a) 1 = min (l.foldl (fun (m v : Nat) => min m (ones (dif v w) 64)) b) 1 := by
    intro l
    induction l with
    | nil => intro a b h; exact h
    | cons v l ih => intro a b h; simp only [List.foldl_cons, if_true]; exact ih _ _ (by omega)
   have h1 := this l 7 7 rfl
   have h2 : dsT 4 w l ≤ 1 := by
    obtain ⟨v, l, rfl⟩ := List.exists_cons_of_ne_nil h
    have h3 : ∀ (l : List Nat) (a : Nat), l.foldl (fun (m v : Nat) => min m (if (4 : Int) = 4 then min (ones (dif v w) 64) 1 else ones (dif v w) 64)) a ≤ a := by
     intro l
     induction l with
     | nil => intro a; exact Nat.le_refl _
     | cons v l ih => intro a; simp only [List.foldl_cons]; exact Nat.le_trans (ih _) (Nat.min_le_left _ _)
    have := h3 l (min 7 (min (ones (dif v w) 64) 1))
    unfold dsT
    simp only [List.foldl_cons, if_true] at this ⊢
    omega
   have h4 : min (dsT 4 w l) 1 = min (dsL w l) 1 := h1
   omega
 · simp only [hk, if_false]; unfold dsT dsL; simp only [hk, if_false]
theorem mdistance_run (names : List (List UInt8)) (hv : vocOk names = true) (X : BitVec 64) (hX : ∃ u, u < 2 ^ names.length ∧ has X u) (w : Nat) (kind : Int) :
 run tb 43 [strsD names, bvD X, .int .i64 w, .int .i64 kind] = some [.int .i64 (entS kind (dsS (2 ^ names.length) X w))] := by
 refine run_ir (x := ir43) rfl ?_
 have h6 := vocOk_len hv
 have h1 := worlds_run names X (by omega)
 have hal : allS names = alW names.length := by unfold allS; rw [if_pos hv]
 rw [hal, worlds_all h6] at h1
 obtain ⟨u, hu, hxu⟩ := hX
 have hne : worldsTo X (2 ^ names.length) ≠ [] := fun h => by
  have := (mem_worldsTo (X := X) (n := 2 ^ names.length)).2 ⟨hu, hxu⟩
  rw [h] at this; cases this
 unfold dsS
 rw [← dsT_ent kind w hne]
 clear hne
 have hlen := worldsTo_len X (2 ^ names.length)
 have h64 := pow6 h6
 generalize worldsTo X (2 ^ names.length) = l at *
 simp (disch := omega) only [ir43, stepQ, stepL, eq_self, aBin, reduceIte, Int.reduceEq, Int.reduceLT, Int.reduceLE, Int.reduceGT, Int.reduceGE, h1, callQ_N, len_nat]
 show loopQ _ _ _ _ [.int .i64 ((dsT kind w (l.take 0) : Nat) : Int), .int .i64 ((0 : Nat) : Int)] = _
 refine loop_k (σ := Unit) l.length (fun _ _ => True) (fun i _ => [.int .i64 ((dsT kind w (l.take i) : Nat) : Int), .int .i64 i]) (fun _ _ => [.int .i64 ((dsT kind w l : Nat) : Int)]) ?_ ?_ 0 () (Nat.zero_le _) trivial
 · rintro i _ L hi _ hL
   have hnext := hL () trivial
   have hr := row_nat hi
   have hd := distance_run (l[i] : Nat) w
   rw [List.take_add_one, List.getElem?_eq_getElem hi, Option.toList_some, dsT_snoc] at hnext
   have hle := dsT_le kind w (l.take i)
   generalize dsT kind w (l.take i) = T at *
   generalize ones (dif (l[i] : Nat) w) 64 = o at *
   by_cases hk : kind = 4
   · subst hk
     simp only [if_true] at hnext
     have e1 : (if (1 : Int) < (o : Int) then (1 : Int) else (o : Int)) = ((min o 1 : Nat) : Int) := by split <;> omega
     have e2 : (if min o 1 < T then ((min o 1 : Nat) : Int) else (T : Int)) = ((min T (min o 1) : Nat) : Int) := by split <;> omega
     simp (disch := omega) only [ir43p1, ir43p0, stepQ, stepL, eq_self, aBin, reduceIte, Int.reduceEq, Int.reduceLT, Int.reduceLE, Int.reduceGT, Int.reduceGE, hi, hr, hd, ev_min, e1, e2, wr, natS, hnext]
   · simp only [hk, if_false] at hnext
     have e2 : (if o < T then ((o : Nat) : Int) else (T : Int)) = ((min T o : Nat) : Int) := by split <;> omega
     simp (disch := omega) only [ir43p1, ir43p0, stepQ, stepL, eq_self, aBin, reduceIte, Int.reduceEq, Int.reduceLT, Int.reduceLE, Int.reduceGT, Int.reduceGE, hi, hr, hd, hk, ev_min, e2, wr, natS, hnext]
 · rintro _ L _
   rw [List.take_length]
   simp (disch := omega) only [ir43p1, stepQ, stepL, eq_self, aBin, reduceIte, Int.reduceEq, Int.reduceLT, Int.reduceLE, Int.reduceGT, Int.reduceGE, Nat.lt_irrefl]
theorem mvector_run (names : List (List UInt8)) (hv : vocOk names = true) (ms : List (BitVec 64)) (hm : Mods (2 ^ names.length) ms) (h8 : ms.length ≤ 1000) (w : Nat) (kind : Int) :
 run tb 30 [strsD names, bvsD ms, .int .i64 w, .int .i64 kind] = some [numsD (vecS (2 ^ names.length) ms kind w)] := by
 refine run_ir (x := ir30) rfl ?_
 simp (disch := omega) only [ir30, stepQ, stepL, eq_self, aBin, reduceIte, Int.reduceEq, Int.reduceLT, Int.reduceLE, Int.reduceGT, Int.reduceGE, len_V]
 show loopQ _ _ _ _ [.int .i64 ((0 : Nat) : Int), numsD (vecS (2 ^ names.length) (ms.take 0) kind w)] = _
 refine loop_k (σ := Unit) ms.length (fun _ _ => True) (fun i _ => [.int .i64 i, numsD (vecS (2 ^ names.length) (ms.take i) kind w)]) (fun _ _ => [numsD (vecS (2 ^ names.length) ms kind w)]) ?_ ?_ 0 () (Nat.zero_le _) trivial
 · rintro i _ L hi _ hL
   have hnext := hL () trivial
   have hr := row_V hi
   have hd := mdistance_run names hv ms[i] (hm _ (List.getElem_mem hi)) w kind
   have htk : vecS (2 ^ names.length) (ms.take (i + 1)) kind w = vecS (2 ^ names.length) (ms.take i) kind w ++ [entS kind (dsS (2 ^ names.length) ms[i] w)] := by
    unfold vecS
    rw [List.take_add_one, List.getElem?_eq_getElem hi, List.map_append]; rfl
   rw [htk] at hnext
   have happ := app_N1 (l := vecS (2 ^ names.length) (ms.take i) kind w) (a := entS kind (dsS (2 ^ names.length) ms[i] w)) (by rw [vec_len, List.length_take]; omega)
   simp (disch := omega) only [ir30p0, stepQ, stepL, eq_self, aBin, reduceIte, Int.reduceEq, Int.reduceLT, Int.reduceLE, Int.reduceGT, Int.reduceGE, hi, hr, hd, happ, wr, natS, hnext]
 · rintro _ L _
   rw [List.take_length]
   simp (disch := omega) only [ir30p0, stepQ, stepL, eq_self, aBin, reduceIte, Int.reduceEq, Int.reduceLT, Int.reduceLE, Int.reduceGT, Int.reduceGE, Nat.lt_irrefl]
def keyT (kind : Int) (v : List Int) : Int := if kind = 3 then mxF v else if kind = 2 then baseF v else sumF id v
theorem keyT_snoc (kind : Int) (v : List Int) (d : Int) : keyT kind (v ++ [d]) = if kind = 3 then (if d > keyT kind v then d else keyT kind v) else if kind = 2 then keyT kind v * 7 + d else keyT kind v + d := by
 unfold keyT
 split
 · simp [mxF]
 split
 · simp [baseF]
 · simp [sumF]
theorem keyT_bound (kind : Int) {v : List Int} (hd : Dig v) (h8 : v.length ≤ 8) : 0 ≤ keyT kind v ∧ keyT kind v < 5764801 := by
 unfold keyT
 split
 · have h1 := mxF_nn v
   have h2 : mxF v ≤ 6 := by
    clear h1
    induction v with
    | nil => simp [mxF]
    | cons x v ih =>
     rw [mxF_cons]
     have := ih (fun y hy => hd y (List.mem_cons_of_mem _ hy)) (by simp at h8; omega)
     have := hd x List.mem_cons_self
     omega
   omega
 split
 · have h := baseF_bound hd
   have hp : (7 : Int) ^ v.length ≤ 7 ^ 8 := by exact_mod_cast Nat.pow_le_pow_right (by omega : 0 < 7) h8
   have : (7 : Int) ^ 8 = 5764801 := by decide
   omega
 · have h1 := sumF_nn (f := id) (v := v) fun x hx => (hd x hx).1
   have h2 := sumF_bound (f := id) (c := 6) (v := v) fun x hx => (hd x hx).2
   omega
theorem mkey_run (kind : Int) (v : List Int) (hd : Dig v) (h8 : v.length ≤ 8) : run tb 41 [.int .i64 kind, numsD v] = some [.int .i64 (keyS kind v), numsD (descI v)] := by
 refine run_ir (x := ir41) rfl ?_
 have h1 : run tb 58 [numsD v] = some [numsD (sortI v)] := run_ext rfl (by rw [show ext58 = sortE from rfl, sortE, fun1_run, if_pos (by omega)])
 have h2 : run tb 59 [numsD (sortI v)] = some [numsD (descI v)] := run_ext rfl (by rw [show ext59 = revE from rfl, revE, fun1_run, if_pos (by rw [sortI_len]; omega)]; rfl)
 have hl : (descI v).length = v.length := (descI_perm v).length_eq
 have hk : keyS kind v = keyT kind (descI v) := rfl
 have hdd : Dig (descI v) := fun x hx => hd x ((descI_perm v).mem_iff.1 hx)
 rw [hk]
 have c1 : ∀ (l : List Int) k e J, callQ (run tb) 1 false [0] k e J (some [numsD l]) = den (run tb) k (e ++ [numsD l]) J := fun l k e J => rfl
 generalize descI v = z at *
 simp (disch := omega) only [ir41, stepQ, stepL, eq_self, aBin, reduceIte, Int.reduceEq, Int.reduceLT, Int.reduceLE, Int.reduceGT, Int.reduceGE, h1, h2, c1, len_N]
 have hz : keyT kind (z.take 0) = 0 := by simp [keyT, mxF, baseF, sumF]
 show loopQ _ _ _ _ ([D.int .i64 0] ++ [.int .i64 ((0 : Nat) : Int)]) = _
 rw [show ([D.int .i64 0] : List D) = [D.int .i64 (keyT kind (z.take 0))] by rw [hz]]
 refine loop_k (σ := Unit) z.length (fun _ _ => True) (fun i _ => [.int .i64 (keyT kind (z.take i)), .int .i64 i]) (fun _ _ => [.int .i64 (keyT kind z), numsD z]) ?_ ?_ 0 () (Nat.zero_le _) trivial
 · rintro i _ L hi _ hL
   have hnext := hL () trivial
   have hg := get_N hi
   have hc := chk_N hi
   rw [List.take_add_one, List.getElem?_eq_getElem hi, Option.toList_some, keyT_snoc] at hnext
   obtain ⟨b1, b2⟩ := keyT_bound kind (v := z.take i) (fun x hx => hdd x (List.mem_of_mem_take hx)) (by rw [List.length_take]; omega)
   obtain ⟨d1, d2⟩ := hdd z[i] (List.getElem_mem hi)
   generalize keyT kind (z.take i) = T at *
   generalize z[i] = d at *
   by_cases k3 : kind = 3
   · rw [if_pos k3] at hnext
     simp (disch := omega) only [ir41p1, ir41p0, stepQ, stepL, eq_self, aBin, reduceIte, Int.reduceEq, Int.reduceLT, Int.reduceLE, Int.reduceGT, Int.reduceGE, hi, hg, hc, k3, ev_max, wr, natS, hnext]
   rw [if_neg k3] at hnext
   by_cases k2 : kind = 2
   · rw [if_pos k2] at hnext
     simp (disch := omega) only [ir41p1, ir41p0, stepQ, stepL, eq_self, aBin, reduceIte, Int.reduceEq, Int.reduceLT, Int.reduceLE, Int.reduceGT, Int.reduceGE, hi, hg, hc, k3, k2, wr, natS, hnext]
   · rw [if_neg k2] at hnext
     simp (disch := omega) only [ir41p1, ir41p0, stepQ, stepL, eq_self, aBin, reduceIte, Int.reduceEq, Int.reduceLT, Int.reduceLE, Int.reduceGT, Int.reduceGE, hi, hg, hc, k3, k2, wr, natS, hnext]
 · rintro _ L _
   rw [List.take_length]
   simp (disch := omega) only [ir41p1, stepQ, stepL, eq_self, aBin, reduceIte, Int.reduceEq, Int.reduceLT, Int.reduceLE, Int.reduceGT, Int.reduceGE, Nat.lt_irrefl]
theorem mranked_run (names : List (List UInt8)) (hv : vocOk names = true) (ms : List (BitVec 64)) (hm : Mods (2 ^ names.length) ms) (h8 : ms.length ≤ 8) (kind : Int) :
 run tb 28 [strsD names, bvsD ms, .int .i64 kind] = some [strsD names, numsD (mrgR (2 ^ names.length) ms kind), .int .i64 0] := by
 refine run_ir (x := ir28) rfl ?_
 have h6 := vocOk_len hv
 have h64 := pow6 h6
 have hkl : (keysL (2 ^ names.length) ms kind).length = 2 ^ names.length := by simp [keysL]
 have hno := normal_run names (keysL (2 ^ names.length) ms kind) (by omega) (by omega)
 rw [if_pos (by simp [normE, hv, hkl]), keys_norm hm h8] at hno
 have hmkN := mkN (n := 2 ^ names.length) (by omega)
 rw [← hkl, fill_zero, hkl] at hmkN
 have hV := fun w : Nat => mvector_run names hv ms hm (by omega) w kind
 have hK := fun w : Nat => mkey_run kind (vecS (2 ^ names.length) ms kind w) (vec_dig hm kind w) (by rw [vec_len]; exact h8)
 have hG := fun (w : Nat) (h : w < 2 ^ names.length) => keysL_get ms kind h
 show den _ _ _ _ = some [strsD names, numsD (normS (scoL (2 ^ names.length) ms kind)), .int .i64 0]
 simp (disch := omega) only [ir28, stepQ, stepL, eq_self, aBin, reduceIte, Int.reduceEq, Int.reduceLT, Int.reduceLE, Int.reduceGT, Int.reduceGE, shl_norm, nat_nn, len_S, hmkN]
 generalize normS (scoL (2 ^ names.length) ms kind) = R at *
 generalize hN : 2 ^ names.length = n at *
 generalize keysL n ms kind = K at *
 have hfl : ∀ i, (fillR K i).length = n := fun i => by simp [fillR, hkl]
 have hl3 : PO.eval .lenL [numsD (fillR K 0)] = some [.int .i64 n] := by rw [len_N, hfl]
 have c2 : ∀ (l : List Int) k e J, callQ (run tb) 1 false [0] k e J (some [numsD l]) = den (run tb) k (e ++ [numsD l]) J := fun l k e J => rfl
 have c3 : ∀ (x : Int) (l : List Int) k e J, callQ (run tb) 2 false [1] k e J (some [.int .i64 x, numsD l]) = den (run tb) k (e ++ [.int .i64 x, numsD l]) J := fun x l k e J => rfl
 simp (disch := omega) only [stepQ, stepL, eq_self, aBin, reduceIte, Int.reduceEq, Int.reduceLT, Int.reduceLE, Int.reduceGT, Int.reduceGE, hl3]
 refine loop_k (σ := Unit) n (fun _ _ => True) (fun i _ => [.int .i64 i, numsD (fillR K i)]) (fun _ _ => [strsD names, numsD R, .int .i64 0]) ?_ ?_ 0 () (Nat.zero_le _) trivial
 · rintro i _ L hi _ hL
   have hnext := hL () trivial
   rw [← fill_succ (by omega), hG i hi] at hnext
   have hc := chk_N (l := fillR K i) (i := i) (by rw [hfl]; exact hi)
   have hs := set_N (l := fillR K i) (i := i) (by rw [hfl]; exact hi) (keyS kind (vecS n ms kind i))
   have h1 := hV i
   have h2 := hK i
   simp (disch := omega) only [ir28p0, stepQ, stepL, eq_self, aBin, reduceIte, Int.reduceEq, Int.reduceLT, Int.reduceLE, Int.reduceGT, Int.reduceGE, hi, h1, c2, h2, c3, hc, hs, wr, natS, hnext]
 · rintro _ L _
   have he : fillR K n = K := by rw [← hkl]; exact fill_end _
   simp (disch := omega) only [ir28p0, stepQ, stepL, eq_self, aBin, reduceIte, Int.reduceEq, Int.reduceLT, Int.reduceLE, Int.reduceGT, Int.reduceGE, Nat.lt_irrefl, he, hno]
end Go.Proofs.YtejddbdoioppgaaGreatDoor

namespace Go.Proofs.YtejddbdoioppgaaGreatDoor
open Go Am
set_option maxRecDepth 100000
set_option linter.unusedSimpArgs false
set_option linter.unusedVariables false
theorem firstE_all {names : List (List UInt8)} : ∀ {fs : List F}, firstE names fs = 0 ↔ ∀ f ∈ fs, modelsE names f = 0
 | [] => by simp [firstE]
 | f :: l => by
  rw [firstE]
  by_cases h : modelsE names f = 0
  · rw [if_pos h, firstE_all]
    simp [h]
  · rw [if_neg h]
    exact ⟨fun h' => absurd h' h, fun h' => absurd (h' f List.mem_cons_self) h⟩
theorem models_in {names : List (List UInt8)} {f : F} {w : Nat} (h : has (modelsS names f) w) : vocOk names = true → w < 2 ^ names.length := fun hv => by
 unfold modelsS at h
 split at h
 · exact ((has_modN (vocOk_len hv)).1 h).1
 · simp [has] at h
theorem prE_ok {names : List (List UInt8)} {fs : List F} {kind : Int} (h : prE names fs kind = 0) : vocOk names = true ∧ 1 ≤ kind ∧ kind ≤ 4 ∧ fs.length ≤ 8 ∧ Mods (2 ^ names.length) (fs.map (modelsS names)) := by
 unfold prE at h
 cases hv : vocOk names with
 | false => rw [if_pos hv] at h; cases h
 | true =>
  rw [if_neg (by simp [hv])] at h
  split at h
  · cases h
  rename_i hk
  split at h
  · cases h
  rename_i hl
  split at h
  · rename_i h1; exact absurd h h1
  split at h
  · cases h
  rename_i hz
  refine ⟨rfl, by omega, by omega, by omega, fun X hX => ?_⟩
  have hne : X ≠ 0#64 := fun e => by subst e; exact hz (List.contains_iff_mem.2 hX)
  obtain ⟨w, hw⟩ := set_ne hne
  obtain ⟨f, _, rfl⟩ := List.mem_map.1 hX
  exact ⟨w, models_in hw hv, hw⟩
theorem morder_run (names : List (List UInt8)) (hl : names.length < 1000000000) (fs : List F) (hf : ∀ f ∈ fs, f.size < 1000000000) (hfl : fs.length < 1000000000) (kind : Int) :
 run tb 15 [strsD names, .sl (F.encs fs), .int .i64 kind] = some (if prE names fs kind = 0 then [strsD names, numsD (mrgR (2 ^ names.length) (fs.map (modelsS names)) kind), .int .i64 0] else [.sl [], .sl [], .int .i64 (prE names fs kind)]) := by
 refine run_ir (x := ir15) rfl ?_
 have h1 := mprofile_run names hl fs hf hfl kind
 by_cases c : prE names fs kind = 0
 · obtain ⟨hv, k1, k4, h8, hm⟩ := prE_ok c
   rw [if_pos c, c] at h1
   have h2 := mranked_run names hv (fs.map (modelsS names)) hm (by rw [List.length_map]; exact h8) kind
   rw [if_pos c]
   simp (disch := omega) only [ir15, stepQ, stepL, eq_self, aBin, reduceIte, Int.reduceEq, Int.reduceLT, Int.reduceLE, Int.reduceGT, Int.reduceGE, h1, ibne, h2]
 · rw [if_neg c] at h1 ⊢
   simp (disch := omega) only [ir15, stepQ, stepL, eq_self, aBin, reduceIte, Int.reduceEq, Int.reduceLT, Int.reduceLE, Int.reduceGT, Int.reduceGE, h1, ibne, c]
def mgE (names : List (List UInt8)) (fs : List F) (c : F) (kind : Int) : Int := if prE names fs kind ≠ 0 then prE names fs kind else modelsE names c
def mgA (names : List (List UInt8)) (fs : List F) (c : F) (kind : Int) : BitVec 64 := if mgE names fs c kind = 0 then leastS names (mrgR (2 ^ names.length) (fs.map (modelsS names)) kind) (modelsS names c) else 0#64
theorem mmerge_run (names : List (List UInt8)) (hl : names.length < 1000000000) (fs : List F) (hf : ∀ f ∈ fs, f.size < 1000000000) (hfl : fs.length < 1000000000) (c : F) (hc : c.size < 1000000000) (kind : Int) :
 run tb 12 [strsD names, .sl (F.encs fs), .int .i64 c.op, .str c.name, .sl (F.encs c.args), .int .i64 kind] = some [bvD (mgA names fs c kind), .int .i64 (mgE names fs c kind)] := by
 refine run_ir (x := ir12) rfl ?_
 have h1 := morder_run names hl fs hf hfl kind
 have h2 := modelsW_run names c hl hc
 simp only [rowF] at h2
 unfold mgA
 by_cases c1 : prE names fs kind = 0
 · have e : mgE names fs c kind = modelsE names c := by unfold mgE; rw [if_neg (by simp [c1])]
   rw [if_pos c1] at h1
   rw [e]
   by_cases c2 : modelsE names c = 0
   · have hle := prE_ok c1
     have h6 := vocOk_len hle.1
     have h64 := pow6 h6
     have h3 := leastO_run names (mrgR (2 ^ names.length) (fs.map (modelsS names)) kind) hl (by unfold mrgR; rw [norm_len, scoL_len]; omega) (modelsS names c)
     rw [c2] at h2
     rw [c2, if_pos rfl]
     simp (disch := omega) only [ir12, stepQ, stepL, eq_self, aBin, reduceIte, Int.reduceEq, Int.reduceLT, Int.reduceLE, Int.reduceGT, Int.reduceGE, h1, ibne, h2, h3]
   · rw [if_neg c2]
     simp (disch := omega) only [ir12, stepQ, stepL, eq_self, aBin, reduceIte, Int.reduceEq, Int.reduceLT, Int.reduceLE, Int.reduceGT, Int.reduceGE, bvQ, wu, shl_norm, shr_norm, and1_norm, h1, ibne, h2, c2]
 · have e : mgE names fs c kind = prE names fs kind := by unfold mgE; rw [if_pos c1]
   rw [if_neg c1] at h1
   rw [e, if_neg c1]
   simp (disch := omega) only [ir12, stepQ, stepL, eq_self, aBin, reduceIte, Int.reduceEq, Int.reduceLT, Int.reduceLE, Int.reduceGT, Int.reduceGE, bvQ, wu, shl_norm, shr_norm, and1_norm, h1, ibne, c1]
theorem mergeK_run {n : Nat} (hn : n ≤ 6) {fs : List F} {ks : List (BitVec 64)} (hk : fs.map (modelsS (vocN n)) = ks) (he : ∀ f ∈ fs, modelsE (vocN n) f = 0 ∧ f.size < 1000000000) (hks : ∀ X ∈ ks, X ≠ 0#64) (h8 : fs.length ≤ 8)
 {kind : Int} (k1 : 1 ≤ kind) (k4 : kind ≤ 4) {C : BitVec 64} (hC : ∀ w, has C w → w < 2 ^ n) :
 run tb 12 [strsD (vocN n), .sl (F.encs fs), .int .i64 (thy (vocN n) C).op, .str (thy (vocN n) C).name, .sl (F.encs (thy (vocN n) C).args), .int .i64 kind] = some [bvD (mrgS n ks kind C), .int .i64 0] := by
 have h1 := mmerge_run (vocN n) (by rw [vocN_len]; omega) fs (fun f hf => (he f hf).2) (by omega) (thy (vocN n) C) (thy_small hn C).1 kind
 have hm := thy_models (vocN_ok hn) C
 rw [and_all hn hC] at hm
 have hp : prE (vocN n) fs kind = 0 := by
  unfold prE
  rw [if_neg (by simp [vocN_ok hn]), if_neg (by omega), if_neg (by omega), if_neg (by simp [firstE_all.2 fun f hf => (he f hf).1]), if_neg]
  intro hc
  rw [hk] at hc
  exact hks _ (List.contains_iff_mem.1 hc) rfl
 have e : mgE (vocN n) fs (thy (vocN n) C) kind = 0 := by unfold mgE; rw [if_neg (by simp [hp]), hm.1]
 unfold mgA at h1
 rw [e, if_pos rfl, hk, hm.2, vocN_len] at h1
 exact h1
theorem thys_models {n : Nat} (hn : n ≤ 6) {ks : List (BitVec 64)} (h : ∀ X ∈ ks, ∀ w, has X w → w < 2 ^ n) : (ks.map (thy (vocN n))).map (modelsS (vocN n)) = ks := by
 rw [List.map_map]
 conv => rhs; rw [← List.map_id ks]
 refine List.map_congr_left fun X hX => ?_
 have hm := thy_models (vocN_ok hn) X
 rw [and_all hn (h X hX)] at hm
 exact hm.2
theorem thys_ok {n : Nat} (hn : n ≤ 6) (ks : List (BitVec 64)) : ∀ f ∈ ks.map (thy (vocN n)), modelsE (vocN n) f = 0 ∧ f.size < 1000000000 := fun f hf => by
 obtain ⟨X, _, rfl⟩ := List.mem_map.1 hf
 exact ⟨(thy_models (vocN_ok hn) X).1, (thy_small hn X).1⟩
theorem mergeT_run {n : Nat} (hn : n ≤ 6) {ks : List (BitVec 64)} (hks : ∀ X ∈ ks, X ≠ 0#64 ∧ ∀ w, has X w → w < 2 ^ n) (h8 : ks.length ≤ 8) {kind : Int} (k1 : 1 ≤ kind) (k4 : kind ≤ 4) {C : BitVec 64} (hC : ∀ w, has C w → w < 2 ^ n) :
 run tb 12 [strsD (vocN n), .sl (F.encs (ks.map (thy (vocN n)))), .int .i64 (thy (vocN n) C).op, .str (thy (vocN n) C).name, .sl (F.encs (thy (vocN n) C).args), .int .i64 kind] = some [bvD (mrgS n ks kind C), .int .i64 0] :=
 mergeK_run hn (thys_models hn fun X hX => (hks X hX).2) (thys_ok hn ks) (fun X hX => (hks X hX).1) (by rw [List.length_map]; exact h8) k1 k4 hC
theorem theory36_run {n : Nat} (hn : n ≤ 6) (S : BitVec 64) : run tb 11 [.int .i64 n, bvD S] = some [.int .i64 (thy (vocN n) (S &&& allS (vocN n))).op, .str (thy (vocN n) (S &&& allS (vocN n))).name, .sl (F.encs (thy (vocN n) (S &&& allS (vocN n))).args)] := by
 refine run_ir (x := ir11) rfl ?_
 have hv := vocN_ok hn
 have hvo := voc_run n (by omega)
 have h1 := all3_run (vocN n) (by rw [vocN_len]; omega) (fun s hs => by rw [vocN_short s hs]; omega)
 have h2 := theoryT_run (vocN n) hv (S &&& allS (vocN n))
 simp only [rowF, List.cons_append, List.nil_append] at h2
 simp (disch := omega) only [ir11, stepQ, stepL, eq_self, aBin, reduceIte, Int.reduceEq, Int.reduceLT, Int.reduceLE, Int.reduceGT, Int.reduceGE, bvQ, wu, shl_norm, shr_norm, and1_norm, hvo, h1, h2, callQ_S]
theorem theoryM_run {n : Nat} (hn : n ≤ 6) {X : BitVec 64} (hX : ∀ w, has X w → w < 2 ^ n) : run tb 11 [.int .i64 n, bvD X] = some [.int .i64 (thy (vocN n) X).op, .str (thy (vocN n) X).name, .sl (F.encs (thy (vocN n) X).args)] := by
 have := theory36_run hn X
 rw [and_all hn hX] at this
 exact this
theorem some36_run {n : Nat} (hn : n ≤ 6) (l : List Int) (hl : l.length ≤ 2000) (p : Nat) (hp : p ≤ l.length) :
 ∃ (K : BitVec 64) (b : Nat), b ≤ l.length ∧ K ≠ 0#64 ∧ (∀ w, has K w → w < 2 ^ n) ∧ run tb 14 [.int .i64 n, numsD l, .int .i64 p] = some [bvD K, numsD l, .int .i64 b] := by
 have h64 := pow6 hn
 have hpp := Nat.two_pow_pos n
 obtain ⟨r, b0, r0, r1, hb0, hr⟩ := n_run ((2 ^ n : Nat) : Int) l p hl hp (by omega) (by omega)
 obtain ⟨r, rfl⟩ := Int.eq_ofNat_of_zero_le r0
 obtain ⟨S1, b1, hb1, hS1⟩ := set_run l b0 hl hb0
 obtain ⟨S2, b2, hb2, hS2⟩ := set_run l b1 hl hb1
 have hvo := voc_run n (by omega)
 have hal := all3_run (vocN n) (by rw [vocN_len]; omega) (fun s hs => by rw [vocN_short s hs]; omega)
 have hA : allS (vocN n) = alW n := by unfold allS; rw [if_pos (vocN_ok hn), vocN_len]
 refine ⟨(S1 &&& S2 ||| 1#64 <<< r) &&& allS (vocN n), b2, hb2, ?_, all_sub hn _, run_ir (x := ir14) rfl ?_⟩
 · refine ne_of_has (w := r) (has_and.2 ⟨has_or.2 (.inr ?_), ?_⟩)
   · rw [has, one_shl_get _ _ (by omega)]; simp
   · rw [hA]; exact (has_bits h64).2 ⟨by omega, rfl⟩
 · have hwn : IntKind.u64.wrap (n : Int) = (n : Int) := wrapU (by omega) (by omega)
   have hr : run tb 16 [.int .i64 ((2 ^ n : Nat) : Int), numsD l, .int .i64 p] = some [.int .i64 r, numsD l, .int .i64 b0] := hr
   simp (disch := omega) only [ir14, stepQ, stepL, eq_self, aBin, reduceIte, Int.reduceEq, Int.reduceLT, Int.reduceLE, Int.reduceGT, Int.reduceGE, bvQ, wu, shl_norm, shr_norm, and1_norm, bv_convN, hr, hS1, hS2, hvo, hal, callQ_S]
theorem awake36_run : run tb 13 [] = some [.bool true] := by
 refine run_ir (x := ir13) rfl ?_
 have hv2 : run tb 7 [.int .i64 2] = some [strsD (vocN 2)] := voc_run 2 (by omega)
 have sh : ∀ {X : BitVec 64}, (∀ w, w < 64 → 4 ≤ w → ¬ has X w) → ∀ w, has X w → w < 2 ^ 2 := fun h w hw => Decidable.byContradiction fun hc => h w (has_lt hw) (by omega) hw
 have x8 : ∀ w, has (8#64) w → w < 2 ^ 2 := sh (by decide +kernel)
 have x1 : ∀ w, has (1#64) w → w < 2 ^ 2 := sh (by decide +kernel)
 have x15 : ∀ w, has (15#64) w → w < 2 ^ 2 := sh (by decide +kernel)
 have t8 : run tb 11 [.int .i64 2, bvD 8#64] = _ := theoryM_run (n := 2) (by omega) x8
 have t1 : run tb 11 [.int .i64 2, bvD 1#64] = _ := theoryM_run (n := 2) (by omega) x1
 have t15 : run tb 11 [.int .i64 2, bvD 15#64] = _ := theoryM_run (n := 2) (by omega) x15
 have hks : ∀ X ∈ [8#64, 8#64, (1#64 : BitVec 64)], X ≠ 0#64 ∧ ∀ w, has X w → w < 2 ^ 2 := by
  intro X hX
  simp only [List.mem_cons, List.not_mem_nil, or_false] at hX
  rcases hX with rfl | rfl | rfl
  · exact ⟨by decide, x8⟩
  · exact ⟨by decide, x8⟩
  · exact ⟨by decide, x1⟩
 have m1 := mergeT_run (n := 2) (by omega) hks (by decide) (kind := 1) (by omega) (by omega) x15
 have m2 := mergeT_run (n := 2) (by omega) hks (by decide) (kind := 2) (by omega) (by omega) x15
 have m3 := mergeT_run (n := 2) (by omega) hks (by decide) (kind := 3) (by omega) (by omega) x15
 have m4 := mergeT_run (n := 2) (by omega) hks (by decide) (kind := 4) (by omega) (by omega) x15
 rw [show mrgS 2 [8#64, 8#64, 1#64] 1 15#64 = 8#64 by decide +kernel] at m1
 rw [show mrgS 2 [8#64, 8#64, 1#64] 2 15#64 = 6#64 by decide +kernel] at m2
 rw [show mrgS 2 [8#64, 8#64, 1#64] 3 15#64 = 6#64 by decide +kernel] at m3
 rw [show mrgS 2 [8#64, 8#64, 1#64] 4 15#64 = 8#64 by decide +kernel] at m4
 have mk : ∀ f g h : F, PO.eval (.mk 3 3) [.int .i64 f.op, .str f.name, .sl (F.encs f.args), .int .i64 g.op, .str g.name, .sl (F.encs g.args), .int .i64 h.op, .str h.name, .sl (F.encs h.args)] = some [.sl (F.encs [f, g, h])] := fun f g h => by simp [PO.eval, chunks, F.encs, F.enc_eq]
 simp only [List.map_cons, List.map_nil] at m1 m2 m3 m4
 have l8 : D.int .u64 8 = bvD 8#64 := rfl
 have l1 : D.int .u64 1 = bvD 1#64 := rfl
 have l15 : D.int .u64 15 = bvD 15#64 := rfl
 have l6 : D.int .u64 6 = bvD 6#64 := rfl
 generalize thy (vocN 2) 8#64 = f8 at *
 generalize thy (vocN 2) 1#64 = f1 at *
 generalize thy (vocN 2) 15#64 = f15 at *
 simp (disch := omega) only [ir13, stepQ, stepL, eq_self, aBin, reduceIte, Int.reduceEq, Int.reduceLT, Int.reduceLE, Int.reduceGT, Int.reduceGE, bvQ, wu, shl_norm, shr_norm, and1_norm, l8, l1, l15, l6, hv2, callQ_S, t8, t1, t15, mk, m1, m2, m3, m4, callQ_tvi]
end Go.Proofs.YtejddbdoioppgaaGreatDoor

namespace Go.Proofs.YtejddbdoioppgaaGreatDoor
open Go Am
set_option maxRecDepth 100000
set_option linter.unusedSimpArgs false
set_option linter.unusedVariables false
theorem app_F2 {a b : List F} (h : a.length + b.length < 1000000000000) : PO.eval (.app 3 48) [.sl (F.encs a), .sl (F.encs b)] = some [.sl (F.encs (a ++ b))] := by
 rw [ev_app (by rw [F.encs_len, F.encs_len]; omega) (by rw [F.encs_len, F.encs_len]; omega) (by rw [F.encs_map]; simp [F.enc_eq])]
 simp [F.encs_map]
end Go.Proofs.YtejddbdoioppgaaGreatDoor

namespace Go.Proofs.YtejddbdoioppgaaGreatDoor
open Go Am
set_option maxRecDepth 100000
set_option linter.unusedSimpArgs false
set_option linter.unusedVariables false
theorem two_sets {X : BitVec 64} (h : ∀ w, has X w → w < 2 ^ 1) : X = 0#64 ∨ X = 1#64 ∨ X = 2#64 ∨ X = 3#64 := by
 have e : X &&& 3#64 = X := by
  have := sub_and (n := 1) (by omega) (X := X) h
  rw [show alW 1 = 3#64 by decide +kernel] at this
  exact this
 have h4 : X.toNat < 4 := by
  have h1 := congrArg BitVec.toNat e
  rw [BitVec.toNat_and, show (3#64 : BitVec 64).toNat = 2 ^ 2 - 1 from rfl, Nat.and_two_pow_sub_one_eq_mod] at h1
  omega
 have hx : X = BitVec.ofNat 64 X.toNat := by simp
 rcases (by omega : X.toNat = 0 ∨ X.toNat = 1 ∨ X.toNat = 2 ∨ X.toNat = 3) with h | h | h | h <;> rw [h] at hx
 · exact .inl hx
 · exact .inr (.inl hx)
 · exact .inr (.inr (.inl hx))
 · exact .inr (.inr (.inr hx))
def majL (A B : BitVec 64) : List (BitVec 64) := A :: List.replicate 7 B
def majOk (A B C : BitVec 64) : Bool := (C &&& B == 0#64 || (mrgS 1 (majL A B) 1 C &&& ~~~B == 0#64 && mrgS 1 (majL A B) 4 C &&& ~~~B == 0#64)) && mrgS 1 [A, B] 3 C == mrgS 1 (majL A B) 3 C
set_option maxHeartbeats 8000000 in
theorem maj_ok : ([1#64, 2#64, (3#64 : BitVec 64)].all fun A => [1#64, 2#64, (3#64 : BitVec 64)].all fun B => [0#64, 1#64, 2#64, (3#64 : BitVec 64)].all fun C => majOk A B C) = true := by decide +kernel
theorem maj_fact : ∀ A ∈ [1#64, 2#64, (3#64 : BitVec 64)], ∀ B ∈ [1#64, 2#64, (3#64 : BitVec 64)], ∀ C ∈ [0#64, 1#64, 2#64, (3#64 : BitVec 64)],
 (C &&& B ≠ 0#64 → mrgS 1 (majL A B) 1 C &&& ~~~B = 0#64 ∧ mrgS 1 (majL A B) 4 C &&& ~~~B = 0#64) ∧ mrgS 1 [A, B] 3 C = mrgS 1 (majL A B) 3 C := by
 intro A hA B hB C hC
 have h := List.all_eq_true.1 (List.all_eq_true.1 (List.all_eq_true.1 maj_ok A hA) B hB) C hC
 unfold majOk at h
 simp only [Bool.and_eq_true, Bool.or_eq_true, beq_iff_eq] at h
 exact ⟨fun hc => h.1.resolve_left hc, h.2⟩
theorem majority36_run (l0 : List Int) : run tb 3 [numsD l0] = some [.bool true] := by
 have aw := awake36_run
 obtain ⟨l, hl, hn⟩ := new_run l0
 have h1 : (1 : Nat) ≤ 6 := by omega
 have hvo : run tb 7 [.int .i64 1] = some [strsD (vocN 1)] := voc_run 1 (by omega)
 have hal := all3_run (vocN 1) (by rw [vocN_len]; omega) (fun s hs => by rw [vocN_short s hs]; omega)
 obtain ⟨A, p1, hp1, hA0, hA, hrA⟩ := some36_run h1 l hl 0 (by omega)
 obtain ⟨B, p2, hp2, hB0, hB, hrB⟩ := some36_run h1 l hl p1 hp1
 have hrA : run tb 14 [.int .i64 1, numsD l, .int .i64 0] = _ := hrA
 have hrB : run tb 14 [.int .i64 1, numsD l, .int .i64 p1] = _ := hrB
 have tA : run tb 11 [.int .i64 1, bvD A] = _ := theoryM_run h1 hA
 have tB : run tb 11 [.int .i64 1, bvD B] = _ := theoryM_run h1 hB
 have mk1 : ∀ f : F, PO.eval (.mk 3 1) [.int .i64 f.op, .str f.name, .sl (F.encs f.args)] = some [.sl (F.encs [f])] := fun f => by simp [PO.eval, chunks, F.encs, F.enc_eq]
 refine run_ir (x := ir3) rfl ?_
 simp (disch := omega) only [ir3, stepQ, stepL, eq_self, aBin, reduceIte, Int.reduceEq, Int.reduceLT, Int.reduceLE, Int.reduceGT, Int.reduceGE, hn, hvo, callQ_S, hrA, hrB, tA, mk1]
 have hall : ∀ j, ∀ X ∈ A :: List.replicate j B, X ≠ 0#64 ∧ ∀ w, has X w → w < 2 ^ 1 := fun j X hX => by
  rcases List.mem_cons.1 hX with rfl | hX
  · exact ⟨hA0, hA⟩
  · rw [List.eq_of_mem_replicate hX]; exact ⟨hB0, hB⟩
 show loopQ _ _ _ _ [.sl (F.encs ((A :: List.replicate 0 B).map (thy (vocN 1))))] = _
 refine loop_k (σ := Unit) 7 (fun _ _ => True) (fun j _ => [.sl (F.encs ((A :: List.replicate j B).map (thy (vocN 1))))]) (fun _ _ => [.bool true]) ?_ ?_ 0 () (Nat.zero_le _) trivial
 · rintro j _ L hj _ hL
   have hnext := hL () trivial
   have hrep : (A :: List.replicate (j + 1) B).map (thy (vocN 1)) = (A :: List.replicate j B).map (thy (vocN 1)) ++ [thy (vocN 1) B] := by
    rw [List.replicate_succ', ← List.cons_append, List.map_append]; rfl
   rw [hrep] at hnext
   have hlen : ((A :: List.replicate j B).map (thy (vocN 1))).length = j + 1 := by simp
   have a1 := app_F2 (a := (A :: List.replicate j B).map (thy (vocN 1))) (b := [thy (vocN 1) B]) (by rw [hlen]; simp only [List.length_cons, List.length_nil]; omega)
   have hle : PO.eval .lenL [.sl (F.encs ((A :: List.replicate j B).map (thy (vocN 1))))] = some [.int .i64 ((j + 1 : Nat) : Int)] := by rw [len_F, hlen]
   have hj8 : ((j + 1 : Nat) : Int) < 8 := by omega
   generalize (A :: List.replicate j B).map (thy (vocN 1)) = bk at *
   simp (disch := omega) only [ir3p2, stepQ, stepL, eq_self, aBin, reduceIte, Int.reduceEq, Int.reduceLT, Int.reduceLE, Int.reduceGT, Int.reduceGE, hle, hj8, tB, mk1, a1, hnext]
 · rintro _ L _
   obtain ⟨S, p3, hp3, hS⟩ := set_run l p2 hl hp2
   have hC := all_sub h1 S
   obtain ⟨C, eC⟩ : ∃ C, S &&& allS (vocN 1) = C := ⟨_, rfl⟩
   rw [eC] at hC
   have tC : run tb 11 [.int .i64 1, bvD C] = _ := theoryM_run h1 hC
   have hlen : ((A :: List.replicate 7 B).map (thy (vocN 1))).length = 8 := by simp
   have hle : PO.eval .lenL [.sl (F.encs ((A :: List.replicate 7 B).map (thy (vocN 1))))] = some [.int .i64 8] := by rw [len_F, hlen]; rfl
   have m1 := mergeT_run h1 (hall 7) (by simp) (kind := 1) (by omega) (by omega) hC
   have m4 := mergeT_run h1 (hall 7) (by simp) (kind := 4) (by omega) (by omega) hC
   have m3 := mergeT_run h1 (hall 7) (by simp) (kind := 3) (by omega) (by omega) hC
   have m2 := mergeT_run h1 (hall 1) (by simp) (kind := 3) (by omega) (by omega) hC
   have hsub : PO.eval (.subL 3) [.sl (F.encs ((A :: List.replicate 7 B).map (thy (vocN 1)))), .int .i64 0, .int .i64 2] = some [.sl (F.encs ((A :: List.replicate 1 B).map (thy (vocN 1))))] := by
    rw [ev_subL (by omega) (by omega) (by rw [F.encs_len, hlen]; omega) (by rw [F.encs_map]; simp [F.enc_eq])]
    rw [F.encs_map, F.encs_map]; rfl
   obtain ⟨q1, q2⟩ := maj_fact A (by rcases two_sets hA with h | h | h | h <;> simp [h] at hA0 ⊢) B (by rcases two_sets hB with h | h | h | h <;> simp [h] at hB0 ⊢) C (by rcases two_sets hC with h | h | h | h <;> simp [h])
   have q2 : mrgS 1 (A :: List.replicate 1 B) 3 C = mrgS 1 (A :: List.replicate 7 B) 3 C := q2
   have q1 : C &&& B ≠ 0#64 → mrgS 1 (A :: List.replicate 7 B) 1 C &&& ~~~B = 0#64 ∧ mrgS 1 (A :: List.replicate 7 B) 4 C &&& ~~~B = 0#64 := q1
   generalize (A :: List.replicate 7 B).map (thy (vocN 1)) = bk at *
   generalize (A :: List.replicate 1 B).map (thy (vocN 1)) = bk1 at *
   rw [q2] at m2
   generalize mrgS 1 (A :: List.replicate 7 B) 3 C = z at *
   have hmk : PO.eval (.mk 1 2) [.int .i64 1, .int .i64 4] = some [numsD [1, 4]] := rfl
   have l2 : PO.eval .lenL [numsD [1, 4]] = some [.int .i64 2] := rfl
   have g0 : PO.eval (.get 0 1) [numsD [1, 4], .int .i64 0] = some [.int .i64 1] := rfl
   have g1 : PO.eval (.get 0 1) [numsD [1, 4], .int .i64 1] = some [.int .i64 4] := rfl
   have c0 : PO.eval .chk [numsD [1, 4], .int .i64 0] = some [] := rfl
   have c1 : PO.eval .chk [numsD [1, 4], .int .i64 1] = some [] := rfl
   simp (disch := omega) only [ir3p2, stepQ, stepL, eq_self, aBin, reduceIte, Int.reduceEq, Int.reduceLT, Int.reduceLE, Int.reduceGT, Int.reduceGE, bvQ, wu, shl_norm, shr_norm, and1_norm, hle, hS, hal, eC, hmk, l2]
   refine loop_k (σ := Unit) 2 (fun _ _ => True) (fun j _ => [.int .i64 j]) (fun _ _ => [.bool true]) ?_ ?_ 0 () (Nat.zero_le _) trivial
   · rintro j _ M hj _ hM
     have hnext := hM () trivial
     rcases Classical.propComplete (C &&& B = 0#64) with c | c
     · rcases (by omega : j = 0 ∨ j = 1) with rfl | rfl
       · have hnext : M [.int .i64 1] = some [.bool true] := hnext
         simp (disch := omega) only [ir3p1, ir3p0, stepQ, stepL, eq_self, aBin, reduceIte, Int.reduceEq, Int.reduceLT, Int.reduceLE, Int.reduceGT, Int.reduceGE, bvQ, wu, shl_norm, shr_norm, and1_norm, Int.cast_ofNat_Int, g0, c0, tC, m1, callQ_tvi, ibne, c, wr, Int.reduceAdd, hnext]
       · have hnext : M [.int .i64 2] = some [.bool true] := hnext
         simp (disch := omega) only [ir3p1, ir3p0, stepQ, stepL, eq_self, aBin, reduceIte, Int.reduceEq, Int.reduceLT, Int.reduceLE, Int.reduceGT, Int.reduceGE, bvQ, wu, shl_norm, shr_norm, and1_norm, Int.cast_ofNat_Int, g1, c1, tC, m4, callQ_tvi, ibne, c, wr, Int.reduceAdd, hnext]
     · obtain ⟨q3, q4⟩ := q1 (of_eq_false c)
       rcases (by omega : j = 0 ∨ j = 1) with rfl | rfl
       · have hnext : M [.int .i64 1] = some [.bool true] := hnext
         simp (disch := omega) only [ir3p1, ir3p0, stepQ, stepL, eq_self, aBin, reduceIte, Int.reduceEq, Int.reduceLT, Int.reduceLE, Int.reduceGT, Int.reduceGE, bvQ, wu, shl_norm, shr_norm, and1_norm, Int.cast_ofNat_Int, g0, c0, tC, m1, callQ_tvi, ibne, c, q3, wr, Int.reduceAdd, hnext]
       · have hnext : M [.int .i64 2] = some [.bool true] := hnext
         simp (disch := omega) only [ir3p1, ir3p0, stepQ, stepL, eq_self, aBin, reduceIte, Int.reduceEq, Int.reduceLT, Int.reduceLE, Int.reduceGT, Int.reduceGE, bvQ, wu, shl_norm, shr_norm, and1_norm, Int.cast_ofNat_Int, g1, c1, tC, m4, callQ_tvi, ibne, c, q4, wr, Int.reduceAdd, hnext]
   · rintro _ M _
     simp (disch := omega) only [ir3p1, stepQ, stepL, eq_self, aBin, reduceIte, Int.reduceEq, Int.reduceLT, Int.reduceLE, Int.reduceGT, Int.reduceGE, bvQ, wu, shl_norm, shr_norm, and1_norm, Int.cast_ofNat_Int, hsub, tC, m2, m3, ibne, aw]
end Go.Proofs.YtejddbdoioppgaaGreatDoor

namespace Go.Proofs.YtejddbdoioppgaaGreatDoor
open Go Am
set_option maxRecDepth 100000
set_option linter.unusedSimpArgs false
set_option linter.unusedVariables false
end Go.Proofs.YtejddbdoioppgaaGreatDoor
