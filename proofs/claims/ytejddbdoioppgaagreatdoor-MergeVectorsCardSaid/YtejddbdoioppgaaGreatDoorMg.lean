/- Plain programs of the functions of the program and lemmas about what they compute. -/
import Derived.Test.YtejddbdoioppgaaGreatDoorWd
import Derived.Test.YtejddbdoioppgaaGreatDoorOd
import Derived.Test.YtejddbdoioppgaaGreatDoorTz
import Derived.Test.YtejddbdoioppgaaGreatDoorAm6
set_option linter.unusedSimpArgs false
set_option linter.unusedVariables false
set_option linter.unusedSectionVars false
namespace Go.Proofs.YtejddbdoioppgaaGreatDoor
open Go Am
set_option maxRecDepth 100000
set_option linter.unusedSimpArgs false
set_option linter.unusedVariables false
theorem tzX_run (x : BitVec 64) : run tb 74 [bvD x] = some [.int .i64 (low x)] := run_ext rfl (tzE_run x)
theorem app_N1 {l : List Int} {a : Int} (h : l.length + 1 ≤ 1000000) : PO.eval (.app 1 8) [numsD l, .sl [[.int .i64 a]]] = some [numsD (l ++ [a])] := by
 unfold numsD
 rw [ev_app (by simp; omega) (by simp; omega) (by simp [numR])]
 simp [numR]
def natL (l : List Nat) : List Int := l.map fun (n : Nat) => (n : Int)
theorem worlds_run (voc : List (List UInt8)) (X : BitVec 64) (hl : voc.length < 1000000000) : run tb 65 [strsD voc, bvD X] = some [numsD (natL (worldsTo (X &&& allS voc) 64))] := by
 refine run_ir (x := ir65) rfl ?_
 have h1 := all_run voc hl
 simp (disch := omega) only [ir65, stepQ, stepL, eq_self, aBin, reduceIte, Int.reduceEq, Int.reduceLT, Int.reduceLE, Int.reduceGT, Int.reduceGE, bvQ, wu, shl_norm, shr_norm, and1_norm, h1]
 generalize X &&& allS voc = Y
 have h0 : from_ Y 0 = Y := from_zero Y
 show loopQ _ _ _ _ [bvD Y, numsD (natL (worldsTo Y 0))] = _
 rw [← h0]
 conv => rhs; rw [h0]
 conv => lhs; rw [show worldsTo (from_ Y 0) 0 = worldsTo Y 0 from rfl]
 refine loop_km (ι := Nat) (fun a => 64 - a) (fun a => a ≤ 64) (fun a => [bvD (from_ Y a), numsD (natL (worldsTo Y a))]) (fun _ => [numsD (natL (worldsTo Y 64))]) ?_ 0 (by omega)
 rintro a L ha hL
 by_cases hz : from_ Y a = 0#64
 · have hd := from_done Y a ha hz
   simp (disch := omega) only [ir65p0, stepQ, stepL, eq_self, aBin, reduceIte, Int.reduceEq, Int.reduceLT, Int.reduceLE, Int.reduceGT, Int.reduceGE, bvQ, wu, shl_norm, shr_norm, and1_norm, hz, hd]
 · obtain ⟨n1, n2, n3, n4⟩ := from_next Y a hz
   have ht := tzX_run (from_ Y a)
   have hnext := hL (low (from_ Y a) + 1) (by show _ ≤ 64; omega) (by show 64 - (low (from_ Y a) + 1) < 64 - a; omega)
   rw [n4] at hnext
   have hlen : (natL (worldsTo Y a)).length + 1 ≤ 1000000 := by
    have := worldsTo_len Y a
    simp only [natL, List.length_map]; omega
   have happ := app_N1 (a := (low (from_ Y a) : Int)) hlen
   have hnl : natL (worldsTo Y a ++ [low (from_ Y a)]) = natL (worldsTo Y a) ++ [(low (from_ Y a) : Int)] := by simp [natL]
   rw [hnl] at hnext
   simp (disch := omega) only [ir65p0, stepQ, stepL, eq_self, aBin, reduceIte, Int.reduceEq, Int.reduceLT, Int.reduceLE, Int.reduceGT, Int.reduceGE, bvQ, wu, shl_norm, shr_norm, and1_norm, hz, ht, happ, n3, hnext]
theorem differ_run (v w : Int) : run tb 75 [.int .i64 v, .int .i64 w] = some [bvD (dif v w)] := by
 refine run_ir (x := ir75) rfl ?_
 have l63 : D.int .u64 63 = bvD 63#64 := rfl
 simp (disch := omega) only [ir75, stepQ, stepL, eq_self, aBin, reduceIte, Int.reduceEq, Int.reduceLT, Int.reduceLE, Int.reduceGT, Int.reduceGE, bvQ, wu, shl_norm, shr_norm, and1_norm, l63]
 rw [ofInt_wrap]
 exact congrArg (fun x => some [bvD (x &&& 63#64)]) (ofIntU (BitVec.ofInt 64 v ^^^ BitVec.ofInt 64 w))
theorem distance_run (v w : Int) : run tb 66 [.int .i64 v, .int .i64 w] = some [.int .i64 (ones (dif v w) 64)] := by
 refine run_ir (x := ir66) rfl ?_
 have h1 := differ_run v w
 have h2 := ones_run (dif v w)
 simp (disch := omega) only [ir66, stepQ, stepL, eq_self, aBin, reduceIte, Int.reduceEq, Int.reduceLT, Int.reduceLE, Int.reduceGT, Int.reduceGE, h1, h2]
theorem row_nat {l : List Nat} {i : Nat} (h : i < l.length) : PO.eval (.row 1) [numsD (natL l), .int .i64 i] = some [.int .i64 (l[i] : Nat)] := by
 have h1 : i < (natL l).length := by simpa [natL] using h
 have := row_N h1
 rw [this]; simp [natL]
theorem len_nat (l : List Nat) : PO.eval .lenL [numsD (natL l)] = some [.int .i64 l.length] := by rw [len_N]; simp [natL]
end Go.Proofs.YtejddbdoioppgaaGreatDoor

namespace Go.Proofs.YtejddbdoioppgaaGreatDoor
open Go Am
set_option maxRecDepth 100000
set_option linter.unusedSimpArgs false
set_option linter.unusedVariables false
def idxZ (x : BitVec 64) : Nat → List (BitVec 64) → Int
 | _, [] => -1
 | k, y :: l => if x = y then (k : Int) else idxZ x (k + 1) l
theorem idxZ_ge (x : BitVec 64) : ∀ (k : Nat) (l : List (BitVec 64)), decide (idxZ x k l ≥ 0) = l.contains x
 | k, [] => rfl
 | k, y :: l => by
  rw [idxZ, List.contains_cons]
  by_cases h : x = y
  · rw [if_pos h, h]; simp
  · rw [if_neg h, idxZ_ge x (k + 1) l]
    have : (x == y) = false := by simpa using h
    rw [this, Bool.false_or]
theorem indexZ_run (l : List (BitVec 64)) (x : BitVec 64) (hl : l.length < 1000000000) : run tb 57 [bvsD l, bvD x] = some [.int .i64 (idxZ x 0 l)] := by
 refine run_ir (x := ir57) rfl ?_
 simp (disch := omega) only [ir57, stepQ, stepL, eq_self, aBin, reduceIte, Int.reduceEq, Int.reduceLT, Int.reduceLE, Int.reduceGT, Int.reduceGE, len_V]
 rw [show idxZ x 0 l = idxZ x 0 (l.drop 0) from rfl]
 refine loop_k (σ := Unit) l.length (fun _ _ => True) (fun i _ => [.int .i64 i]) (fun i _ => [.int .i64 (idxZ x i (l.drop i))]) ?_ ?_ 0 () (Nat.zero_le _) trivial
 · rintro i _ L hi _ hL
   have hnext := hL () trivial
   have hr := row_V hi
   rw [drop_s hi, idxZ]
   by_cases hx : x = l[i]
   · rw [if_pos hx]
     simp (disch := omega) only [ir57p0, stepQ, stepL, eq_self, aBin, reduceIte, Int.reduceEq, Int.reduceLT, Int.reduceLE, Int.reduceGT, Int.reduceGE, bvQ, wu, shl_norm, shr_norm, and1_norm, hi, hr, eq_true hx]
   · rw [if_neg hx]
     simp (disch := omega) only [ir57p0, stepQ, stepL, eq_self, aBin, reduceIte, Int.reduceEq, Int.reduceLT, Int.reduceLE, Int.reduceGT, Int.reduceGE, bvQ, wu, shl_norm, shr_norm, and1_norm, hi, hr, hx, wr, natS, hnext]
 · rintro _ L _
   rw [List.drop_length]
   simp (disch := omega) only [ir57p0, stepQ, stepL, eq_self, aBin, reduceIte, Int.reduceEq, Int.reduceLT, Int.reduceLE, Int.reduceGT, Int.reduceGE, Nat.lt_irrefl, idxZ]
theorem containsZ_run (l : List (BitVec 64)) (x : BitVec 64) (hl : l.length < 1000000000) : run tb 40 [bvsD l, bvD x] = some [.bool (l.contains x)] := by
 refine run_ir (x := ir40) rfl ?_
 have h := indexZ_run l x hl
 rw [← idxZ_ge x 0 l]
 simp (disch := omega) only [ir40, stepQ, stepL, eq_self, aBin, reduceIte, Int.reduceEq, Int.reduceLT, Int.reduceLE, Int.reduceGT, Int.reduceGE, h]
def firstE (names : List (List UInt8)) : List F → Int
 | [] => 0
 | f :: l => if modelsE names f = 0 then firstE names l else modelsE names f
def prE (names : List (List UInt8)) (fs : List F) (kind : Int) : Int :=
 if vocOk names = false then 1 else if kind < 1 ∨ kind > 4 then 4 else if fs.length > 8 then 2 else if firstE names fs ≠ 0 then firstE names fs else if (fs.map (modelsS names)).contains 0#64 = true then 7 else 0
theorem app_V1 {l : List (BitVec 64)} {a : BitVec 64} (h : l.length + 1 ≤ 1000000) : PO.eval (.app 1 8) [bvsD l, .sl [[bvD a]]] = some [bvsD (l ++ [a])] := by
 unfold bvsD
 rw [ev_app (by simp; omega) (by simp; omega) (by simp)]
 simp
theorem row_Fq {l : List F} {i : Nat} (h : i < l.length) : PO.eval (.row 3) [.sl (F.encs l), .int .i64 i] = some [.int .i64 l[i].op, .str l[i].name, .sl (F.encs l[i].args)] := row_F h
theorem mprofile_run (names : List (List UInt8)) (hl : names.length < 1000000000) (fs : List F) (hf : ∀ f ∈ fs, f.size < 1000000000) (hfl : fs.length < 1000000000) (kind : Int) :
 run tb 27 [strsD names, .sl (F.encs fs), .int .i64 kind] = some [if prE names fs kind = 0 then bvsD (fs.map (modelsS names)) else .sl [], .int .i64 (prE names fs kind)] := by
 refine run_ir (x := ir27) rfl ?_
 have h1 := valid_run names hl
 cases hv : vocOk names with
 | false =>
  rw [hv] at h1
  have e : prE names fs kind = 1 := by unfold prE; rw [if_pos hv]
  rw [e, if_neg (by decide)]
  simp (disch := omega) only [ir27, stepQ, stepL, eq_self, aBin, reduceIte, Int.reduceEq, Int.reduceLT, Int.reduceLE, Int.reduceGT, Int.reduceGE, h1]
 | true =>
 rw [hv] at h1
 by_cases c1 : kind < 1
 · have e : prE names fs kind = 4 := by unfold prE; rw [if_neg (by simp [hv]), if_pos (.inl c1)]
   rw [e, if_neg (by decide)]
   simp (disch := omega) only [ir27, ir27p1, stepQ, stepL, eq_self, aBin, reduceIte, Int.reduceEq, Int.reduceLT, Int.reduceLE, Int.reduceGT, Int.reduceGE, h1, c1]
 by_cases c2 : kind > 4
 · have e : prE names fs kind = 4 := by unfold prE; rw [if_neg (by simp [hv]), if_pos (.inr c2)]
   rw [e, if_neg (by decide)]
   simp (disch := omega) only [ir27, ir27p1, stepQ, stepL, eq_self, aBin, reduceIte, Int.reduceEq, Int.reduceLT, Int.reduceLE, Int.reduceGT, Int.reduceGE, h1, c1, c2]
 by_cases c3 : fs.length > 8
 · have e : prE names fs kind = 2 := by unfold prE; rw [if_neg (by simp [hv]), if_neg (by omega), if_pos c3]
   have c3' : (fs.length : Int) > 8 := by omega
   rw [e, if_neg (by decide)]
   simp (disch := omega) only [ir27, ir27p1, stepQ, stepL, eq_self, aBin, reduceIte, Int.reduceEq, Int.reduceLT, Int.reduceLE, Int.reduceGT, Int.reduceGE, h1, c1, c2, len_F, c3']
 have c3' : ¬ (fs.length : Int) > 8 := by omega
 have e : prE names fs kind = if firstE names fs ≠ 0 then firstE names fs else if (fs.map (modelsS names)).contains 0#64 = true then 7 else 0 := by unfold prE; rw [if_neg (by simp [hv]), if_neg (by omega), if_neg c3]
 rw [e]
 simp (disch := omega) only [ir27, ir27p1, stepQ, stepL, eq_self, aBin, reduceIte, Int.reduceEq, Int.reduceLT, Int.reduceLE, Int.reduceGT, Int.reduceGE, h1, c1, c2, len_F, c3']
 show loopQ _ _ _ _ [.int .i64 ((0 : Nat) : Int), bvsD ((fs.take 0).map (modelsS names))] = _
 have hd0 : firstE names fs = firstE names (fs.drop 0) := by simp
 rw [hd0]
 refine loop_k (σ := Unit) fs.length (fun _ _ => True) (fun i _ => [.int .i64 i, bvsD ((fs.take i).map (modelsS names))])
  (fun i _ => [if (if firstE names (fs.drop i) ≠ 0 then firstE names (fs.drop i) else if (fs.map (modelsS names)).contains 0#64 = true then 7 else 0) = 0 then bvsD (fs.map (modelsS names)) else .sl [], .int .i64 (if firstE names (fs.drop i) ≠ 0 then firstE names (fs.drop i) else if (fs.map (modelsS names)).contains 0#64 = true then 7 else 0)]) ?_ ?_ 0 () (Nat.zero_le _) trivial
 · rintro i _ L hi _ hL
   have hnext := hL () trivial
   have hr := row_Fq hi
   have hm := modelsW_run names fs[i] hl (hf _ (List.getElem_mem hi))
   simp only [rowF] at hm
   rw [drop_s hi, firstE]
   by_cases c : modelsE names fs[i] = 0
   · rw [if_pos c]
     rw [c] at hm
     have htk : (fs.take (i + 1)).map (modelsS names) = (fs.take i).map (modelsS names) ++ [modelsS names fs[i]] := by
      rw [List.take_add_one, List.getElem?_eq_getElem hi, List.map_append]; rfl
     rw [htk] at hnext
     have happ := app_V1 (l := (fs.take i).map (modelsS names)) (a := modelsS names fs[i]) (by rw [List.length_map, List.length_take]; omega)
     simp (disch := omega) only [ir27p0, stepQ, stepL, eq_self, aBin, reduceIte, Int.reduceEq, Int.reduceLT, Int.reduceLE, Int.reduceGT, Int.reduceGE, hi, hr, hm, ibne, happ, wr, natS, hnext]
   · rw [if_neg c, if_pos c, if_neg c]
     simp (disch := omega) only [ir27p0, stepQ, stepL, eq_self, aBin, reduceIte, Int.reduceEq, Int.reduceLT, Int.reduceLE, Int.reduceGT, Int.reduceGE, hi, hr, hm, ibne, c]
 · rintro _ L _
   rw [List.take_length, List.drop_length]
   have hc := containsZ_run (fs.map (modelsS names)) 0#64 (by rw [List.length_map]; exact hfl)
   cases hz : (fs.map (modelsS names)).contains 0#64 with
   | true =>
    rw [hz] at hc
    simp (disch := omega) only [ir27p0, stepQ, stepL, eq_self, aBin, reduceIte, Int.reduceEq, Int.reduceLT, Int.reduceLE, Int.reduceGT, Int.reduceGE, bvQ, wu, shl_norm, shr_norm, and1_norm, Nat.lt_irrefl, hc, callQ_tb, firstE, ne_eq, not_true_eq_false, if_false, if_true, Int.reduceEq]
   | false =>
    rw [hz] at hc
    simp (disch := omega) only [ir27p0, stepQ, stepL, eq_self, aBin, reduceIte, Int.reduceEq, Int.reduceLT, Int.reduceLE, Int.reduceGT, Int.reduceGE, bvQ, wu, shl_norm, shr_norm, and1_norm, Nat.lt_irrefl, hc, callQ_tb, firstE, ne_eq, not_true_eq_false, if_false, if_true, Int.reduceEq, Bool.false_eq_true]
def dsT (kind : Int) (w : Nat) (l : List Nat) : Nat := l.foldl (fun (m v : Nat) => min m (if kind = 4 then min (ones (dif v w) 64) 1 else ones (dif v w) 64)) 7
theorem dsT_snoc (kind : Int) (w : Nat) (l : List Nat) (v : Nat) : dsT kind w (l ++ [v]) = min (dsT kind w l) (if kind = 4 then min (ones (dif v w) 64) 1 else ones (dif v w) 64) := by simp [dsT]
theorem dsT_le (kind : Int) (w : Nat) (l : List Nat) : dsT kind w l ≤ 7 := by
 have : ∀ (l : List Nat) (a : Nat), l.foldl (fun (m v : Nat) => min m (if kind = 4 then min (ones (dif v w) 64) 1 else ones (dif v w) 64)) a ≤ a := by
  intro l
  induction l with
  | nil => intro a; exact Nat.le_refl _
  | cons v l ih => intro a; simp only [List.foldl_cons]; exact Nat.le_trans (ih _) (Nat.min_le_left _ _)
 exact this l 7
theorem dsT_ent (kind : Int) (w : Nat) {l : List Nat} (h : l ≠ []) : (dsT kind w l : Int) = entS kind (dsL w l) := by
 unfold entS
 by_cases hk : kind = 4
 · subst hk
   simp only [if_true]
   have : ∀ (l : List Nat) (a b : Nat), min a 1 = min b 1 → min (l.foldl (fun (m v : Nat) => min m (if (4 : Int) = 4 then min (ones (dif v w) 64) 1 else ones (dif v w) 64)) a) 1 = min (l.foldl (fun (m v : Nat) => min m (ones (dif v w) 64)) b) 1 := by
    intro l
    induction l with
    | nil => intro a b h; exact h
    | cons v l ih => intro a b h; simp only [List.foldl_cons, if_true]; exact ih _ _ (by omega)
   have h1 := this l 7 7 rfl
   have h2 : dsT 4 w l ≤ 1 := by
    obtain ⟨v, l, rfl⟩ := List.exists_cons_of_ne_nil h
    have h3 : ∀ (l : List Nat) (a : Nat), l.foldl (fun (m v : Nat) => min m (if (4 : Int) = 4 then min (ones (dif v w) 64) 1 else ones (dif v w) 64)) a ≤ a := by
     intro l
     induction l with
     | nil => intro a; exact Nat.le_refl _
     | cons v l ih => intro a; simp only [List.foldl_cons]; exact Nat.le_trans (ih _) (Nat.min_le_left _ _)
    have := h3 l (min 7 (min (ones (dif v w) 64) 1))
    unfold dsT
    simp only [List.foldl_cons, if_true] at this ⊢
    omega
   have h4 : min (dsT 4 w l) 1 = min (dsL w l) 1 := h1
   omega
 · simp only [hk, if_false]; unfold dsT dsL; simp only [hk, if_false]
theorem mdistance_run (names : List (List UInt8)) (hv : vocOk names = true) (X : BitVec 64) (hX : ∃ u, u < 2 ^ names.length ∧ has X u) (w : Nat) (kind : Int) :
 run tb 43 [strsD names, bvD X, .int .i64 w, .int .i64 kind] = some [.int .i64 (entS kind (dsS (2 ^ names.length) X w))] := by
 refine run_ir (x := ir43) rfl ?_
 have h6 := vocOk_len hv
 have h1 := worlds_run names X (by omega)
 have hal : allS names = alW names.length := by unfold allS; rw [if_pos hv]
 rw [hal, worlds_all h6] at h1
 obtain ⟨u, hu, hxu⟩ := hX
 have hne : worldsTo X (2 ^ names.length) ≠ [] := fun h => by
  have := (mem_worldsTo (X := X) (n := 2 ^ names.length)).2 ⟨hu, hxu⟩
  rw [h] at this; cases this
 unfold dsS
 rw [← dsT_ent kind w hne]
 clear hne
 have hlen := worldsTo_len X (2 ^ names.length)
 have h64 := pow6 h6
 generalize worldsTo X (2 ^ names.length) = l at *
 simp (disch := omega) only [ir43, stepQ, stepL, eq_self, aBin, reduceIte, Int.reduceEq, Int.reduceLT, Int.reduceLE, Int.reduceGT, Int.reduceGE, h1, callQ_N, len_nat]
 show loopQ _ _ _ _ [.int .i64 ((dsT kind w (l.take 0) : Nat) : Int), .int .i64 ((0 : Nat) : Int)] = _
 refine loop_k (σ := Unit) l.length (fun _ _ => True) (fun i _ => [.int .i64 ((dsT kind w (l.take i) : Nat) : Int), .int .i64 i]) (fun _ _ => [.int .i64 ((dsT kind w l : Nat) : Int)]) ?_ ?_ 0 () (Nat.zero_le _) trivial
 · rintro i _ L hi _ hL
   have hnext := hL () trivial
   have hr := row_nat hi
   have hd := distance_run (l[i] : Nat) w
   rw [List.take_add_one, List.getElem?_eq_getElem hi, Option.toList_some, dsT_snoc] at hnext
   have hle := dsT_le kind w (l.take i)
   generalize dsT kind w (l.take i) = T at *
   generalize ones (dif (l[i] : Nat) w) 64 = o at *
   by_cases hk : kind = 4
   · subst hk
     simp only [if_true] at hnext
     have e1 : (if (1 : Int) < (o : Int) then (1 : Int) else (o : Int)) = ((min o 1 : Nat) : Int) := by split <;> omega
     have e2 : (if min o 1 < T then ((min o 1 : Nat) : Int) else (T : Int)) = ((min T (min o 1) : Nat) : Int) := by split <;> omega
     simp (disch := omega) only [ir43p1, ir43p0, stepQ, stepL, eq_self, aBin, reduceIte, Int.reduceEq, Int.reduceLT, Int.reduceLE, Int.reduceGT, Int.reduceGE, hi, hr, hd, ev_min, e1, e2, wr, natS, hnext]
   · simp only [hk, if_false] at hnext
     have e2 : (if o < T then ((o : Nat) : Int) else (T : Int)) = ((min T o : Nat) : Int) := by split <;> omega
     simp (disch := omega) only [ir43p1, ir43p0, stepQ, stepL, eq_self, aBin, reduceIte, Int.reduceEq, Int.reduceLT, Int.reduceLE, Int.reduceGT, Int.reduceGE, hi, hr, hd, hk, ev_min, e2, wr, natS, hnext]
 · rintro _ L _
   rw [List.take_length]
   simp (disch := omega) only [ir43p1, stepQ, stepL, eq_self, aBin, reduceIte, Int.reduceEq, Int.reduceLT, Int.reduceLE, Int.reduceGT, Int.reduceGE, Nat.lt_irrefl]
theorem mvector_run (names : List (List UInt8)) (hv : vocOk names = true) (ms : List (BitVec 64)) (hm : Mods (2 ^ names.length) ms) (h8 : ms.length ≤ 1000) (w : Nat) (kind : Int) :
 run tb 30 [strsD names, bvsD ms, .int .i64 w, .int .i64 kind] = some [numsD (vecS (2 ^ names.length) ms kind w)] := by
 refine run_ir (x := ir30) rfl ?_
 simp (disch := omega) only [ir30, stepQ, stepL, eq_self, aBin, reduceIte, Int.reduceEq, Int.reduceLT, Int.reduceLE, Int.reduceGT, Int.reduceGE, len_V]
 show loopQ _ _ _ _ [.int .i64 ((0 : Nat) : Int), numsD (vecS (2 ^ names.length) (ms.take 0) kind w)] = _
 refine loop_k (σ := Unit) ms.length (fun _ _ => True) (fun i _ => [.int .i64 i, numsD (vecS (2 ^ names.length) (ms.take i) kind w)]) (fun _ _ => [numsD (vecS (2 ^ names.length) ms kind w)]) ?_ ?_ 0 () (Nat.zero_le _) trivial
 · rintro i _ L hi _ hL
   have hnext := hL () trivial
   have hr := row_V hi
   have hd := mdistance_run names hv ms[i] (hm _ (List.getElem_mem hi)) w kind
   have htk : vecS (2 ^ names.length) (ms.take (i + 1)) kind w = vecS (2 ^ names.length) (ms.take i) kind w ++ [entS kind (dsS (2 ^ names.length) ms[i] w)] := by
    unfold vecS
    rw [List.take_add_one, List.getElem?_eq_getElem hi, List.map_append]; rfl
   rw [htk] at hnext
   have happ := app_N1 (l := vecS (2 ^ names.length) (ms.take i) kind w) (a := entS kind (dsS (2 ^ names.length) ms[i] w)) (by rw [vec_len, List.length_take]; omega)
   simp (disch := omega) only [ir30p0, stepQ, stepL, eq_self, aBin, reduceIte, Int.reduceEq, Int.reduceLT, Int.reduceLE, Int.reduceGT, Int.reduceGE, hi, hr, hd, happ, wr, natS, hnext]
 · rintro _ L _
   rw [List.take_length]
   simp (disch := omega) only [ir30p0, stepQ, stepL, eq_self, aBin, reduceIte, Int.reduceEq, Int.reduceLT, Int.reduceLE, Int.reduceGT, Int.reduceGE, Nat.lt_irrefl]
def keyT (kind : Int) (v : List Int) : Int := if kind = 3 then mxF v else if kind = 2 then baseF v else sumF id v
theorem keyT_snoc (kind : Int) (v : List Int) (d : Int) : keyT kind (v ++ [d]) = if kind = 3 then (if d > keyT kind v then d else keyT kind v) else if kind = 2 then keyT kind v * 7 + d else keyT kind v + d := by
 unfold keyT
 split
 · simp [mxF]
 split
 · simp [baseF]
 · simp [sumF]
theorem keyT_bound (kind : Int) {v : List Int} (hd : Dig v) (h8 : v.length ≤ 8) : 0 ≤ keyT kind v ∧ keyT kind v < 5764801 := by
 unfold keyT
 split
 · have h1 := mxF_nn v
   have h2 : mxF v ≤ 6 := by
    clear h1
    induction v with
    | nil => simp [mxF]
    | cons x v ih =>
     rw [mxF_cons]
     have := ih (fun y hy => hd y (List.mem_cons_of_mem _ hy)) (by simp at h8; omega)
     have := hd x List.mem_cons_self
     omega
   omega
 split
 · have h := baseF_bound hd
   have hp : (7 : Int) ^ v.length ≤ 7 ^ 8 := by exact_mod_cast Nat.pow_le_pow_right (by omega : 0 < 7) h8
   have : (7 : Int) ^ 8 = 5764801 := by decide
   omega
 · have h1 := sumF_nn (f := id) (v := v) fun x hx => (hd x hx).1
   have h2 := sumF_bound (f := id) (c := 6) (v := v) fun x hx => (hd x hx).2
   omega
theorem mkey_run (kind : Int) (v : List Int) (hd : Dig v) (h8 : v.length ≤ 8) : run tb 41 [.int .i64 kind, numsD v] = some [.int .i64 (keyS kind v), numsD (descI v)] := by
 refine run_ir (x := ir41) rfl ?_
 have h1 : run tb 58 [numsD v] = some [numsD (sortI v)] := run_ext rfl (by rw [show ext58 = sortE from rfl, sortE, fun1_run, if_pos (by omega)])
 have h2 : run tb 59 [numsD (sortI v)] = some [numsD (descI v)] := run_ext rfl (by rw [show ext59 = revE from rfl, revE, fun1_run, if_pos (by rw [sortI_len]; omega)]; rfl)
 have hl : (descI v).length = v.length := (descI_perm v).length_eq
 have hk : keyS kind v = keyT kind (descI v) := rfl
 have hdd : Dig (descI v) := fun x hx => hd x ((descI_perm v).mem_iff.1 hx)
 rw [hk]
 have c1 : ∀ (l : List Int) k e J, callQ (run tb) 1 false [0] k e J (some [numsD l]) = den (run tb) k (e ++ [numsD l]) J := fun l k e J => rfl
 generalize descI v = z at *
 simp (disch := omega) only [ir41, stepQ, stepL, eq_self, aBin, reduceIte, Int.reduceEq, Int.reduceLT, Int.reduceLE, Int.reduceGT, Int.reduceGE, h1, h2, c1, len_N]
 have hz : keyT kind (z.take 0) = 0 := by simp [keyT, mxF, baseF, sumF]
 show loopQ _ _ _ _ ([D.int .i64 0] ++ [.int .i64 ((0 : Nat) : Int)]) = _
 rw [show ([D.int .i64 0] : List D) = [D.int .i64 (keyT kind (z.take 0))] by rw [hz]]
 refine loop_k (σ := Unit) z.length (fun _ _ => True) (fun i _ => [.int .i64 (keyT kind (z.take i)), .int .i64 i]) (fun _ _ => [.int .i64 (keyT kind z), numsD z]) ?_ ?_ 0 () (Nat.zero_le _) trivial
 · rintro i _ L hi _ hL
   have hnext := hL () trivial
   have hg := get_N hi
   have hc := chk_N hi
   rw [List.take_add_one, List.getElem?_eq_getElem hi, Option.toList_some, keyT_snoc] at hnext
   obtain ⟨b1, b2⟩ := keyT_bound kind (v := z.take i) (fun x hx => hdd x (List.mem_of_mem_take hx)) (by rw [List.length_take]; omega)
   obtain ⟨d1, d2⟩ := hdd z[i] (List.getElem_mem hi)
   generalize keyT kind (z.take i) = T at *
   generalize z[i] = d at *
   by_cases k3 : kind = 3
   · rw [if_pos k3] at hnext
     simp (disch := omega) only [ir41p1, ir41p0, stepQ, stepL, eq_self, aBin, reduceIte, Int.reduceEq, Int.reduceLT, Int.reduceLE, Int.reduceGT, Int.reduceGE, hi, hg, hc, k3, ev_max, wr, natS, hnext]
   rw [if_neg k3] at hnext
   by_cases k2 : kind = 2
   · rw [if_pos k2] at hnext
     simp (disch := omega) only [ir41p1, ir41p0, stepQ, stepL, eq_self, aBin, reduceIte, Int.reduceEq, Int.reduceLT, Int.reduceLE, Int.reduceGT, Int.reduceGE, hi, hg, hc, k3, k2, wr, natS, hnext]
   · rw [if_neg k2] at hnext
     simp (disch := omega) only [ir41p1, ir41p0, stepQ, stepL, eq_self, aBin, reduceIte, Int.reduceEq, Int.reduceLT, Int.reduceLE, Int.reduceGT, Int.reduceGE, hi, hg, hc, k3, k2, wr, natS, hnext]
 · rintro _ L _
   rw [List.take_length]
   simp (disch := omega) only [ir41p1, stepQ, stepL, eq_self, aBin, reduceIte, Int.reduceEq, Int.reduceLT, Int.reduceLE, Int.reduceGT, Int.reduceGE, Nat.lt_irrefl]
theorem mranked_run (names : List (List UInt8)) (hv : vocOk names = true) (ms : List (BitVec 64)) (hm : Mods (2 ^ names.length) ms) (h8 : ms.length ≤ 8) (kind : Int) :
 run tb 28 [strsD names, bvsD ms, .int .i64 kind] = some [strsD names, numsD (mrgR (2 ^ names.length) ms kind), .int .i64 0] := by
 refine run_ir (x := ir28) rfl ?_
 have h6 := vocOk_len hv
 have h64 := pow6 h6
 have hkl : (keysL (2 ^ names.length) ms kind).length = 2 ^ names.length := by simp [keysL]
 have hno := normal_run names (keysL (2 ^ names.length) ms kind) (by omega) (by omega)
 rw [if_pos (by simp [normE, hv, hkl]), keys_norm hm h8] at hno
 have hmkN := mkN (n := 2 ^ names.length) (by omega)
 rw [← hkl, fill_zero, hkl] at hmkN
 have hV := fun w : Nat => mvector_run names hv ms hm (by omega) w kind
 have hK := fun w : Nat => mkey_run kind (vecS (2 ^ names.length) ms kind w) (vec_dig hm kind w) (by rw [vec_len]; exact h8)
 have hG := fun (w : Nat) (h : w < 2 ^ names.length) => keysL_get ms kind h
 show den _ _ _ _ = some [strsD names, numsD (normS (scoL (2 ^ names.length) ms kind)), .int .i64 0]
 simp (disch := omega) only [ir28, stepQ, stepL, eq_self, aBin, reduceIte, Int.reduceEq, Int.reduceLT, Int.reduceLE, Int.reduceGT, Int.reduceGE, shl_norm, nat_nn, len_S, hmkN]
 generalize normS (scoL (2 ^ names.length) ms kind) = R at *
 generalize hN : 2 ^ names.length = n at *
 generalize keysL n ms kind = K at *
 have hfl : ∀ i, (fillR K i).length = n := fun i => by simp [fillR, hkl]
 have hl3 : PO.eval .lenL [numsD (fillR K 0)] = some [.int .i64 n] := by rw [len_N, hfl]
 have c2 : ∀ (l : List Int) k e J, callQ (run tb) 1 false [0] k e J (some [numsD l]) = den (run tb) k (e ++ [numsD l]) J := fun l k e J => rfl
 have c3 : ∀ (x : Int) (l : List Int) k e J, callQ (run tb) 2 false [1] k e J (some [.int .i64 x, numsD l]) = den (run tb) k (e ++ [.int .i64 x, numsD l]) J := fun x l k e J => rfl
 simp (disch := omega) only [stepQ, stepL, eq_self, aBin, reduceIte, Int.reduceEq, Int.reduceLT, Int.reduceLE, Int.reduceGT, Int.reduceGE, hl3]
 refine loop_k (σ := Unit) n (fun _ _ => True) (fun i _ => [.int .i64 i, numsD (fillR K i)]) (fun _ _ => [strsD names, numsD R, .int .i64 0]) ?_ ?_ 0 () (Nat.zero_le _) trivial
 · rintro i _ L hi _ hL
   have hnext := hL () trivial
   rw [← fill_succ (by omega), hG i hi] at hnext
   have hc := chk_N (l := fillR K i) (i := i) (by rw [hfl]; exact hi)
   have hs := set_N (l := fillR K i) (i := i) (by rw [hfl]; exact hi) (keyS kind (vecS n ms kind i))
   have h1 := hV i
   have h2 := hK i
   simp (disch := omega) only [ir28p0, stepQ, stepL, eq_self, aBin, reduceIte, Int.reduceEq, Int.reduceLT, Int.reduceLE, Int.reduceGT, Int.reduceGE, hi, h1, c2, h2, c3, hc, hs, wr, natS, hnext]
 · rintro _ L _
   have he : fillR K n = K := by rw [← hkl]; exact fill_end _
   simp (disch := omega) only [ir28p0, stepQ, stepL, eq_self, aBin, reduceIte, Int.reduceEq, Int.reduceLT, Int.reduceLE, Int.reduceGT, Int.reduceGE, Nat.lt_irrefl, he, hno]
end Go.Proofs.YtejddbdoioppgaaGreatDoor

namespace Go.Proofs.YtejddbdoioppgaaGreatDoor
open Go Am
set_option maxRecDepth 100000
set_option linter.unusedSimpArgs false
set_option linter.unusedVariables false
theorem firstE_all {names : List (List UInt8)} : ∀ {fs : List F}, firstE names fs = 0 ↔ ∀ f ∈ fs, modelsE names f = 0
 | [] => by simp [firstE]
 | f :: l => by
  rw [firstE]
  by_cases h : modelsE names f = 0
  · rw [if_pos h, firstE_all]
    simp [h]
  · rw [if_neg h]
    exact ⟨fun h' => absurd h' h, fun h' => absurd (h' f List.mem_cons_self) h⟩
theorem models_in {names : List (List UInt8)} {f : F} {w : Nat} (h : has (modelsS names f) w) : vocOk names = true → w < 2 ^ names.length := fun hv => by
 unfold modelsS at h
 split at h
 · exact ((has_modN (vocOk_len hv)).1 h).1
 · simp [has] at h
theorem prE_ok {names : List (List UInt8)} {fs : List F} {kind : Int} (h : prE names fs kind = 0) : vocOk names = true ∧ 1 ≤ kind ∧ kind ≤ 4 ∧ fs.length ≤ 8 ∧ Mods (2 ^ names.length) (fs.map (modelsS names)) := by
 unfold prE at h
 cases hv : vocOk names with
 | false => rw [if_pos hv] at h; cases h
 | true =>
  rw [if_neg (by simp [hv])] at h
  split at h
  · cases h
  rename_i hk
  split at h
  · cases h
  rename_i hl
  split at h
  · rename_i h1; exact absurd h h1
  split at h
  · cases h
  rename_i hz
  refine ⟨rfl, by omega, by omega, by omega, fun X hX => ?_⟩
  have hne : X ≠ 0#64 := fun e => by subst e; exact hz (List.contains_iff_mem.2 hX)
  obtain ⟨w, hw⟩ := set_ne hne
  obtain ⟨f, _, rfl⟩ := List.mem_map.1 hX
  exact ⟨w, models_in hw hv, hw⟩
theorem morder_run (names : List (List UInt8)) (hl : names.length < 1000000000) (fs : List F) (hf : ∀ f ∈ fs, f.size < 1000000000) (hfl : fs.length < 1000000000) (kind : Int) :
 run tb 15 [strsD names, .sl (F.encs fs), .int .i64 kind] = some (if prE names fs kind = 0 then [strsD names, numsD (mrgR (2 ^ names.length) (fs.map (modelsS names)) kind), .int .i64 0] else [.sl [], .sl [], .int .i64 (prE names fs kind)]) := by
 refine run_ir (x := ir15) rfl ?_
 have h1 := mprofile_run names hl fs hf hfl kind
 by_cases c : prE names fs kind = 0
 · obtain ⟨hv, k1, k4, h8, hm⟩ := prE_ok c
   rw [if_pos c, c] at h1
   have h2 := mranked_run names hv (fs.map (modelsS names)) hm (by rw [List.length_map]; exact h8) kind
   rw [if_pos c]
   simp (disch := omega) only [ir15, stepQ, stepL, eq_self, aBin, reduceIte, Int.reduceEq, Int.reduceLT, Int.reduceLE, Int.reduceGT, Int.reduceGE, h1, ibne, h2]
 · rw [if_neg c] at h1 ⊢
   simp (disch := omega) only [ir15, stepQ, stepL, eq_self, aBin, reduceIte, Int.reduceEq, Int.reduceLT, Int.reduceLE, Int.reduceGT, Int.reduceGE, h1, ibne, c]
def mgE (names : List (List UInt8)) (fs : List F) (c : F) (kind : Int) : Int := if prE names fs kind ≠ 0 then prE names fs kind else modelsE names c
def mgA (names : List (List UInt8)) (fs : List F) (c : F) (kind : Int) : BitVec 64 := if mgE names fs c kind = 0 then leastS names (mrgR (2 ^ names.length) (fs.map (modelsS names)) kind) (modelsS names c) else 0#64
theorem mmerge_run (names : List (List UInt8)) (hl : names.length < 1000000000) (fs : List F) (hf : ∀ f ∈ fs, f.size < 1000000000) (hfl : fs.length < 1000000000) (c : F) (hc : c.size < 1000000000) (kind : Int) :
 run tb 12 [strsD names, .sl (F.encs fs), .int .i64 c.op, .str c.name, .sl (F.encs c.args), .int .i64 kind] = some [bvD (mgA names fs c kind), .int .i64 (mgE names fs c kind)] := by
 refine run_ir (x := ir12) rfl ?_
 have h1 := morder_run names hl fs hf hfl kind
 have h2 := modelsW_run names c hl hc
 simp only [rowF] at h2
 unfold mgA
 by_cases c1 : prE names fs kind = 0
 · have e : mgE names fs c kind = modelsE names c := by unfold mgE; rw [if_neg (by simp [c1])]
   rw [if_pos c1] at h1
   rw [e]
   by_cases c2 : modelsE names c = 0
   · have hle := prE_ok c1
     have h6 := vocOk_len hle.1
     have h64 := pow6 h6
     have h3 := leastO_run names (mrgR (2 ^ names.length) (fs.map (modelsS names)) kind) hl (by unfold mrgR; rw [norm_len, scoL_len]; omega) (modelsS names c)
     rw [c2] at h2
     rw [c2, if_pos rfl]
     simp (disch := omega) only [ir12, stepQ, stepL, eq_self, aBin, reduceIte, Int.reduceEq, Int.reduceLT, Int.reduceLE, Int.reduceGT, Int.reduceGE, h1, ibne, h2, h3]
   · rw [if_neg c2]
     simp (disch := omega) only [ir12, stepQ, stepL, eq_self, aBin, reduceIte, Int.reduceEq, Int.reduceLT, Int.reduceLE, Int.reduceGT, Int.reduceGE, bvQ, wu, shl_norm, shr_norm, and1_norm, h1, ibne, h2, c2]
 · have e : mgE names fs c kind = prE names fs kind := by unfold mgE; rw [if_pos c1]
   rw [if_neg c1] at h1
   rw [e, if_neg c1]
   simp (disch := omega) only [ir12, stepQ, stepL, eq_self, aBin, reduceIte, Int.reduceEq, Int.reduceLT, Int.reduceLE, Int.reduceGT, Int.reduceGE, bvQ, wu, shl_norm, shr_norm, and1_norm, h1, ibne, c1]
theorem mergeK_run {n : Nat} (hn : n ≤ 6) {fs : List F} {ks : List (BitVec 64)} (hk : fs.map (modelsS (vocN n)) = ks) (he : ∀ f ∈ fs, modelsE (vocN n) f = 0 ∧ f.size < 1000000000) (hks : ∀ X ∈ ks, X ≠ 0#64) (h8 : fs.length ≤ 8)
 {kind : Int} (k1 : 1 ≤ kind) (k4 : kind ≤ 4) {C : BitVec 64} (hC : ∀ w, has C w → w < 2 ^ n) :
 run tb 12 [strsD (vocN n), .sl (F.encs fs), .int .i64 (thy (vocN n) C).op, .str (thy (vocN n) C).name, .sl (F.encs (thy (vocN n) C).args), .int .i64 kind] = some [bvD (mrgS n ks kind C), .int .i64 0] := by
 have h1 := mmerge_run (vocN n) (by rw [vocN_len]; omega) fs (fun f hf => (he f hf).2) (by omega) (thy (vocN n) C) (thy_small hn C).1 kind
 have hm := thy_models (vocN_ok hn) C
 rw [and_all hn hC] at hm
 have hp : prE (vocN n) fs kind = 0 := by
  unfold prE
  rw [if_neg (by simp [vocN_ok hn]), if_neg (by omega), if_neg (by omega), if_neg (by simp [firstE_all.2 fun f hf => (he f hf).1]), if_neg]
  intro hc
  rw [hk] at hc
  exact hks _ (List.contains_iff_mem.1 hc) rfl
 have e : mgE (vocN n) fs (thy (vocN n) C) kind = 0 := by unfold mgE; rw [if_neg (by simp [hp]), hm.1]
 unfold mgA at h1
 rw [e, if_pos rfl, hk, hm.2, vocN_len] at h1
 exact h1
theorem thys_models {n : Nat} (hn : n ≤ 6) {ks : List (BitVec 64)} (h : ∀ X ∈ ks, ∀ w, has X w → w < 2 ^ n) : (ks.map (thy (vocN n))).map (modelsS (vocN n)) = ks := by
 rw [List.map_map]
 conv => rhs; rw [← List.map_id ks]
 refine List.map_congr_left fun X hX => ?_
 have hm := thy_models (vocN_ok hn) X
 rw [and_all hn (h X hX)] at hm
 exact hm.2
theorem thys_ok {n : Nat} (hn : n ≤ 6) (ks : List (BitVec 64)) : ∀ f ∈ ks.map (thy (vocN n)), modelsE (vocN n) f = 0 ∧ f.size < 1000000000 := fun f hf => by
 obtain ⟨X, _, rfl⟩ := List.mem_map.1 hf
 exact ⟨(thy_models (vocN_ok hn) X).1, (thy_small hn X).1⟩
theorem mergeT_run {n : Nat} (hn : n ≤ 6) {ks : List (BitVec 64)} (hks : ∀ X ∈ ks, X ≠ 0#64 ∧ ∀ w, has X w → w < 2 ^ n) (h8 : ks.length ≤ 8) {kind : Int} (k1 : 1 ≤ kind) (k4 : kind ≤ 4) {C : BitVec 64} (hC : ∀ w, has C w → w < 2 ^ n) :
 run tb 12 [strsD (vocN n), .sl (F.encs (ks.map (thy (vocN n)))), .int .i64 (thy (vocN n) C).op, .str (thy (vocN n) C).name, .sl (F.encs (thy (vocN n) C).args), .int .i64 kind] = some [bvD (mrgS n ks kind C), .int .i64 0] :=
 mergeK_run hn (thys_models hn fun X hX => (hks X hX).2) (thys_ok hn ks) (fun X hX => (hks X hX).1) (by rw [List.length_map]; exact h8) k1 k4 hC
theorem theory36_run {n : Nat} (hn : n ≤ 6) (S : BitVec 64) : run tb 11 [.int .i64 n, bvD S] = some [.int .i64 (thy (vocN n) (S &&& allS (vocN n))).op, .str (thy (vocN n) (S &&& allS (vocN n))).name, .sl (F.encs (thy (vocN n) (S &&& allS (vocN n))).args)] := by
 refine run_ir (x := ir11) rfl ?_
 have hv := vocN_ok hn
 have hvo := voc_run n (by omega)
 have h1 := all3_run (vocN n) (by rw [vocN_len]; omega) (fun s hs => by rw [vocN_short s hs]; omega)
 have h2 := theoryT_run (vocN n) hv (S &&& allS (vocN n))
 simp only [rowF, List.cons_append, List.nil_append] at h2
 simp (disch := omega) only [ir11, stepQ, stepL, eq_self, aBin, reduceIte, Int.reduceEq, Int.reduceLT, Int.reduceLE, Int.reduceGT, Int.reduceGE, bvQ, wu, shl_norm, shr_norm, and1_norm, hvo, h1, h2, callQ_S]
theorem theoryM_run {n : Nat} (hn : n ≤ 6) {X : BitVec 64} (hX : ∀ w, has X w → w < 2 ^ n) : run tb 11 [.int .i64 n, bvD X] = some [.int .i64 (thy (vocN n) X).op, .str (thy (vocN n) X).name, .sl (F.encs (thy (vocN n) X).args)] := by
 have := theory36_run hn X
 rw [and_all hn hX] at this
 exact this
theorem some36_run {n : Nat} (hn : n ≤ 6) (l : List Int) (hl : l.length ≤ 2000) (p : Nat) (hp : p ≤ l.length) :
 ∃ (K : BitVec 64) (b : Nat), b ≤ l.length ∧ K ≠ 0#64 ∧ (∀ w, has K w → w < 2 ^ n) ∧ run tb 14 [.int .i64 n, numsD l, .int .i64 p] = some [bvD K, numsD l, .int .i64 b] := by
 have h64 := pow6 hn
 have hpp := Nat.two_pow_pos n
 obtain ⟨r, b0, r0, r1, hb0, hr⟩ := n_run ((2 ^ n : Nat) : Int) l p hl hp (by omega) (by omega)
 obtain ⟨r, rfl⟩ := Int.eq_ofNat_of_zero_le r0
 obtain ⟨S1, b1, hb1, hS1⟩ := set_run l b0 hl hb0
 obtain ⟨S2, b2, hb2, hS2⟩ := set_run l b1 hl hb1
 have hvo := voc_run n (by omega)
 have hal := all3_run (vocN n) (by rw [vocN_len]; omega) (fun s hs => by rw [vocN_short s hs]; omega)
 have hA : allS (vocN n) = alW n := by unfold allS; rw [if_pos (vocN_ok hn), vocN_len]
 refine ⟨(S1 &&& S2 ||| 1#64 <<< r) &&& allS (vocN n), b2, hb2, ?_, all_sub hn _, run_ir (x := ir14) rfl ?_⟩
 · refine ne_of_has (w := r) (has_and.2 ⟨has_or.2 (.inr ?_), ?_⟩)
   · rw [has, one_shl_get _ _ (by omega)]; simp
   · rw [hA]; exact (has_bits h64).2 ⟨by omega, rfl⟩
 · have hwn : IntKind.u64.wrap (n : Int) = (n : Int) := wrapU (by omega) (by omega)
   have hr : run tb 16 [.int .i64 ((2 ^ n : Nat) : Int), numsD l, .int .i64 p] = some [.int .i64 r, numsD l, .int .i64 b0] := hr
   simp (disch := omega) only [ir14, stepQ, stepL, eq_self, aBin, reduceIte, Int.reduceEq, Int.reduceLT, Int.reduceLE, Int.reduceGT, Int.reduceGE, bvQ, wu, shl_norm, shr_norm, and1_norm, bv_convN, hr, hS1, hS2, hvo, hal, callQ_S]
theorem profile36_run {n : Nat} (hn : n ≤ 6) (most : Nat) (hmo : most < 1000) (l : List Int) (hl : l.length ≤ 2000) (p : Nat) (hp : p ≤ l.length) :
 ∃ (ks : List (BitVec 64)) (b : Nat), b ≤ l.length ∧ ks.length ≤ most ∧ (∀ X ∈ ks, X ≠ 0#64 ∧ ∀ w, has X w → w < 2 ^ n) ∧
  run tb 8 [.int .i64 most, .int .i64 n, numsD l, .int .i64 p] = some [.sl (F.encs (ks.map (thy (vocN n)))), bvsD ks, numsD l, .int .i64 b] := by
 obtain ⟨c, b0, c0, c1, hb0, hc⟩ := n_run ((most + 1 : Nat) : Int) l p hl hp (by omega) (by omega)
 obtain ⟨c, rfl⟩ := Int.eq_ofNat_of_zero_le c0
 have key := loop_kx (run := run tb) (body := ir8p0) (e := [.int .i64 most, .int .i64 n, numsD l, .int .i64 p, .int .i64 ((most + 1 : Nat) : Int), .int .i64 c, numsD l, .int .i64 b0]) (J := []) (σ := Nat × List (BitVec 64)) c
  (fun j s => s.1 ≤ l.length ∧ s.2.length = j ∧ ∀ X ∈ s.2, X ≠ 0#64 ∧ ∀ w, has X w → w < 2 ^ n) (fun j s => [.int .i64 ((c - j : Nat) : Int), numsD l, .int .i64 s.1, .sl (F.encs (s.2.map (thy (vocN n)))), bvsD s.2])
  (fun r => ∃ (ks : List (BitVec 64)) (b : Nat), b ≤ l.length ∧ ks.length ≤ most ∧ (∀ X ∈ ks, X ≠ 0#64 ∧ ∀ w, has X w → w < 2 ^ n) ∧ r = [.sl (F.encs (ks.map (thy (vocN n)))), bvsD ks, numsD l, .int .i64 b])
  (by
   rintro j ⟨q, ks⟩ L hj ⟨hq, hfl, hfs⟩ hL
   simp only at hq hfl hfs
   obtain ⟨K, q', hq', hK0, hKs, hr⟩ := some36_run hn l hl q hq
   have ht := theoryM_run hn hKs
   obtain ⟨r, hr1, hpost⟩ := hL (q', ks ++ [K]) ⟨hq', by simp [hfl], fun X hX => by
    rcases List.mem_append.1 hX with hX | hX
    · exact hfs X hX
    · rw [List.mem_singleton.1 hX]; exact ⟨hK0, hKs⟩⟩
   refine ⟨r, ?_, hpost⟩
   simp only [List.map_append, List.map_cons, List.map_nil] at hr1
   have hpos : 0 < c - j := by omega
   have hgt : ((c - j : Nat) : Int) > 0 := by omega
   have hsub : IntKind.i64.wrap (((c - j : Nat) : Int) - 1) = ((c - (j + 1) : Nat) : Int) := by rw [wr (by omega) (by omega)]; omega
   have a1 := app_F (l := ks.map (thy (vocN n))) (g := thy (vocN n) K) (by rw [List.length_map]; omega)
   have a2 := app_V1 (l := ks) (a := K) (by omega)
   simp (disch := omega) only [ir8p0, stepQ, stepL, eq_self, aBin, reduceIte, Int.reduceEq, Int.reduceLT, Int.reduceLE, Int.reduceGT, Int.reduceGE, hgt, hr, ht, a1, a2, hsub, hr1])
  (by
   rintro ⟨q, ks⟩ L ⟨hq, hfl, hfs⟩
   simp only at hq hfl hfs
   refine ⟨_, ?_, ks, q, hq, by omega, hfs, rfl⟩
   have hgt : ¬ ((c - c : Nat) : Int) > 0 := by omega
   simp (disch := omega) only [ir8p0, stepQ, stepL, eq_self, aBin, reduceIte, Int.reduceEq, Int.reduceLT, Int.reduceLE, Int.reduceGT, Int.reduceGE, hgt])
 obtain ⟨r, hr, ks, b, k1, k2, k3, rfl⟩ := key 0 (b0, []) (Nat.zero_le _) ⟨hb0, rfl, by simp⟩
 refine ⟨ks, b, k1, k2, k3, run_ir (x := ir8) rfl ?_⟩
 simp only [Nat.sub_zero, F.encs, List.map_nil, show bvsD [] = D.sl [] from rfl] at hr
 simp (disch := omega) only [ir8, stepQ, stepL, eq_self, aBin, reduceIte, Int.reduceEq, Int.reduceLT, Int.reduceLE, Int.reduceGT, Int.reduceGE, wr, natS, hc]
 simpa only [List.cons_append, List.nil_append] using hr
theorem awake36_run : run tb 13 [] = some [.bool true] := by
 refine run_ir (x := ir13) rfl ?_
 have hv2 : run tb 7 [.int .i64 2] = some [strsD (vocN 2)] := voc_run 2 (by omega)
 have sh : ∀ {X : BitVec 64}, (∀ w, w < 64 → 4 ≤ w → ¬ has X w) → ∀ w, has X w → w < 2 ^ 2 := fun h w hw => Decidable.byContradiction fun hc => h w (has_lt hw) (by omega) hw
 have x8 : ∀ w, has (8#64) w → w < 2 ^ 2 := sh (by decide +kernel)
 have x1 : ∀ w, has (1#64) w → w < 2 ^ 2 := sh (by decide +kernel)
 have x15 : ∀ w, has (15#64) w → w < 2 ^ 2 := sh (by decide +kernel)
 have t8 : run tb 11 [.int .i64 2, bvD 8#64] = _ := theoryM_run (n := 2) (by omega) x8
 have t1 : run tb 11 [.int .i64 2, bvD 1#64] = _ := theoryM_run (n := 2) (by omega) x1
 have t15 : run tb 11 [.int .i64 2, bvD 15#64] = _ := theoryM_run (n := 2) (by omega) x15
 have hks : ∀ X ∈ [8#64, 8#64, (1#64 : BitVec 64)], X ≠ 0#64 ∧ ∀ w, has X w → w < 2 ^ 2 := by
  intro X hX
  simp only [List.mem_cons, List.not_mem_nil, or_false] at hX
  rcases hX with rfl | rfl | rfl
  · exact ⟨by decide, x8⟩
  · exact ⟨by decide, x8⟩
  · exact ⟨by decide, x1⟩
 have m1 := mergeT_run (n := 2) (by omega) hks (by decide) (kind := 1) (by omega) (by omega) x15
 have m2 := mergeT_run (n := 2) (by omega) hks (by decide) (kind := 2) (by omega) (by omega) x15
 have m3 := mergeT_run (n := 2) (by omega) hks (by decide) (kind := 3) (by omega) (by omega) x15
 have m4 := mergeT_run (n := 2) (by omega) hks (by decide) (kind := 4) (by omega) (by omega) x15
 rw [show mrgS 2 [8#64, 8#64, 1#64] 1 15#64 = 8#64 by decide +kernel] at m1
 rw [show mrgS 2 [8#64, 8#64, 1#64] 2 15#64 = 6#64 by decide +kernel] at m2
 rw [show mrgS 2 [8#64, 8#64, 1#64] 3 15#64 = 6#64 by decide +kernel] at m3
 rw [show mrgS 2 [8#64, 8#64, 1#64] 4 15#64 = 8#64 by decide +kernel] at m4
 have mk : ∀ f g h : F, PO.eval (.mk 3 3) [.int .i64 f.op, .str f.name, .sl (F.encs f.args), .int .i64 g.op, .str g.name, .sl (F.encs g.args), .int .i64 h.op, .str h.name, .sl (F.encs h.args)] = some [.sl (F.encs [f, g, h])] := fun f g h => by simp [PO.eval, chunks, F.encs, F.enc_eq]
 simp only [List.map_cons, List.map_nil] at m1 m2 m3 m4
 have l8 : D.int .u64 8 = bvD 8#64 := rfl
 have l1 : D.int .u64 1 = bvD 1#64 := rfl
 have l15 : D.int .u64 15 = bvD 15#64 := rfl
 have l6 : D.int .u64 6 = bvD 6#64 := rfl
 generalize thy (vocN 2) 8#64 = f8 at *
 generalize thy (vocN 2) 1#64 = f1 at *
 generalize thy (vocN 2) 15#64 = f15 at *
 simp (disch := omega) only [ir13, stepQ, stepL, eq_self, aBin, reduceIte, Int.reduceEq, Int.reduceLT, Int.reduceLE, Int.reduceGT, Int.reduceGE, bvQ, wu, shl_norm, shr_norm, and1_norm, l8, l1, l15, l6, hv2, callQ_S, t8, t1, t15, mk, m1, m2, m3, m4, callQ_tvi]
end Go.Proofs.YtejddbdoioppgaaGreatDoor

namespace Go.Proofs.YtejddbdoioppgaaGreatDoor
open Go Am
set_option maxRecDepth 100000
set_option linter.unusedSimpArgs false
set_option linter.unusedVariables false
end Go.Proofs.YtejddbdoioppgaaGreatDoor

namespace Go.Proofs.YtejddbdoioppgaaGreatDoor
open Go Am
set_option maxRecDepth 100000
set_option linter.unusedSimpArgs false
set_option linter.unusedVariables false
end Go.Proofs.YtejddbdoioppgaaGreatDoor

namespace Go.Proofs.YtejddbdoioppgaaGreatDoor
open Go Am
set_option maxRecDepth 100000
set_option linter.unusedSimpArgs false
set_option linter.unusedVariables false
theorem hasR_run (x : BitVec 64) (w : Nat) (h : w < 9223372036854775808) : run tb 19 [bvD x, .int .i64 w] = some [.bool (x.getLsbD w)] := by
 refine run_ir (x := ir19) rfl ?_
 simp (disch := omega) only [ir19, stepQ, stepL, eq_self, aBin, reduceIte, Int.reduceEq, Int.reduceLT, Int.reduceLE, Int.reduceGT, Int.reduceGE, bvQ, wu, shl_norm, shr_norm, and1_norm]
theorem distR_run (v w : Int) : run tb 20 [.int .i64 v, .int .i64 w] = some [.int .i64 (ones (dif v w) 64)] := by
 refine run_ir (x := ir20) rfl ?_
 rw [show ones (dif v w) 64 = ones (dif v w) 6 from ones_6 _ (dif_6 v w) 58]
 simp (disch := omega) only [ir20, stepQ, stepL, eq_self, aBin, reduceIte, Int.reduceEq, Int.reduceLT, Int.reduceLE, Int.reduceGT, Int.reduceGE]
 refine loop_k (σ := Unit) 6 (fun _ _ => True) (fun i _ => [.int .i64 (ones (dif v w) i), .int .i64 i]) (fun _ _ => [.int .i64 (ones (dif v w) 6)]) ?_ ?_ 0 () (Nat.zero_le _) trivial
 · rintro i _ L hi _ hL
   have hnext := hL () trivial
   have hi' : (i : Int) < 6 := by omega
   have hle : ones (dif v w) i ≤ 64 := by
    have : ∀ k, ones (dif v w) k ≤ k := fun k => by
     induction k with
     | zero => exact Nat.le_refl _
     | succ k ih =>
      have : ((dif v w).getLsbD k).toNat ≤ 1 := by cases (dif v w).getLsbD k <;> simp
      simp only [ones]; omega
    have := this i; omega
   rw [show ones (dif v w) (i + 1) = ones (dif v w) i + ((dif v w).getLsbD i).toNat from rfl, dif_get, decide_eq_true hi, Bool.true_and] at hnext
   have hwu : IntKind.u64.wrap (i : Int) = (i : Int) := wrapU (by omega) (by omega)
   have e1 := bitI v i (by omega)
   have e2 := bitI w i (by omega)
   cases hx : (BitVec.ofInt 64 v).getLsbD i <;> cases hy : (BitVec.ofInt 64 w).getLsbD i <;>
   · rw [hx, hy] at hnext
     rw [hx] at e1
     rw [hy] at e2
     simp only [Bool.xor_false, Bool.xor_true, Bool.not_true, Bool.not_false, Bool.toNat_true, Bool.toNat_false, Nat.add_zero, Bool.false_eq_true, if_true, if_false, Bool.xor_self] at hnext e1 e2
     simp (disch := omega) only [ir20p1, ir20p0, stepQ, stepL, eq_self, aBin, reduceIte, Int.reduceEq, Int.reduceLT, Int.reduceLE, Int.reduceGT, Int.reduceGE, hwu, nat_nn, hi', e1, e2, ibne, wr, natS, hnext]
 · rintro _ L _
   simp (disch := omega) only [ir20p1, stepQ, stepL, eq_self, aBin, reduceIte, Int.reduceEq, Int.reduceLT, Int.reduceLE, Int.reduceGT, Int.reduceGE]
theorem mod7_run (x : Int) (h0 : 0 ≤ x) (h6 : x ≤ 6) : run tb 29 [.int .i64 x, .int .i64 7] = some [.int .i64 x] := by
 have e : Int.tmod x 7 = x := Int.tmod_eq_of_lt h0 (by omega)
 have h : ¬ x < 0 := by omega
 have hw : IntKind.i64.wrap x = x := wr (by omega) (by omega)
 refine run_ir (x := ir29) rfl ?_
 simp [ir29, ir29p0, den, PO.eval, SA.val, one1, aBin, e, hw, h, go_sem]
theorem base_snoc (v : List Int) (d : Int) : baseF (v ++ [d]) = baseF v * 7 + d := by simp [baseF]
theorem sum_snoc (v : List Int) (d : Int) : sumF id (v ++ [d]) = sumF id v + d := by simp [sumF]
theorem key36_run (kind : Int) (v : List Int) (hd : Dig v) (h8 : v.length ≤ 8) : run tb 18 [numsD v, .int .i64 kind] = some [.int .i64 (keyS kind v)] := by
 refine run_ir (x := ir18) rfl ?_
 have a0 : PO.eval (.app 1 8) [.sl [], numsD v] = some [numsD v] := by
  unfold numsD
  rw [ev_app (by simp; omega) (by simp; omega) (by simp [numR])]
  rfl
 simp (disch := omega) only [ir18, stepQ, stepL, eq_self, aBin, reduceIte, Int.reduceEq, Int.reduceLT, Int.reduceLE, Int.reduceGT, Int.reduceGE, a0]
 refine loop_k (σ := List Int) v.length (fun i s => s.Perm v ∧ DownTo i s) (fun i s => [.int .i64 (baseF (s.take i)), .int .i64 (sumF id (s.take i)), .int .i64 i, numsD s]) (fun _ _ => [.int .i64 (keyS kind v)]) ?_ ?_ 0 v (Nat.zero_le _) ⟨List.Perm.refl _, fun a b h => by omega⟩
 · rintro i s L hi ⟨hp, hdn⟩ hL
   have hsl := hp.length_eq
   simp (disch := omega) only [ir18p2, stepQ, stepL, eq_self, aBin, reduceIte, Int.reduceEq, Int.reduceLT, Int.reduceLE, Int.reduceGT, Int.reduceGE, len_N, hsl, hi, wr, natS]
   refine loop_k (σ := List Int) v.length (fun k t => i < k ∧ InnerTo v i k s t) (fun k t => [.int .i64 k, numsD t]) (fun _ _ => [.int .i64 (keyS kind v)]) ?_ ?_ (i + 1) s (by omega) ⟨by omega, InnerTo.start hp hdn⟩
   · rintro k t M hk ⟨hik, ht⟩ hM
     have htl := ht.perm.length_eq
     have hi' : i < t.length := by omega
     have hk' : k < t.length := by omega
     have gi := get_N hi'
     have gk := get_N hk'
     have ci := chk_N hi'
     have ck := chk_N hk'
     by_cases c : t[k] > t[i]
     · have hnext := hM ((t.set i t[k]).set k t[i]) ⟨by omega, ht.swap hik hi' hk' (by simpa [hi', hk'] using c)⟩
       have s1 := set_N hi' t[k]
       have ck2 := chk_N (l := t.set i t[k]) (i := k) (by simp; omega)
       have s2 := set_N (l := t.set i t[k]) (i := k) (by simp; omega) t[i]
       simp (disch := omega) only [ir18p1, ir18p0, stepQ, stepL, eq_self, aBin, reduceIte, Int.reduceEq, Int.reduceLT, Int.reduceLE, Int.reduceGT, Int.reduceGE, len_N, htl, hk, gi, gk, ci, ck, c, s1, ck2, s2, wr, natS, hnext]
     · have hnext := hM t ⟨by omega, ht.keep (by simp [hi', hk']; omega)⟩
       simp (disch := omega) only [ir18p1, ir18p0, stepQ, stepL, eq_self, aBin, reduceIte, Int.reduceEq, Int.reduceLT, Int.reduceLE, Int.reduceGT, Int.reduceGE, len_N, htl, hk, gi, gk, ci, ck, c, wr, natS, hnext]
   · rintro t M ⟨_, ht⟩
     have htl := ht.perm.length_eq
     have hi' : i < t.length := by omega
     have gi := get_N hi'
     have ci := chk_N hi'
     have hnext := hL t ⟨ht.perm, InnerTo.done (s := s) (htl ▸ ht)⟩
     have hdt : Dig t := fun x hx => hd x (ht.perm.mem_iff.1 hx)
     obtain ⟨d0, d6⟩ := hdt t[i] (List.getElem_mem hi')
     have hdk : Dig (t.take i) := fun x hx => hdt x (List.mem_of_mem_take hx)
     have b1 := baseF_bound hdk
     have b2 := sumF_nn (f := id) (v := t.take i) fun x hx => (hdk x hx).1
     have b3 := sumF_bound (f := id) (c := 6) (v := t.take i) fun x hx => (hdk x hx).2
     have b4 : (t.take i).length ≤ 8 := by rw [List.length_take]; omega
     have hp7 : (7 : Int) ^ (t.take i).length ≤ 7 ^ 8 := by exact_mod_cast Nat.pow_le_pow_right (by omega : 0 < 7) b4
     have h78 : (7 : Int) ^ 8 = 5764801 := by decide
     rw [List.take_add_one, List.getElem?_eq_getElem hi', Option.toList_some, base_snoc, sum_snoc, ht.take] at hnext
     rw [ht.take] at b1 b2 b3 b4 hp7
     have hm := mod7_run t[i] d0 d6
     generalize baseF (s.take i) = B at *
     generalize sumF id (s.take i) = Q at *
     generalize (7 : Int) ^ (s.take i).length = E7 at *
     generalize t[i] = d at *
     have hB : B < 5764801 := by omega
     have hQ : Q ≤ 48 := by omega
     simp (disch := omega) only [ir18p1, stepQ, stepL, eq_self, aBin, reduceIte, Int.reduceEq, Int.reduceLT, Int.reduceLE, Int.reduceGT, Int.reduceGE, len_N, htl, Nat.lt_irrefl, gi, ci, hm, wr, natS, hnext]
 · rintro s L ⟨hp, hdn⟩
   have hsl := hp.length_eq
   have hs := down_desc hp (hsl ▸ hdn)
   subst hs
   have hdh := desc_head v hd
   have hk : keyS kind v = keyT kind (descI v) := rfl
   rw [hk]
   unfold keyT
   rw [← hsl, List.take_length]
   generalize descI v = z at *
   by_cases k3 : kind = 3
   · subst k3
     rw [if_pos rfl]
     by_cases hz : z.length = 0
     · have : z = [] := List.length_eq_zero_iff.1 hz
       subst this
       simp (disch := omega) only [ir18p2, stepQ, stepL, eq_self, aBin, reduceIte, Int.reduceEq, Int.reduceLT, Int.reduceLE, Int.reduceGT, Int.reduceGE, len_N, List.length_nil, Nat.lt_irrefl, ibne, Int.reduceEq, mxF, List.foldl_nil]
     · have hz0 : 0 < z.length := by omega
       have g0 : PO.eval (.get 0 1) [numsD z, .int .i64 0] = some [.int .i64 z[0]] := get_N hz0
       have c0 : PO.eval .chk [numsD z, .int .i64 0] = some [] := chk_N hz0
       rw [hdh hz0]
       have hne : ¬ ((z.length : Int) = 0) := by omega
       simp (disch := omega) only [ir18p2, stepQ, stepL, eq_self, aBin, reduceIte, Int.reduceEq, Int.reduceLT, Int.reduceLE, Int.reduceGT, Int.reduceGE, len_N, Nat.lt_irrefl, ibne, Int.reduceEq, hne, g0, c0]
   rw [if_neg k3]
   by_cases k2 : kind = 2
   · rw [if_pos k2]
     simp (disch := omega) only [ir18p2, stepQ, stepL, eq_self, aBin, reduceIte, Int.reduceEq, Int.reduceLT, Int.reduceLE, Int.reduceGT, Int.reduceGE, len_N, Nat.lt_irrefl, k2]
   · rw [if_neg k2]
     simp (disch := omega) only [ir18p2, stepQ, stepL, eq_self, aBin, reduceIte, Int.reduceEq, Int.reduceLT, Int.reduceLE, Int.reduceGT, Int.reduceGE, len_N, Nat.lt_irrefl, ibne, k2, k3]
theorem prE_thys {n : Nat} (hn : n ≤ 6) {ks : List (BitVec 64)} (hks : ∀ X ∈ ks, X ≠ 0#64 ∧ ∀ w, has X w → w < 2 ^ n) (h8 : ks.length ≤ 8) {kind : Int} (k1 : 1 ≤ kind) (k4 : kind ≤ 4) : prE (vocN n) (ks.map (thy (vocN n))) kind = 0 := by
 unfold prE
 rw [if_neg (by simp [vocN_ok hn]), if_neg (by omega), if_neg (by rw [List.length_map]; omega), if_neg (by simp [firstE_all.2 fun f hf => (thys_ok hn ks f hf).1]), if_neg]
 intro hc
 rw [thys_models hn fun X hX => (hks X hX).2] at hc
 exact (hks _ (List.contains_iff_mem.1 hc)).1 rfl
theorem mVector_run {n : Nat} (hn : n ≤ 6) {ks : List (BitVec 64)} (hks : ∀ X ∈ ks, X ≠ 0#64 ∧ ∀ w, has X w → w < 2 ^ n) (h8 : ks.length ≤ 8) {kind : Int} (k1 : 1 ≤ kind) (k4 : kind ≤ 4) {w : Nat} (hw : w < 2 ^ n) :
 run tb 17 [strsD (vocN n), .sl (F.encs (ks.map (thy (vocN n)))), .int .i64 w, .int .i64 kind] = some [numsD (vecS (2 ^ n) ks kind w), .int .i64 0] := by
 refine run_ir (x := ir17) rfl ?_
 have hp := prE_thys hn hks h8 k1 k4
 have h1 := mprofile_run (vocN n) (by rw [vocN_len]; omega) (ks.map (thy (vocN n))) (fun f hf => (thys_ok hn ks f hf).2) (by rw [List.length_map]; omega) kind
 obtain ⟨hv, _, _, _, hm⟩ := prE_ok hp
 rw [hp, if_pos rfl] at h1
 rw [thys_models hn fun X hX => (hks X hX).2] at h1 hm
 have h2 := mvector_run (vocN n) hv ks hm (by omega) w kind
 rw [vocN_len] at h2
 have c1 : ∀ (l : List Int) k e J, callQ (run tb) 1 false [0] k e J (some [numsD l]) = den (run tb) k (e ++ [numsD l]) J := fun l k e J => rfl
 have h64 := pow6 hn
 have hlt : ¬ ((w : Int) < 0) := by omega
 have hge : ¬ w ≥ 2 ^ n := by omega
 simp (disch := omega) only [ir17, ir17p0, stepQ, stepL, eq_self, aBin, reduceIte, Int.reduceEq, Int.reduceLT, Int.reduceLE, Int.reduceGT, Int.reduceGE, h1, ibne, hlt, len_S, vocN_len, shl_norm, nat_nn, hge, h2, c1]
theorem vectors36_run (l0 : List Int) : run tb 4 [numsD l0] = some [.bool true] := by
 have aw := awake36_run
 obtain ⟨l, hl, hn⟩ := new_run l0
 obtain ⟨r, p, r1, r2, hp, hr⟩ := range_run 1 3 l 0 hl (by omega) (by omega) (by omega) (by omega)
 obtain ⟨n, rfl⟩ := Int.eq_ofNat_of_zero_le (show 0 ≤ r by omega)
 have hr : run tb 6 [.int .i64 1, .int .i64 3, numsD l, .int .i64 0] = some [.int .i64 n, numsD l, .int .i64 p] := hr
 have hn6 : n ≤ 6 := by omega
 have h64 := pow6 hn6
 have hpp := Nat.two_pow_pos n
 have hvo := voc_run n (by omega)
 obtain ⟨k, p1, k1, k4, hp1, hk⟩ := range_run 1 4 l p hl hp (by omega) (by omega) (by omega)
 obtain ⟨ks, p2, hp2, hkl, hks, hpk⟩ := profile36_run hn6 4 (by omega) l hl p1 hp1
 have hpk : run tb 8 [.int .i64 4, .int .i64 n, numsD l, .int .i64 p1] = _ := hpk
 have hpE := prE_thys hn6 hks (by omega) k1 k4
 have ho := morder_run (vocN n) (by rw [vocN_len]; omega) (ks.map (thy (vocN n))) (fun f hf => (thys_ok hn6 ks f hf).2) (by rw [List.length_map]; omega) k
 obtain ⟨_, _, _, _, hm⟩ := prE_ok hpE
 rw [if_pos hpE, thys_models hn6 fun X hX => (hks X hX).2, vocN_len] at ho
 rw [thys_models hn6 fun X hX => (hks X hX).2, vocN_len] at hm
 obtain ⟨a, p3, a0, a1, hp3, ha⟩ := n_run ((2 ^ n : Nat) : Int) l p2 hl hp2 (by omega) (by omega)
 obtain ⟨a, rfl⟩ := Int.eq_ofNat_of_zero_le a0
 obtain ⟨b, p4, b0, b1, hp4, hb⟩ := n_run ((2 ^ n : Nat) : Int) l p3 hl hp3 (by omega) (by omega)
 obtain ⟨b, rfl⟩ := Int.eq_ofNat_of_zero_le b0
 have ha : run tb 16 [.int .i64 ((2 ^ n : Nat) : Int), numsD l, .int .i64 p2] = some [.int .i64 a, numsD l, .int .i64 p3] := ha
 have hb : run tb 16 [.int .i64 ((2 ^ n : Nat) : Int), numsD l, .int .i64 p3] = some [.int .i64 b, numsD l, .int .i64 p4] := hb
 have a1 : a < 2 ^ n := by omega
 have b1 : b < 2 ^ n := by omega
 have v1 := mVector_run hn6 hks (by omega) k1 k4 a1
 have v2 := mVector_run hn6 hks (by omega) k1 k4 b1
 have q1 := key36_run k (vecS (2 ^ n) ks k a) (vec_dig hm k a) (by rw [vec_len]; omega)
 have q2 := key36_run k (vecS (2 ^ n) ks k b) (vec_dig hm k b) (by rw [vec_len]; omega)
 have hRl : (mrgR (2 ^ n) ks k).length = 2 ^ n := by unfold mrgR; rw [norm_len, scoL_len]
 have w1 := row_N (l := mrgR (2 ^ n) ks k) (i := a) (by rw [hRl]; exact a1)
 have w2 := row_N (l := mrgR (2 ^ n) ks k) (i := b) (by rw [hRl]; exact b1)
 have f1 : decide (keyS k (vecS (2 ^ n) ks k a) < keyS k (vecS (2 ^ n) ks k b)) = decide ((mrgR (2 ^ n) ks k)[a]'(by rw [hRl]; exact a1) < (mrgR (2 ^ n) ks k)[b]'(by rw [hRl]; exact b1)) := by
  refine decide_eq_decide.2 ?_
  rw [key_lt (by rw [vec_len, vec_len]) (by rw [vec_len]; omega) (vec_dig hm k a) (vec_dig hm k b), ← mrg_lt ks k a1 b1]
  have g : ∀ (t : List Int) (i : Nat) (h : i < t.length), t.getD i 0 = t[i] := fun t i h => by simp [h]
  rw [g _ a (by rw [hRl]; exact a1), g _ b (by rw [hRl]; exact b1)]
 have la := len_N (vecS (2 ^ n) ks k a)
 have lb := len_N (vecS (2 ^ n) ks k b)
 rw [vec_len] at la lb
 have lR := len_N (mrgR (2 ^ n) ks k)
 rw [hRl] at lR
 have lk : PO.eval .lenL [.sl (F.encs (ks.map (thy (vocN n))))] = some [.int .i64 (ks.length : Nat)] := by rw [len_F, List.length_map]
 obtain ⟨M, p5, hp5, hM0, hM, hrM⟩ := some36_run hn6 l hl p4 hp4
 obtain ⟨C, p6, hp6, hC0, hC, hrC⟩ := some36_run hn6 l hl p5 hp5
 have tM := theoryM_run hn6 hM
 have tC := theoryM_run hn6 hC
 have mg := mergeT_run hn6 (ks := [M]) (fun X hX => by rw [List.mem_singleton.1 hX]; exact ⟨hM0, hM⟩) (by simp) (kind := 1) (by omega) (by omega) hC
 simp only [List.map_cons, List.map_nil] at mg
 have mk1 : ∀ f : F, PO.eval (.mk 3 1) [.int .i64 f.op, .str f.name, .sl (F.encs f.args)] = some [.sl (F.encs [f])] := fun f => by simp [PO.eval, chunks, F.encs, F.enc_eq]
 have nbb : ∀ b : Bool, PO.eval (.bin .neq true) [.bool b, .bool b] = some [.bool false] := fun b => by cases b <;> rfl
 have fin := fun (b : Nat) (X : BitVec 64) h => near_mrg hn6 hC hM hM0 (b := b) (X := X) h
 have hnil := NearBy.nil (P := paired (2 ^ n) C M 0 0) (fun z v => ones (dif (z : Int) (v : Int)) 64) (fun z v h => by unfold paired at h; omega)
 generalize mrgS n [M] 1 C = Z at *
 generalize keyS k (vecS (2 ^ n) ks k a) = x at *
 generalize keyS k (vecS (2 ^ n) ks k b) = y at *
 generalize (mrgR (2 ^ n) ks k)[a]'(by rw [hRl]; exact a1) = rx at *
 generalize (mrgR (2 ^ n) ks k)[b]'(by rw [hRl]; exact b1) = ry at *
 generalize vecS (2 ^ n) ks k a = va at *
 generalize vecS (2 ^ n) ks k b = vb at *
 generalize mrgR (2 ^ n) ks k = R at *
 refine run_ir (x := ir4) rfl ?_
 simp (disch := omega) only [ir4, ir4p5, ir4p4, stepQ, stepL, eq_self, aBin, reduceIte, Int.reduceEq, Int.reduceLT, Int.reduceLE, Int.reduceGT, Int.reduceGE, bvQ, wu, shl_norm, shr_norm, and1_norm, bv_convN, hn, hr, hvo, hk, hpk, ho, ha, hb, v1, v2, q1, q2, w1, w2, f1, la, lb, lR, lk, hrM, hrC, tM, tC, mg, mk1, nbb, callQ_S, callQ_tvi, ibne]
 obtain ⟨KK, eKK⟩ : ∃ K, 2 ^ n = K := ⟨_, rfl⟩
 rw [eKK] at fin hnil h64
 rw [eKK]
 refine loop_k (σ := Nat × BitVec 64) KK (fun w s => NearBy (paired KK C M w 0) (fun z v => ones (dif (z : Int) (v : Int)) 64) s.1 s.2) (fun w s => [.int .i64 (s.1 : Nat), bvD s.2, .int .i64 w]) (fun _ _ => [.bool true]) ?_ ?_ 0 (100, 0#64) (Nat.zero_le _) hnil
 · rintro w ⟨b, X⟩ L hw hI hL
   simp only at hI
   simp (disch := omega) only [ir4p3, stepQ, stepL, eq_self, aBin, reduceIte, Int.reduceEq, Int.reduceLT, Int.reduceLE, Int.reduceGT, Int.reduceGE, bvQ, wu, shl_norm, shr_norm, and1_norm, bv_convN, shl_norm, eKK, hw]
   refine loop_k (σ := Nat × BitVec 64) KK (fun u s => NearBy (paired KK C M w u) (fun z v => ones (dif (z : Int) (v : Int)) 64) s.1 s.2) (fun u s => [.int .i64 (s.1 : Nat), bvD s.2, .int .i64 u]) (fun _ _ => [.bool true]) ?_ ?_ 0 (b, X) (Nat.zero_le _) hI
   · rintro u ⟨b, X⟩ J hu hI hJ
     simp only at hI
     have hC1 := hasR_run C w (by omega)
     have hM1 := hasR_run M u (by omega)
     have hd := distR_run (w : Int) (u : Int)
     cases c1 : C.getLsbD w with
     | false =>
      have hnext := hJ (b, X) (hI.congr (seen_skip (fun h => by have := h.1; simp [has, c1] at this)))
      rw [c1] at hC1
      simp (disch := omega) only [ir4p2, ir4p1, ir4p0, stepQ, stepL, eq_self, aBin, reduceIte, Int.reduceEq, Int.reduceLT, Int.reduceLE, Int.reduceGT, Int.reduceGE, bvQ, wu, shl_norm, shr_norm, and1_norm, bv_convN, shl_norm, eKK, hu, hC1, wr, natS, hnext]
     | true =>
     rw [c1] at hC1
     cases c2 : M.getLsbD u with
     | false =>
      have hnext := hJ (b, X) (hI.congr (seen_skip (fun h => by have := h.2; simp [has, c2] at this)))
      rw [c2] at hM1
      simp (disch := omega) only [ir4p2, ir4p1, ir4p0, stepQ, stepL, eq_self, aBin, reduceIte, Int.reduceEq, Int.reduceLT, Int.reduceLE, Int.reduceGT, Int.reduceGE, bvQ, wu, shl_norm, shr_norm, and1_norm, bv_convN, shl_norm, eKK, hu, hC1, hM1, wr, natS, hnext]
     | true =>
     rw [c2] at hM1
     have hadd := seen_add (C := C) (M := M) hw hu c1 c2
     obtain ⟨d, hdd⟩ : ∃ d, ones (dif (w : Int) (u : Int)) 64 = d := ⟨_, rfl⟩
     rw [hdd] at hd
     rcases Nat.lt_trichotomy d b with c | c | c
     · have hnext := hJ (d, 1#64 <<< w) (by rw [← hdd]; exact (hI.lt (w := w) (u := u) (by omega) (by simp only [hdd]; exact c)).congr hadd)
       simp (disch := omega) only [ir4p2, ir4p1, ir4p0, stepQ, stepL, eq_self, aBin, reduceIte, Int.reduceEq, Int.reduceLT, Int.reduceLE, Int.reduceGT, Int.reduceGE, bvQ, wu, shl_norm, shr_norm, and1_norm, bv_convN, shl_norm, eKK, hu, hC1, hM1, hd, c, wr, natS, hnext]
     · have hnext := hJ (b, X ||| 1#64 <<< w) ((hI.eq (w := w) (u := u) (by omega) (by simp only [hdd]; exact c)).congr hadd)
       subst c
       simp (disch := omega) only [ir4p2, ir4p1, ir4p0, stepQ, stepL, eq_self, aBin, reduceIte, Int.reduceEq, Int.reduceLT, Int.reduceLE, Int.reduceGT, Int.reduceGE, bvQ, wu, shl_norm, shr_norm, and1_norm, bv_convN, shl_norm, eKK, hu, hC1, hM1, hd, Nat.lt_irrefl, wr, natS, hnext]
     · have hnext := hJ (b, X) ((hI.gt (w := w) (u := u) (by simp only [hdd]; exact c)).congr hadd)
       have n1 : ¬ d < b := by omega
       have n2 : ¬ d = b := by omega
       have n3 : ¬ (d : Int) = (b : Int) := by omega
       simp (disch := omega) only [ir4p2, ir4p1, ir4p0, stepQ, stepL, eq_self, aBin, reduceIte, Int.reduceEq, Int.reduceLT, Int.reduceLE, Int.reduceGT, Int.reduceGE, bvQ, wu, shl_norm, shr_norm, and1_norm, bv_convN, shl_norm, eKK, hu, hC1, hM1, hd, n1, n2, n3, wr, natS, hnext]
   · rintro ⟨b, X⟩ J hI
     have hnext := hL (b, X) (hI.congr fun z v => seen_row z v)
     simp (disch := omega) only [ir4p2, stepQ, stepL, eq_self, aBin, reduceIte, Int.reduceEq, Int.reduceLT, Int.reduceLE, Int.reduceGT, Int.reduceGE, bvQ, wu, shl_norm, shr_norm, and1_norm, bv_convN, shl_norm, eKK, Nat.lt_irrefl, wr, natS, hnext]
 · rintro ⟨b, X⟩ L hI
   have e := fin b X hI
   subst e
   simp (disch := omega) only [ir4p3, stepQ, stepL, eq_self, aBin, reduceIte, Int.reduceEq, Int.reduceLT, Int.reduceLE, Int.reduceGT, Int.reduceGE, bvQ, wu, shl_norm, shr_norm, and1_norm, bv_convN, shl_norm, eKK, Nat.lt_irrefl, aw]
end Go.Proofs.YtejddbdoioppgaaGreatDoor
