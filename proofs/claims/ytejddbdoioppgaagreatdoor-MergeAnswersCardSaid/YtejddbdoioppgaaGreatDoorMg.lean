/- What functions of the program compute: lemmas. -/
import Derived.Test.YtejddbdoioppgaaGreatDoorWd
import Derived.Test.YtejddbdoioppgaaGreatDoorOd
import Derived.Test.YtejddbdoioppgaaGreatDoorTz
import Derived.Test.YtejddbdoioppgaaGreatDoorAm6
set_option linter.unusedSimpArgs false
set_option linter.unusedVariables false
set_option linter.unusedSectionVars false
namespace Go.Proofs.YtejddbdoioppgaaGreatDoor
open Go Am
set_option maxRecDepth 100000
theorem tzX_run (x : BitVec 64) : run tb 94 [bvD x] = some [.int .i64 (low x)] := run_ext rfl (tzE_run x)
theorem app_N1 {l : List Int} {a : Int} (h : l.length + 1 ≤ 1000000) : PO.eval (.app 1 8) [numsD l, .sl [[.int .i64 a]]] = some [numsD (l ++ [a])] := by
 unfold numsD
 rw [ev_app (by simp; omega) (by simp; omega) (by simp [numR])]
 simp [numR]
def natL (l : List Nat) : List Int := l.map fun (n : Nat) => (n : Int)
theorem worlds_run (voc : List (List UInt8)) (X : BitVec 64) (hl : voc.length < 1000000000) : run tb 66 [strsD voc, bvD X] = some [numsD (natL (worldsTo (X &&& allS voc) 64))] := by
 refine run_ir (x := ir66) rfl ?_
 have h1 := all_run voc hl
 simp (disch := omega) only [ir66, stepQ, stepL, eq_self, aBin, reduceIte, Int.reduceEq, Int.reduceLT, Int.reduceLE, Int.reduceGT, Int.reduceGE, bvQ, wu, shl_norm, shr_norm, and1_norm, h1]
 generalize X &&& allS voc = Y
 have h0 : from_ Y 0 = Y := from_zero Y
 show loopQ _ _ _ _ [bvD Y, numsD (natL (worldsTo Y 0))] = _
 rw [← h0]
 conv => rhs; rw [h0]
 conv => lhs; rw [show worldsTo (from_ Y 0) 0 = worldsTo Y 0 from rfl]
 refine loop_km (ι := Nat) (fun a => 64 - a) (fun a => a ≤ 64) (fun a => [bvD (from_ Y a), numsD (natL (worldsTo Y a))]) (fun _ => [numsD (natL (worldsTo Y 64))]) ?_ 0 (by omega)
 rintro a L ha hL
 by_cases hz : from_ Y a = 0#64
 · have hd := from_done Y a ha hz
   simp (disch := omega) only [ir66p0, stepQ, stepL, eq_self, aBin, reduceIte, Int.reduceEq, Int.reduceLT, Int.reduceLE, Int.reduceGT, Int.reduceGE, bvQ, wu, shl_norm, shr_norm, and1_norm, hz, hd]
 · obtain ⟨n1, n2, n3, n4⟩ := from_next Y a hz
   have ht := tzX_run (from_ Y a)
   have hnext := hL (low (from_ Y a) + 1) (by show _ ≤ 64; omega) (by show 64 - (low (from_ Y a) + 1) < 64 - a; omega)
   rw [n4] at hnext
   have hlen : (natL (worldsTo Y a)).length + 1 ≤ 1000000 := by
    have := worldsTo_len Y a
    simp only [natL, List.length_map]; omega
   have happ := app_N1 (a := (low (from_ Y a) : Int)) hlen
   have hnl : natL (worldsTo Y a ++ [low (from_ Y a)]) = natL (worldsTo Y a) ++ [(low (from_ Y a) : Int)] := by simp [natL]
   rw [hnl] at hnext
   simp (disch := omega) only [ir66p0, stepQ, stepL, eq_self, aBin, reduceIte, Int.reduceEq, Int.reduceLT, Int.reduceLE, Int.reduceGT, Int.reduceGE, bvQ, wu, shl_norm, shr_norm, and1_norm, hz, ht, happ, n3, hnext]
theorem differ_run (v w : Int) : run tb 95 [.int .i64 v, .int .i64 w] = some [bvD (dif v w)] := by
 refine run_ir (x := ir95) rfl ?_
 have l63 : D.int .u64 63 = bvD 63#64 := rfl
 simp (disch := omega) only [ir95, stepQ, stepL, eq_self, aBin, reduceIte, Int.reduceEq, Int.reduceLT, Int.reduceLE, Int.reduceGT, Int.reduceGE, bvQ, wu, shl_norm, shr_norm, and1_norm, l63]
 rw [ofInt_wrap]
 exact congrArg (fun x => some [bvD (x &&& 63#64)]) (ofIntU (BitVec.ofInt 64 v ^^^ BitVec.ofInt 64 w))
theorem distance_run (v w : Int) : run tb 67 [.int .i64 v, .int .i64 w] = some [.int .i64 (ones (dif v w) 64)] := by
 refine run_ir (x := ir67) rfl ?_
 have h1 := differ_run v w
 have h2 := ones_run (dif v w)
 simp (disch := omega) only [ir67, stepQ, stepL, eq_self, aBin, reduceIte, Int.reduceEq, Int.reduceLT, Int.reduceLE, Int.reduceGT, Int.reduceGE, h1, h2]
theorem row_nat {l : List Nat} {i : Nat} (h : i < l.length) : PO.eval (.row 1) [numsD (natL l), .int .i64 i] = some [.int .i64 (l[i] : Nat)] := by
 have h1 : i < (natL l).length := by simpa [natL] using h
 have := row_N h1
 rw [this]; simp [natL]
theorem len_nat (l : List Nat) : PO.eval .lenL [numsD (natL l)] = some [.int .i64 l.length] := by rw [len_N]; simp [natL]
end Go.Proofs.YtejddbdoioppgaaGreatDoor

namespace Go.Proofs.YtejddbdoioppgaaGreatDoor
open Go Am
set_option maxRecDepth 100000
def idxZ (x : BitVec 64) : Nat → List (BitVec 64) → Int
 | _, [] => -1
 | k, y :: l => if x = y then (k : Int) else idxZ x (k + 1) l
theorem idxZ_ge (x : BitVec 64) : ∀ (k : Nat) (l : List (BitVec 64)), decide (idxZ x k l ≥ 0) = l.contains x
 | k, [] => rfl
 | k, y :: l => by
  rw [idxZ, List.contains_cons]
  by_cases h : x = y
  · rw [if_pos h, h]; simp
  · rw [if_neg h, idxZ_ge x (k + 1) l]
    have : (x == y) = false := by simpa using h
    rw [this, Bool.false_or]
theorem indexZ_run (l : List (BitVec 64)) (x : BitVec 64) (hl : l.length < 1000000000) : run tb 65 [bvsD l, bvD x] = some [.int .i64 (idxZ x 0 l)] := by
 refine run_ir (x := ir65) rfl ?_
 simp (disch := omega) only [ir65, stepQ, stepL, eq_self, aBin, reduceIte, Int.reduceEq, Int.reduceLT, Int.reduceLE, Int.reduceGT, Int.reduceGE, len_V]
 rw [show idxZ x 0 l = idxZ x 0 (l.drop 0) from rfl]
 refine loop_k (σ := Unit) l.length (fun _ _ => True) (fun i _ => [.int .i64 i]) (fun i _ => [.int .i64 (idxZ x i (l.drop i))]) ?_ ?_ 0 () (Nat.zero_le _) trivial
 · rintro i _ L hi _ hL
   have hnext := hL () trivial
   have hr := row_V hi
   rw [drop_s hi, idxZ]
   by_cases hx : x = l[i]
   · rw [if_pos hx]
     simp (disch := omega) only [ir65p0, stepQ, stepL, eq_self, aBin, reduceIte, Int.reduceEq, Int.reduceLT, Int.reduceLE, Int.reduceGT, Int.reduceGE, bvQ, wu, shl_norm, shr_norm, and1_norm, hi, hr, eq_true hx]
   · rw [if_neg hx]
     simp (disch := omega) only [ir65p0, stepQ, stepL, eq_self, aBin, reduceIte, Int.reduceEq, Int.reduceLT, Int.reduceLE, Int.reduceGT, Int.reduceGE, bvQ, wu, shl_norm, shr_norm, and1_norm, hi, hr, hx, wr, natS, hnext]
 · rintro _ L _
   rw [List.drop_length]
   simp (disch := omega) only [ir65p0, stepQ, stepL, eq_self, aBin, reduceIte, Int.reduceEq, Int.reduceLT, Int.reduceLE, Int.reduceGT, Int.reduceGE, Nat.lt_irrefl, idxZ]
theorem containsZ_run (l : List (BitVec 64)) (x : BitVec 64) (hl : l.length < 1000000000) : run tb 40 [bvsD l, bvD x] = some [.bool (l.contains x)] := by
 refine run_ir (x := ir40) rfl ?_
 have h := indexZ_run l x hl
 rw [← idxZ_ge x 0 l]
 simp (disch := omega) only [ir40, stepQ, stepL, eq_self, aBin, reduceIte, Int.reduceEq, Int.reduceLT, Int.reduceLE, Int.reduceGT, Int.reduceGE, h]
def firstE (names : List (List UInt8)) : List F → Int
 | [] => 0
 | f :: l => if modelsE names f = 0 then firstE names l else modelsE names f
def prE (names : List (List UInt8)) (fs : List F) (kind : Int) : Int :=
 if vocOk names = false then 1 else if kind < 1 ∨ kind > 4 then 4 else if fs.length > 8 then 2 else if firstE names fs ≠ 0 then firstE names fs else if (fs.map (modelsS names)).contains 0#64 = true then 7 else 0
theorem app_V1 {l : List (BitVec 64)} {a : BitVec 64} (h : l.length + 1 ≤ 1000000) : PO.eval (.app 1 8) [bvsD l, .sl [[bvD a]]] = some [bvsD (l ++ [a])] := by
 unfold bvsD
 rw [ev_app (by simp; omega) (by simp; omega) (by simp)]
 simp
theorem row_Fq {l : List F} {i : Nat} (h : i < l.length) : PO.eval (.row 3) [.sl (F.encs l), .int .i64 i] = some [.int .i64 l[i].op, .str l[i].name, .sl (F.encs l[i].args)] := row_F h
theorem mprofile_run (names : List (List UInt8)) (hl : names.length < 1000000000) (fs : List F) (hf : ∀ f ∈ fs, f.size < 1000000000) (hfl : fs.length < 1000000000) (kind : Int) :
 run tb 25 [strsD names, .sl (F.encs fs), .int .i64 kind] = some [if prE names fs kind = 0 then bvsD (fs.map (modelsS names)) else .sl [], .int .i64 (prE names fs kind)] := by
 refine run_ir (x := ir25) rfl ?_
 have h1 := valid_run names hl
 cases hv : vocOk names with
 | false =>
  rw [hv] at h1
  have e : prE names fs kind = 1 := by unfold prE; rw [if_pos hv]
  rw [e, if_neg (by decide)]
  simp (disch := omega) only [ir25, stepQ, stepL, eq_self, aBin, reduceIte, Int.reduceEq, Int.reduceLT, Int.reduceLE, Int.reduceGT, Int.reduceGE, h1]
 | true =>
 rw [hv] at h1
 by_cases c1 : kind < 1
 · have e : prE names fs kind = 4 := by unfold prE; rw [if_neg (by simp [hv]), if_pos (.inl c1)]
   rw [e, if_neg (by decide)]
   simp (disch := omega) only [ir25, ir25p1, stepQ, stepL, eq_self, aBin, reduceIte, Int.reduceEq, Int.reduceLT, Int.reduceLE, Int.reduceGT, Int.reduceGE, h1, c1]
 by_cases c2 : kind > 4
 · have e : prE names fs kind = 4 := by unfold prE; rw [if_neg (by simp [hv]), if_pos (.inr c2)]
   rw [e, if_neg (by decide)]
   simp (disch := omega) only [ir25, ir25p1, stepQ, stepL, eq_self, aBin, reduceIte, Int.reduceEq, Int.reduceLT, Int.reduceLE, Int.reduceGT, Int.reduceGE, h1, c1, c2]
 by_cases c3 : fs.length > 8
 · have e : prE names fs kind = 2 := by unfold prE; rw [if_neg (by simp [hv]), if_neg (by omega), if_pos c3]
   have c3' : (fs.length : Int) > 8 := by omega
   rw [e, if_neg (by decide)]
   simp (disch := omega) only [ir25, ir25p1, stepQ, stepL, eq_self, aBin, reduceIte, Int.reduceEq, Int.reduceLT, Int.reduceLE, Int.reduceGT, Int.reduceGE, h1, c1, c2, len_F, c3']
 have c3' : ¬ (fs.length : Int) > 8 := by omega
 have e : prE names fs kind = if firstE names fs ≠ 0 then firstE names fs else if (fs.map (modelsS names)).contains 0#64 = true then 7 else 0 := by unfold prE; rw [if_neg (by simp [hv]), if_neg (by omega), if_neg c3]
 rw [e]
 simp (disch := omega) only [ir25, ir25p1, stepQ, stepL, eq_self, aBin, reduceIte, Int.reduceEq, Int.reduceLT, Int.reduceLE, Int.reduceGT, Int.reduceGE, h1, c1, c2, len_F, c3']
 show loopQ _ _ _ _ [.int .i64 ((0 : Nat) : Int), bvsD ((fs.take 0).map (modelsS names))] = _
 have hd0 : firstE names fs = firstE names (fs.drop 0) := by simp
 rw [hd0]
 refine loop_k (σ := Unit) fs.length (fun _ _ => True) (fun i _ => [.int .i64 i, bvsD ((fs.take i).map (modelsS names))])
  (fun i _ => [if (if firstE names (fs.drop i) ≠ 0 then firstE names (fs.drop i) else if (fs.map (modelsS names)).contains 0#64 = true then 7 else 0) = 0 then bvsD (fs.map (modelsS names)) else .sl [], .int .i64 (if firstE names (fs.drop i) ≠ 0 then firstE names (fs.drop i) else if (fs.map (modelsS names)).contains 0#64 = true then 7 else 0)]) ?_ ?_ 0 () (Nat.zero_le _) trivial
 · rintro i _ L hi _ hL
   have hnext := hL () trivial
   have hr := row_Fq hi
   have hm := modelsW_run names fs[i] hl (hf _ (List.getElem_mem hi))
   simp only [rowF] at hm
   rw [drop_s hi, firstE]
   by_cases c : modelsE names fs[i] = 0
   · rw [if_pos c]
     rw [c] at hm
     have htk : (fs.take (i + 1)).map (modelsS names) = (fs.take i).map (modelsS names) ++ [modelsS names fs[i]] := by
      rw [List.take_add_one, List.getElem?_eq_getElem hi, List.map_append]; rfl
     rw [htk] at hnext
     have happ := app_V1 (l := (fs.take i).map (modelsS names)) (a := modelsS names fs[i]) (by rw [List.length_map, List.length_take]; omega)
     simp (disch := omega) only [ir25p0, stepQ, stepL, eq_self, aBin, reduceIte, Int.reduceEq, Int.reduceLT, Int.reduceLE, Int.reduceGT, Int.reduceGE, hi, hr, hm, ibne, happ, wr, natS, hnext]
   · rw [if_neg c, if_pos c, if_neg c]
     simp (disch := omega) only [ir25p0, stepQ, stepL, eq_self, aBin, reduceIte, Int.reduceEq, Int.reduceLT, Int.reduceLE, Int.reduceGT, Int.reduceGE, hi, hr, hm, ibne, c]
 · rintro _ L _
   rw [List.take_length, List.drop_length]
   have hc := containsZ_run (fs.map (modelsS names)) 0#64 (by rw [List.length_map]; exact hfl)
   cases hz : (fs.map (modelsS names)).contains 0#64 with
   | true =>
    rw [hz] at hc
    simp (disch := omega) only [ir25p0, stepQ, stepL, eq_self, aBin, reduceIte, Int.reduceEq, Int.reduceLT, Int.reduceLE, Int.reduceGT, Int.reduceGE, bvQ, wu, shl_norm, shr_norm, and1_norm, Nat.lt_irrefl, hc, callQ_tb, firstE, ne_eq, not_true_eq_false, if_false, if_true, Int.reduceEq]
   | false =>
    rw [hz] at hc
    simp (disch := omega) only [ir25p0, stepQ, stepL, eq_self, aBin, reduceIte, Int.reduceEq, Int.reduceLT, Int.reduceLE, Int.reduceGT, Int.reduceGE, bvQ, wu, shl_norm, shr_norm, and1_norm, Nat.lt_irrefl, hc, callQ_tb, firstE, ne_eq, not_true_eq_false, if_false, if_true, Int.reduceEq, Bool.false_eq_true]
def dsT (kind : Int) (w : Nat) (l : List Nat) : Nat := l.foldl (fun (m v : Nat) => min m (if kind = 4 then min (ones (dif v w) 64) 1 else ones (dif v w) 64)) 7
theorem dsT_snoc (kind : Int) (w : Nat) (l : List Nat) (v : Nat) : dsT kind w (l ++ [v]) = min (dsT kind w l) (if kind = 4 then min (ones (dif v w) 64) 1 else ones (dif v w) 64) := by simp [dsT]
theorem dsT_le (kind : Int) (w : Nat) (l : List Nat) : dsT kind w l ≤ 7 := by
 have : ∀ (l : List Nat) (a : Nat), l.foldl (fun (m v : Nat) => min m (if kind = 4 then min (ones (dif v w) 64) 1 else ones (dif v w) 64)) a ≤ a := by
  intro l
  induction l with
  | nil => intro a; exact Nat.le_refl _
  | cons v l ih => intro a; simp only [List.foldl_cons]; exact Nat.le_trans (ih _) (Nat.min_le_left _ _)
 exact this l 7
theorem dsT_ent (kind : Int) (w : Nat) {l : List Nat} (h : l ≠ []) : (dsT kind w l : Int) = entS kind (dsL w l) := by
 unfold entS
 by_cases hk : kind = 4
 · subst hk
   simp only [if_true]
   have : ∀ (l : List Nat) (a b : Nat), min a 1 = min b 1 → min (l.foldl (fun (m v : Nat) => min m (if (4 : Int) = 4 then min (ones (dif v w) 64) 1 else ones (dif v w) 64)) a) 1 = min (l.foldl (fun (m v : Nat) => min m (ones (dif v w) 64)) b) 1 := by
    intro l
    induction l with
    | nil => intro a b h; exact h
    | cons v l ih => intro a b h; simp only [List.foldl_cons, if_true]; exact ih _ _ (by omega)
   have h1 := this l 7 7 rfl
   have h2 : dsT 4 w l ≤ 1 := by
    obtain ⟨v, l, rfl⟩ := List.exists_cons_of_ne_nil h
    have h3 : ∀ (l : List Nat) (a : Nat), l.foldl (fun (m v : Nat) => min m (if (4 : Int) = 4 then min (ones (dif v w) 64) 1 else ones (dif v w) 64)) a ≤ a := by
     intro l
     induction l with
     | nil => intro a; exact Nat.le_refl _
     | cons v l ih => intro a; simp only [List.foldl_cons]; exact Nat.le_trans (ih _) (Nat.min_le_left _ _)
    have := h3 l (min 7 (min (ones (dif v w) 64) 1))
    unfold dsT
    simp only [List.foldl_cons, if_true] at this ⊢
    omega
   have h4 : min (dsT 4 w l) 1 = min (dsL w l) 1 := h1
   omega
 · simp only [hk, if_false]; unfold dsT dsL; simp only [hk, if_false]
theorem mdistance_run (names : List (List UInt8)) (hv : vocOk names = true) (X : BitVec 64) (hX : ∃ u, u < 2 ^ names.length ∧ has X u) (w : Nat) (kind : Int) :
 run tb 41 [strsD names, bvD X, .int .i64 w, .int .i64 kind] = some [.int .i64 (entS kind (dsS (2 ^ names.length) X w))] := by
 refine run_ir (x := ir41) rfl ?_
 have h6 := vocOk_len hv
 have h1 := worlds_run names X (by omega)
 have hal : allS names = alW names.length := by unfold allS; rw [if_pos hv]
 rw [hal, worlds_all h6] at h1
 obtain ⟨u, hu, hxu⟩ := hX
 have hne : worldsTo X (2 ^ names.length) ≠ [] := fun h => by
  have := (mem_worldsTo (X := X) (n := 2 ^ names.length)).2 ⟨hu, hxu⟩
  rw [h] at this; cases this
 unfold dsS
 rw [← dsT_ent kind w hne]
 clear hne
 have hlen := worldsTo_len X (2 ^ names.length)
 have h64 := pow6 h6
 generalize worldsTo X (2 ^ names.length) = l at *
 simp (disch := omega) only [ir41, stepQ, stepL, eq_self, aBin, reduceIte, Int.reduceEq, Int.reduceLT, Int.reduceLE, Int.reduceGT, Int.reduceGE, h1, callQ_N, len_nat]
 show loopQ _ _ _ _ [.int .i64 ((dsT kind w (l.take 0) : Nat) : Int), .int .i64 ((0 : Nat) : Int)] = _
 refine loop_k (σ := Unit) l.length (fun _ _ => True) (fun i _ => [.int .i64 ((dsT kind w (l.take i) : Nat) : Int), .int .i64 i]) (fun _ _ => [.int .i64 ((dsT kind w l : Nat) : Int)]) ?_ ?_ 0 () (Nat.zero_le _) trivial
 · rintro i _ L hi _ hL
   have hnext := hL () trivial
   have hr := row_nat hi
   have hd := distance_run (l[i] : Nat) w
   rw [List.take_add_one, List.getElem?_eq_getElem hi, Option.toList_some, dsT_snoc] at hnext
   have hle := dsT_le kind w (l.take i)
   generalize dsT kind w (l.take i) = T at *
   generalize ones (dif (l[i] : Nat) w) 64 = o at *
   by_cases hk : kind = 4
   · subst hk
     simp only [if_true] at hnext
     have e1 : (if (1 : Int) < (o : Int) then (1 : Int) else (o : Int)) = ((min o 1 : Nat) : Int) := by split <;> omega
     have e2 : (if min o 1 < T then ((min o 1 : Nat) : Int) else (T : Int)) = ((min T (min o 1) : Nat) : Int) := by split <;> omega
     simp (disch := omega) only [ir41p1, ir41p0, stepQ, stepL, eq_self, aBin, reduceIte, Int.reduceEq, Int.reduceLT, Int.reduceLE, Int.reduceGT, Int.reduceGE, hi, hr, hd, ev_min, e1, e2, wr, natS, hnext]
   · simp only [hk, if_false] at hnext
     have e2 : (if o < T then ((o : Nat) : Int) else (T : Int)) = ((min T o : Nat) : Int) := by split <;> omega
     simp (disch := omega) only [ir41p1, ir41p0, stepQ, stepL, eq_self, aBin, reduceIte, Int.reduceEq, Int.reduceLT, Int.reduceLE, Int.reduceGT, Int.reduceGE, hi, hr, hd, hk, ev_min, e2, wr, natS, hnext]
 · rintro _ L _
   rw [List.take_length]
   simp (disch := omega) only [ir41p1, stepQ, stepL, eq_self, aBin, reduceIte, Int.reduceEq, Int.reduceLT, Int.reduceLE, Int.reduceGT, Int.reduceGE, Nat.lt_irrefl]
theorem mvector_run (names : List (List UInt8)) (hv : vocOk names = true) (ms : List (BitVec 64)) (hm : Mods (2 ^ names.length) ms) (h8 : ms.length ≤ 1000) (w : Nat) (kind : Int) :
 run tb 26 [strsD names, bvsD ms, .int .i64 w, .int .i64 kind] = some [numsD (vecS (2 ^ names.length) ms kind w)] := by
 refine run_ir (x := ir26) rfl ?_
 simp (disch := omega) only [ir26, stepQ, stepL, eq_self, aBin, reduceIte, Int.reduceEq, Int.reduceLT, Int.reduceLE, Int.reduceGT, Int.reduceGE, len_V]
 show loopQ _ _ _ _ [.int .i64 ((0 : Nat) : Int), numsD (vecS (2 ^ names.length) (ms.take 0) kind w)] = _
 refine loop_k (σ := Unit) ms.length (fun _ _ => True) (fun i _ => [.int .i64 i, numsD (vecS (2 ^ names.length) (ms.take i) kind w)]) (fun _ _ => [numsD (vecS (2 ^ names.length) ms kind w)]) ?_ ?_ 0 () (Nat.zero_le _) trivial
 · rintro i _ L hi _ hL
   have hnext := hL () trivial
   have hr := row_V hi
   have hd := mdistance_run names hv ms[i] (hm _ (List.getElem_mem hi)) w kind
   have htk : vecS (2 ^ names.length) (ms.take (i + 1)) kind w = vecS (2 ^ names.length) (ms.take i) kind w ++ [entS kind (dsS (2 ^ names.length) ms[i] w)] := by
    unfold vecS
    rw [List.take_add_one, List.getElem?_eq_getElem hi, List.map_append]; rfl
   rw [htk] at hnext
   have happ := app_N1 (l := vecS (2 ^ names.length) (ms.take i) kind w) (a := entS kind (dsS (2 ^ names.length) ms[i] w)) (by rw [vec_len, List.length_take]; omega)
   simp (disch := omega) only [ir26p0, stepQ, stepL, eq_self, aBin, reduceIte, Int.reduceEq, Int.reduceLT, Int.reduceLE, Int.reduceGT, Int.reduceGE, hi, hr, hd, happ, wr, natS, hnext]
 · rintro _ L _
   rw [List.take_length]
   simp (disch := omega) only [ir26p0, stepQ, stepL, eq_self, aBin, reduceIte, Int.reduceEq, Int.reduceLT, Int.reduceLE, Int.reduceGT, Int.reduceGE, Nat.lt_irrefl]
def keyT (kind : Int) (v : List Int) : Int := if kind = 3 then mxF v else if kind = 2 then baseF v else sumF id v
theorem keyT_snoc (kind : Int) (v : List Int) (d : Int) : keyT kind (v ++ [d]) = if kind = 3 then (if d > keyT kind v then d else keyT kind v) else if kind = 2 then keyT kind v * 7 + d else keyT kind v + d := by
 unfold keyT
 split
 · simp [mxF]
 split
 · simp [baseF]
 · simp [sumF]
theorem keyT_bound (kind : Int) {v : List Int} (hd : Dig v) (h8 : v.length ≤ 8) : 0 ≤ keyT kind v ∧ keyT kind v < 5764801 := by
 unfold keyT
 split
 · have h1 := mxF_nn v
   have h2 : mxF v ≤ 6 := by
    clear h1
    induction v with
    | nil => simp [mxF]
    | cons x v ih =>
     rw [mxF_cons]
     have := ih (fun y hy => hd y (List.mem_cons_of_mem _ hy)) (by simp at h8; omega)
     have := hd x List.mem_cons_self
     omega
   omega
 split
 · have h := baseF_bound hd
   have hp : (7 : Int) ^ v.length ≤ 7 ^ 8 := by exact_mod_cast Nat.pow_le_pow_right (by omega : 0 < 7) h8
   have : (7 : Int) ^ 8 = 5764801 := by decide
   omega
 · have h1 := sumF_nn (f := id) (v := v) fun x hx => (hd x hx).1
   have h2 := sumF_bound (f := id) (c := 6) (v := v) fun x hx => (hd x hx).2
   omega
theorem mkey_run (kind : Int) (v : List Int) (hd : Dig v) (h8 : v.length ≤ 8) : run tb 45 [.int .i64 kind, numsD v] = some [.int .i64 (keyS kind v), numsD (descI v)] := by
 refine run_ir (x := ir45) rfl ?_
 have h1 : run tb 69 [numsD v] = some [numsD (sortI v)] := run_ext rfl (by rw [show ext69 = sortE from rfl, sortE, fun1_run, if_pos (by omega)])
 have h2 : run tb 70 [numsD (sortI v)] = some [numsD (descI v)] := run_ext rfl (by rw [show ext70 = revE from rfl, revE, fun1_run, if_pos (by rw [sortI_len]; omega)]; rfl)
 have hl : (descI v).length = v.length := (descI_perm v).length_eq
 have hk : keyS kind v = keyT kind (descI v) := rfl
 have hdd : Dig (descI v) := fun x hx => hd x ((descI_perm v).mem_iff.1 hx)
 rw [hk]
 have c1 : ∀ (l : List Int) k e J, callQ (run tb) 1 false [0] k e J (some [numsD l]) = den (run tb) k (e ++ [numsD l]) J := fun l k e J => rfl
 generalize descI v = z at *
 simp (disch := omega) only [ir45, stepQ, stepL, eq_self, aBin, reduceIte, Int.reduceEq, Int.reduceLT, Int.reduceLE, Int.reduceGT, Int.reduceGE, h1, h2, c1, len_N]
 have hz : keyT kind (z.take 0) = 0 := by simp [keyT, mxF, baseF, sumF]
 show loopQ _ _ _ _ ([D.int .i64 0] ++ [.int .i64 ((0 : Nat) : Int)]) = _
 rw [show ([D.int .i64 0] : List D) = [D.int .i64 (keyT kind (z.take 0))] by rw [hz]]
 refine loop_k (σ := Unit) z.length (fun _ _ => True) (fun i _ => [.int .i64 (keyT kind (z.take i)), .int .i64 i]) (fun _ _ => [.int .i64 (keyT kind z), numsD z]) ?_ ?_ 0 () (Nat.zero_le _) trivial
 · rintro i _ L hi _ hL
   have hnext := hL () trivial
   have hg := get_N hi
   have hc := chk_N hi
   rw [List.take_add_one, List.getElem?_eq_getElem hi, Option.toList_some, keyT_snoc] at hnext
   obtain ⟨b1, b2⟩ := keyT_bound kind (v := z.take i) (fun x hx => hdd x (List.mem_of_mem_take hx)) (by rw [List.length_take]; omega)
   obtain ⟨d1, d2⟩ := hdd z[i] (List.getElem_mem hi)
   generalize keyT kind (z.take i) = T at *
   generalize z[i] = d at *
   by_cases k3 : kind = 3
   · rw [if_pos k3] at hnext
     simp (disch := omega) only [ir45p1, ir45p0, stepQ, stepL, eq_self, aBin, reduceIte, Int.reduceEq, Int.reduceLT, Int.reduceLE, Int.reduceGT, Int.reduceGE, hi, hg, hc, k3, ev_max, wr, natS, hnext]
   rw [if_neg k3] at hnext
   by_cases k2 : kind = 2
   · rw [if_pos k2] at hnext
     simp (disch := omega) only [ir45p1, ir45p0, stepQ, stepL, eq_self, aBin, reduceIte, Int.reduceEq, Int.reduceLT, Int.reduceLE, Int.reduceGT, Int.reduceGE, hi, hg, hc, k3, k2, wr, natS, hnext]
   · rw [if_neg k2] at hnext
     simp (disch := omega) only [ir45p1, ir45p0, stepQ, stepL, eq_self, aBin, reduceIte, Int.reduceEq, Int.reduceLT, Int.reduceLE, Int.reduceGT, Int.reduceGE, hi, hg, hc, k3, k2, wr, natS, hnext]
 · rintro _ L _
   rw [List.take_length]
   simp (disch := omega) only [ir45p1, stepQ, stepL, eq_self, aBin, reduceIte, Int.reduceEq, Int.reduceLT, Int.reduceLE, Int.reduceGT, Int.reduceGE, Nat.lt_irrefl]
theorem mranked_run (names : List (List UInt8)) (hv : vocOk names = true) (ms : List (BitVec 64)) (hm : Mods (2 ^ names.length) ms) (h8 : ms.length ≤ 8) (kind : Int) :
 run tb 29 [strsD names, bvsD ms, .int .i64 kind] = some [strsD names, numsD (mrgR (2 ^ names.length) ms kind), .int .i64 0] := by
 refine run_ir (x := ir29) rfl ?_
 have h6 := vocOk_len hv
 have h64 := pow6 h6
 have hkl : (keysL (2 ^ names.length) ms kind).length = 2 ^ names.length := by simp [keysL]
 have hno := normal_run names (keysL (2 ^ names.length) ms kind) (by omega) (by omega)
 rw [if_pos (by simp [normE, hv, hkl]), keys_norm hm h8] at hno
 have hmkN := mkN (n := 2 ^ names.length) (by omega)
 rw [← hkl, fill_zero, hkl] at hmkN
 have hV := fun w : Nat => mvector_run names hv ms hm (by omega) w kind
 have hK := fun w : Nat => mkey_run kind (vecS (2 ^ names.length) ms kind w) (vec_dig hm kind w) (by rw [vec_len]; exact h8)
 have hG := fun (w : Nat) (h : w < 2 ^ names.length) => keysL_get ms kind h
 show den _ _ _ _ = some [strsD names, numsD (normS (scoL (2 ^ names.length) ms kind)), .int .i64 0]
 simp (disch := omega) only [ir29, stepQ, stepL, eq_self, aBin, reduceIte, Int.reduceEq, Int.reduceLT, Int.reduceLE, Int.reduceGT, Int.reduceGE, shl_norm, nat_nn, len_S, hmkN]
 generalize normS (scoL (2 ^ names.length) ms kind) = R at *
 generalize hN : 2 ^ names.length = n at *
 generalize keysL n ms kind = K at *
 have hfl : ∀ i, (fillR K i).length = n := fun i => by simp [fillR, hkl]
 have hl3 : PO.eval .lenL [numsD (fillR K 0)] = some [.int .i64 n] := by rw [len_N, hfl]
 have c2 : ∀ (l : List Int) k e J, callQ (run tb) 1 false [0] k e J (some [numsD l]) = den (run tb) k (e ++ [numsD l]) J := fun l k e J => rfl
 have c3 : ∀ (x : Int) (l : List Int) k e J, callQ (run tb) 2 false [1] k e J (some [.int .i64 x, numsD l]) = den (run tb) k (e ++ [.int .i64 x, numsD l]) J := fun x l k e J => rfl
 simp (disch := omega) only [stepQ, stepL, eq_self, aBin, reduceIte, Int.reduceEq, Int.reduceLT, Int.reduceLE, Int.reduceGT, Int.reduceGE, hl3]
 refine loop_k (σ := Unit) n (fun _ _ => True) (fun i _ => [.int .i64 i, numsD (fillR K i)]) (fun _ _ => [strsD names, numsD R, .int .i64 0]) ?_ ?_ 0 () (Nat.zero_le _) trivial
 · rintro i _ L hi _ hL
   have hnext := hL () trivial
   rw [← fill_succ (by omega), hG i hi] at hnext
   have hc := chk_N (l := fillR K i) (i := i) (by rw [hfl]; exact hi)
   have hs := set_N (l := fillR K i) (i := i) (by rw [hfl]; exact hi) (keyS kind (vecS n ms kind i))
   have h1 := hV i
   have h2 := hK i
   simp (disch := omega) only [ir29p0, stepQ, stepL, eq_self, aBin, reduceIte, Int.reduceEq, Int.reduceLT, Int.reduceLE, Int.reduceGT, Int.reduceGE, hi, h1, c2, h2, c3, hc, hs, wr, natS, hnext]
 · rintro _ L _
   have he : fillR K n = K := by rw [← hkl]; exact fill_end _
   simp (disch := omega) only [ir29p0, stepQ, stepL, eq_self, aBin, reduceIte, Int.reduceEq, Int.reduceLT, Int.reduceLE, Int.reduceGT, Int.reduceGE, Nat.lt_irrefl, he, hno]
end Go.Proofs.YtejddbdoioppgaaGreatDoor

namespace Go.Proofs.YtejddbdoioppgaaGreatDoor
open Go Am
set_option maxRecDepth 100000
theorem firstE_all {names : List (List UInt8)} : ∀ {fs : List F}, firstE names fs = 0 ↔ ∀ f ∈ fs, modelsE names f = 0
 | [] => by simp [firstE]
 | f :: l => by
  rw [firstE]
  by_cases h : modelsE names f = 0
  · rw [if_pos h, firstE_all]
    simp [h]
  · rw [if_neg h]
    exact ⟨fun h' => absurd h' h, fun h' => absurd (h' f List.mem_cons_self) h⟩
theorem models_in {names : List (List UInt8)} {f : F} {w : Nat} (h : has (modelsS names f) w) : vocOk names = true → w < 2 ^ names.length := fun hv => by
 unfold modelsS at h
 split at h
 · exact ((has_modN (vocOk_len hv)).1 h).1
 · simp [has] at h
theorem prE_ok {names : List (List UInt8)} {fs : List F} {kind : Int} (h : prE names fs kind = 0) : vocOk names = true ∧ 1 ≤ kind ∧ kind ≤ 4 ∧ fs.length ≤ 8 ∧ Mods (2 ^ names.length) (fs.map (modelsS names)) := by
 unfold prE at h
 cases hv : vocOk names with
 | false => rw [if_pos hv] at h; cases h
 | true =>
  rw [if_neg (by simp [hv])] at h
  split at h
  · cases h
  rename_i hk
  split at h
  · cases h
  rename_i hl
  split at h
  · rename_i h1; exact absurd h h1
  split at h
  · cases h
  rename_i hz
  refine ⟨rfl, by omega, by omega, by omega, fun X hX => ?_⟩
  have hne : X ≠ 0#64 := fun e => by subst e; exact hz (List.contains_iff_mem.2 hX)
  obtain ⟨w, hw⟩ := set_ne hne
  obtain ⟨f, _, rfl⟩ := List.mem_map.1 hX
  exact ⟨w, models_in hw hv, hw⟩
theorem morder_run (names : List (List UInt8)) (hl : names.length < 1000000000) (fs : List F) (hf : ∀ f ∈ fs, f.size < 1000000000) (hfl : fs.length < 1000000000) (kind : Int) :
 run tb 12 [strsD names, .sl (F.encs fs), .int .i64 kind] = some (if prE names fs kind = 0 then [strsD names, numsD (mrgR (2 ^ names.length) (fs.map (modelsS names)) kind), .int .i64 0] else [.sl [], .sl [], .int .i64 (prE names fs kind)]) := by
 refine run_ir (x := ir12) rfl ?_
 have h1 := mprofile_run names hl fs hf hfl kind
 by_cases c : prE names fs kind = 0
 · obtain ⟨hv, k1, k4, h8, hm⟩ := prE_ok c
   rw [if_pos c, c] at h1
   have h2 := mranked_run names hv (fs.map (modelsS names)) hm (by rw [List.length_map]; exact h8) kind
   rw [if_pos c]
   simp (disch := omega) only [ir12, stepQ, stepL, eq_self, aBin, reduceIte, Int.reduceEq, Int.reduceLT, Int.reduceLE, Int.reduceGT, Int.reduceGE, h1, ibne, h2]
 · rw [if_neg c] at h1 ⊢
   simp (disch := omega) only [ir12, stepQ, stepL, eq_self, aBin, reduceIte, Int.reduceEq, Int.reduceLT, Int.reduceLE, Int.reduceGT, Int.reduceGE, h1, ibne, c]
def mgE (names : List (List UInt8)) (fs : List F) (c : F) (kind : Int) : Int := if prE names fs kind ≠ 0 then prE names fs kind else modelsE names c
def mgA (names : List (List UInt8)) (fs : List F) (c : F) (kind : Int) : BitVec 64 := if mgE names fs c kind = 0 then leastS names (mrgR (2 ^ names.length) (fs.map (modelsS names)) kind) (modelsS names c) else 0#64
theorem mmerge_run (names : List (List UInt8)) (hl : names.length < 1000000000) (fs : List F) (hf : ∀ f ∈ fs, f.size < 1000000000) (hfl : fs.length < 1000000000) (c : F) (hc : c.size < 1000000000) (kind : Int) :
 run tb 17 [strsD names, .sl (F.encs fs), .int .i64 c.op, .str c.name, .sl (F.encs c.args), .int .i64 kind] = some [bvD (mgA names fs c kind), .int .i64 (mgE names fs c kind)] := by
 refine run_ir (x := ir17) rfl ?_
 have h1 := morder_run names hl fs hf hfl kind
 have h2 := modelsW_run names c hl hc
 simp only [rowF] at h2
 unfold mgA
 by_cases c1 : prE names fs kind = 0
 · have e : mgE names fs c kind = modelsE names c := by unfold mgE; rw [if_neg (by simp [c1])]
   rw [if_pos c1] at h1
   rw [e]
   by_cases c2 : modelsE names c = 0
   · have hle := prE_ok c1
     have h6 := vocOk_len hle.1
     have h64 := pow6 h6
     have h3 := leastO_run names (mrgR (2 ^ names.length) (fs.map (modelsS names)) kind) hl (by unfold mrgR; rw [norm_len, scoL_len]; omega) (modelsS names c)
     rw [c2] at h2
     rw [c2, if_pos rfl]
     simp (disch := omega) only [ir17, stepQ, stepL, eq_self, aBin, reduceIte, Int.reduceEq, Int.reduceLT, Int.reduceLE, Int.reduceGT, Int.reduceGE, h1, ibne, h2, h3]
   · rw [if_neg c2]
     simp (disch := omega) only [ir17, stepQ, stepL, eq_self, aBin, reduceIte, Int.reduceEq, Int.reduceLT, Int.reduceLE, Int.reduceGT, Int.reduceGE, bvQ, wu, shl_norm, shr_norm, and1_norm, h1, ibne, h2, c2]
 · have e : mgE names fs c kind = prE names fs kind := by unfold mgE; rw [if_pos c1]
   rw [if_neg c1] at h1
   rw [e, if_neg c1]
   simp (disch := omega) only [ir17, stepQ, stepL, eq_self, aBin, reduceIte, Int.reduceEq, Int.reduceLT, Int.reduceLE, Int.reduceGT, Int.reduceGE, bvQ, wu, shl_norm, shr_norm, and1_norm, h1, ibne, c1]
theorem mergeK_run {n : Nat} (hn : n ≤ 6) {fs : List F} {ks : List (BitVec 64)} (hk : fs.map (modelsS (vocN n)) = ks) (he : ∀ f ∈ fs, modelsE (vocN n) f = 0 ∧ f.size < 1000000000) (hks : ∀ X ∈ ks, X ≠ 0#64) (h8 : fs.length ≤ 8)
 {kind : Int} (k1 : 1 ≤ kind) (k4 : kind ≤ 4) {C : BitVec 64} (hC : ∀ w, has C w → w < 2 ^ n) :
 run tb 17 [strsD (vocN n), .sl (F.encs fs), .int .i64 (thy (vocN n) C).op, .str (thy (vocN n) C).name, .sl (F.encs (thy (vocN n) C).args), .int .i64 kind] = some [bvD (mrgS n ks kind C), .int .i64 0] := by
 have h1 := mmerge_run (vocN n) (by rw [vocN_len]; omega) fs (fun f hf => (he f hf).2) (by omega) (thy (vocN n) C) (thy_small hn C).1 kind
 have hm := thy_models (vocN_ok hn) C
 rw [and_all hn hC] at hm
 have hp : prE (vocN n) fs kind = 0 := by
  unfold prE
  rw [if_neg (by simp [vocN_ok hn]), if_neg (by omega), if_neg (by omega), if_neg (by simp [firstE_all.2 fun f hf => (he f hf).1]), if_neg]
  intro hc
  rw [hk] at hc
  exact hks _ (List.contains_iff_mem.1 hc) rfl
 have e : mgE (vocN n) fs (thy (vocN n) C) kind = 0 := by unfold mgE; rw [if_neg (by simp [hp]), hm.1]
 unfold mgA at h1
 rw [e, if_pos rfl, hk, hm.2, vocN_len] at h1
 exact h1
theorem thys_models {n : Nat} (hn : n ≤ 6) {ks : List (BitVec 64)} (h : ∀ X ∈ ks, ∀ w, has X w → w < 2 ^ n) : (ks.map (thy (vocN n))).map (modelsS (vocN n)) = ks := by
 rw [List.map_map]
 conv => rhs; rw [← List.map_id ks]
 refine List.map_congr_left fun X hX => ?_
 have hm := thy_models (vocN_ok hn) X
 rw [and_all hn (h X hX)] at hm
 exact hm.2
theorem thys_ok {n : Nat} (hn : n ≤ 6) (ks : List (BitVec 64)) : ∀ f ∈ ks.map (thy (vocN n)), modelsE (vocN n) f = 0 ∧ f.size < 1000000000 := fun f hf => by
 obtain ⟨X, _, rfl⟩ := List.mem_map.1 hf
 exact ⟨(thy_models (vocN_ok hn) X).1, (thy_small hn X).1⟩
theorem mergeT_run {n : Nat} (hn : n ≤ 6) {ks : List (BitVec 64)} (hks : ∀ X ∈ ks, X ≠ 0#64 ∧ ∀ w, has X w → w < 2 ^ n) (h8 : ks.length ≤ 8) {kind : Int} (k1 : 1 ≤ kind) (k4 : kind ≤ 4) {C : BitVec 64} (hC : ∀ w, has C w → w < 2 ^ n) :
 run tb 17 [strsD (vocN n), .sl (F.encs (ks.map (thy (vocN n)))), .int .i64 (thy (vocN n) C).op, .str (thy (vocN n) C).name, .sl (F.encs (thy (vocN n) C).args), .int .i64 kind] = some [bvD (mrgS n ks kind C), .int .i64 0] :=
 mergeK_run hn (thys_models hn fun X hX => (hks X hX).2) (thys_ok hn ks) (fun X hX => (hks X hX).1) (by rw [List.length_map]; exact h8) k1 k4 hC
theorem theory36_run {n : Nat} (hn : n ≤ 6) (S : BitVec 64) : run tb 16 [.int .i64 n, bvD S] = some [.int .i64 (thy (vocN n) (S &&& allS (vocN n))).op, .str (thy (vocN n) (S &&& allS (vocN n))).name, .sl (F.encs (thy (vocN n) (S &&& allS (vocN n))).args)] := by
 refine run_ir (x := ir16) rfl ?_
 have hv := vocN_ok hn
 have hvo := voc_run n (by omega)
 have h1 := all3_run (vocN n) (by rw [vocN_len]; omega) (fun s hs => by rw [vocN_short s hs]; omega)
 have h2 := theoryT_run (vocN n) hv (S &&& allS (vocN n))
 simp only [rowF, List.cons_append, List.nil_append] at h2
 simp (disch := omega) only [ir16, stepQ, stepL, eq_self, aBin, reduceIte, Int.reduceEq, Int.reduceLT, Int.reduceLE, Int.reduceGT, Int.reduceGE, bvQ, wu, shl_norm, shr_norm, and1_norm, hvo, h1, h2, callQ_S]
theorem theoryM_run {n : Nat} (hn : n ≤ 6) {X : BitVec 64} (hX : ∀ w, has X w → w < 2 ^ n) : run tb 16 [.int .i64 n, bvD X] = some [.int .i64 (thy (vocN n) X).op, .str (thy (vocN n) X).name, .sl (F.encs (thy (vocN n) X).args)] := by
 have := theory36_run hn X
 rw [and_all hn hX] at this
 exact this
theorem some36_run {n : Nat} (hn : n ≤ 6) (l : List Int) (hl : l.length ≤ 2000) (p : Nat) (hp : p ≤ l.length) :
 ∃ (K : BitVec 64) (b : Nat), b ≤ l.length ∧ K ≠ 0#64 ∧ (∀ w, has K w → w < 2 ^ n) ∧ run tb 22 [.int .i64 n, numsD l, .int .i64 p] = some [bvD K, numsD l, .int .i64 b] := by
 have h64 := pow6 hn
 have hpp := Nat.two_pow_pos n
 obtain ⟨r, b0, r0, r1, hb0, hr⟩ := n_run ((2 ^ n : Nat) : Int) l p hl hp (by omega) (by omega)
 obtain ⟨r, rfl⟩ := Int.eq_ofNat_of_zero_le r0
 obtain ⟨S1, b1, hb1, hS1⟩ := set_run l b0 hl hb0
 obtain ⟨S2, b2, hb2, hS2⟩ := set_run l b1 hl hb1
 have hvo := voc_run n (by omega)
 have hal := all3_run (vocN n) (by rw [vocN_len]; omega) (fun s hs => by rw [vocN_short s hs]; omega)
 have hA : allS (vocN n) = alW n := by unfold allS; rw [if_pos (vocN_ok hn), vocN_len]
 refine ⟨(S1 &&& S2 ||| 1#64 <<< r) &&& allS (vocN n), b2, hb2, ?_, all_sub hn _, run_ir (x := ir22) rfl ?_⟩
 · refine ne_of_has (w := r) (has_and.2 ⟨has_or.2 (.inr ?_), ?_⟩)
   · rw [has, one_shl_get _ _ (by omega)]; simp
   · rw [hA]; exact (has_bits h64).2 ⟨by omega, rfl⟩
 · have hwn : IntKind.u64.wrap (n : Int) = (n : Int) := wrapU (by omega) (by omega)
   have hr : run tb 8 [.int .i64 ((2 ^ n : Nat) : Int), numsD l, .int .i64 p] = some [.int .i64 r, numsD l, .int .i64 b0] := hr
   simp (disch := omega) only [ir22, stepQ, stepL, eq_self, aBin, reduceIte, Int.reduceEq, Int.reduceLT, Int.reduceLE, Int.reduceGT, Int.reduceGE, bvQ, wu, shl_norm, shr_norm, and1_norm, bv_convN, hr, hS1, hS2, hvo, hal, callQ_S]
theorem profile36_run {n : Nat} (hn : n ≤ 6) (most : Nat) (hmo : most < 1000) (l : List Int) (hl : l.length ≤ 2000) (p : Nat) (hp : p ≤ l.length) :
 ∃ (ks : List (BitVec 64)) (b : Nat), b ≤ l.length ∧ ks.length ≤ most ∧ (∀ X ∈ ks, X ≠ 0#64 ∧ ∀ w, has X w → w < 2 ^ n) ∧
  run tb 5 [.int .i64 most, .int .i64 n, numsD l, .int .i64 p] = some [.sl (F.encs (ks.map (thy (vocN n)))), bvsD ks, numsD l, .int .i64 b] := by
 obtain ⟨c, b0, c0, c1, hb0, hc⟩ := n_run ((most + 1 : Nat) : Int) l p hl hp (by omega) (by omega)
 obtain ⟨c, rfl⟩ := Int.eq_ofNat_of_zero_le c0
 have key := loop_kx (run := run tb) (body := ir5p0) (e := [.int .i64 most, .int .i64 n, numsD l, .int .i64 p, .int .i64 ((most + 1 : Nat) : Int), .int .i64 c, numsD l, .int .i64 b0]) (J := []) (σ := Nat × List (BitVec 64)) c
  (fun j s => s.1 ≤ l.length ∧ s.2.length = j ∧ ∀ X ∈ s.2, X ≠ 0#64 ∧ ∀ w, has X w → w < 2 ^ n) (fun j s => [.int .i64 ((c - j : Nat) : Int), numsD l, .int .i64 s.1, .sl (F.encs (s.2.map (thy (vocN n)))), bvsD s.2])
  (fun r => ∃ (ks : List (BitVec 64)) (b : Nat), b ≤ l.length ∧ ks.length ≤ most ∧ (∀ X ∈ ks, X ≠ 0#64 ∧ ∀ w, has X w → w < 2 ^ n) ∧ r = [.sl (F.encs (ks.map (thy (vocN n)))), bvsD ks, numsD l, .int .i64 b])
  (by
   rintro j ⟨q, ks⟩ L hj ⟨hq, hfl, hfs⟩ hL
   simp only at hq hfl hfs
   obtain ⟨K, q', hq', hK0, hKs, hr⟩ := some36_run hn l hl q hq
   have ht := theoryM_run hn hKs
   obtain ⟨r, hr1, hpost⟩ := hL (q', ks ++ [K]) ⟨hq', by simp [hfl], fun X hX => by
    rcases List.mem_append.1 hX with hX | hX
    · exact hfs X hX
    · rw [List.mem_singleton.1 hX]; exact ⟨hK0, hKs⟩⟩
   refine ⟨r, ?_, hpost⟩
   simp only [List.map_append, List.map_cons, List.map_nil] at hr1
   have hpos : 0 < c - j := by omega
   have hgt : ((c - j : Nat) : Int) > 0 := by omega
   have hsub : IntKind.i64.wrap (((c - j : Nat) : Int) - 1) = ((c - (j + 1) : Nat) : Int) := by rw [wr (by omega) (by omega)]; omega
   have a1 := app_F (l := ks.map (thy (vocN n))) (g := thy (vocN n) K) (by rw [List.length_map]; omega)
   have a2 := app_V1 (l := ks) (a := K) (by omega)
   simp (disch := omega) only [ir5p0, stepQ, stepL, eq_self, aBin, reduceIte, Int.reduceEq, Int.reduceLT, Int.reduceLE, Int.reduceGT, Int.reduceGE, hgt, hr, ht, a1, a2, hsub, hr1])
  (by
   rintro ⟨q, ks⟩ L ⟨hq, hfl, hfs⟩
   simp only at hq hfl hfs
   refine ⟨_, ?_, ks, q, hq, by omega, hfs, rfl⟩
   have hgt : ¬ ((c - c : Nat) : Int) > 0 := by omega
   simp (disch := omega) only [ir5p0, stepQ, stepL, eq_self, aBin, reduceIte, Int.reduceEq, Int.reduceLT, Int.reduceLE, Int.reduceGT, Int.reduceGE, hgt])
 obtain ⟨r, hr, ks, b, k1, k2, k3, rfl⟩ := key 0 (b0, []) (Nat.zero_le _) ⟨hb0, rfl, by simp⟩
 refine ⟨ks, b, k1, k2, k3, run_ir (x := ir5) rfl ?_⟩
 simp only [Nat.sub_zero, F.encs, List.map_nil, show bvsD [] = D.sl [] from rfl] at hr
 simp (disch := omega) only [ir5, stepQ, stepL, eq_self, aBin, reduceIte, Int.reduceEq, Int.reduceLT, Int.reduceLE, Int.reduceGT, Int.reduceGE, wr, natS, hc]
 simpa only [List.cons_append, List.nil_append] using hr
theorem awake36_run : run tb 2 [] = some [.bool true] := by
 refine run_ir (x := ir2) rfl ?_
 have hv2 : run tb 7 [.int .i64 2] = some [strsD (vocN 2)] := voc_run 2 (by omega)
 have sh : ∀ {X : BitVec 64}, (∀ w, w < 64 → 4 ≤ w → ¬ has X w) → ∀ w, has X w → w < 2 ^ 2 := fun h w hw => Decidable.byContradiction fun hc => h w (has_lt hw) (by omega) hw
 have x8 : ∀ w, has (8#64) w → w < 2 ^ 2 := sh (by decide +kernel)
 have x1 : ∀ w, has (1#64) w → w < 2 ^ 2 := sh (by decide +kernel)
 have x15 : ∀ w, has (15#64) w → w < 2 ^ 2 := sh (by decide +kernel)
 have t8 : run tb 16 [.int .i64 2, bvD 8#64] = _ := theoryM_run (n := 2) (by omega) x8
 have t1 : run tb 16 [.int .i64 2, bvD 1#64] = _ := theoryM_run (n := 2) (by omega) x1
 have t15 : run tb 16 [.int .i64 2, bvD 15#64] = _ := theoryM_run (n := 2) (by omega) x15
 have hks : ∀ X ∈ [8#64, 8#64, (1#64 : BitVec 64)], X ≠ 0#64 ∧ ∀ w, has X w → w < 2 ^ 2 := by
  intro X hX
  simp only [List.mem_cons, List.not_mem_nil, or_false] at hX
  rcases hX with rfl | rfl | rfl
  · exact ⟨by decide, x8⟩
  · exact ⟨by decide, x8⟩
  · exact ⟨by decide, x1⟩
 have m1 := mergeT_run (n := 2) (by omega) hks (by decide) (kind := 1) (by omega) (by omega) x15
 have m2 := mergeT_run (n := 2) (by omega) hks (by decide) (kind := 2) (by omega) (by omega) x15
 have m3 := mergeT_run (n := 2) (by omega) hks (by decide) (kind := 3) (by omega) (by omega) x15
 have m4 := mergeT_run (n := 2) (by omega) hks (by decide) (kind := 4) (by omega) (by omega) x15
 rw [show mrgS 2 [8#64, 8#64, 1#64] 1 15#64 = 8#64 by decide +kernel] at m1
 rw [show mrgS 2 [8#64, 8#64, 1#64] 2 15#64 = 6#64 by decide +kernel] at m2
 rw [show mrgS 2 [8#64, 8#64, 1#64] 3 15#64 = 6#64 by decide +kernel] at m3
 rw [show mrgS 2 [8#64, 8#64, 1#64] 4 15#64 = 8#64 by decide +kernel] at m4
 have mk : ∀ f g h : F, PO.eval (.mk 3 3) [.int .i64 f.op, .str f.name, .sl (F.encs f.args), .int .i64 g.op, .str g.name, .sl (F.encs g.args), .int .i64 h.op, .str h.name, .sl (F.encs h.args)] = some [.sl (F.encs [f, g, h])] := fun f g h => by simp [PO.eval, chunks, F.encs, F.enc_eq]
 simp only [List.map_cons, List.map_nil] at m1 m2 m3 m4
 have l8 : D.int .u64 8 = bvD 8#64 := rfl
 have l1 : D.int .u64 1 = bvD 1#64 := rfl
 have l15 : D.int .u64 15 = bvD 15#64 := rfl
 have l6 : D.int .u64 6 = bvD 6#64 := rfl
 generalize thy (vocN 2) 8#64 = f8 at *
 generalize thy (vocN 2) 1#64 = f1 at *
 generalize thy (vocN 2) 15#64 = f15 at *
 simp (disch := omega) only [ir2, stepQ, stepL, eq_self, aBin, reduceIte, Int.reduceEq, Int.reduceLT, Int.reduceLE, Int.reduceGT, Int.reduceGE, bvQ, wu, shl_norm, shr_norm, and1_norm, l8, l1, l15, l6, hv2, callQ_S, t8, t1, t15, mk, m1, m2, m3, m4, callQ_tvi]
end Go.Proofs.YtejddbdoioppgaaGreatDoor

namespace Go.Proofs.YtejddbdoioppgaaGreatDoor
open Go Am
set_option maxRecDepth 100000
def ScoreOK : Prop := ∀ (v : List Int) (kind : Int), Dig v → v.length ≤ 8 → run tb 30 [numsD v, .int .i64 kind] = some [.int .i64 (scoreS kind v)]
theorem hasR_run (x : BitVec 64) (w : Nat) (h : w < 9223372036854775808) : run tb 43 [bvD x, .int .i64 w] = some [.bool (x.getLsbD w)] := by
 refine run_ir (x := ir43) rfl ?_
 simp (disch := omega) only [ir43, stepQ, stepL, eq_self, aBin, reduceIte, Int.reduceEq, Int.reduceLT, Int.reduceLE, Int.reduceGT, Int.reduceGE, bvQ, wu, shl_norm, shr_norm, and1_norm]
theorem distR_run (v w : Int) : run tb 44 [.int .i64 v, .int .i64 w] = some [.int .i64 (ones (dif v w) 64)] := by
 refine run_ir (x := ir44) rfl ?_
 rw [show ones (dif v w) 64 = ones (dif v w) 6 from ones_6 _ (dif_6 v w) 58]
 simp (disch := omega) only [ir44, stepQ, stepL, eq_self, aBin, reduceIte, Int.reduceEq, Int.reduceLT, Int.reduceLE, Int.reduceGT, Int.reduceGE]
 refine loop_k (σ := Unit) 6 (fun _ _ => True) (fun i _ => [.int .i64 (ones (dif v w) i), .int .i64 i]) (fun _ _ => [.int .i64 (ones (dif v w) 6)]) ?_ ?_ 0 () (Nat.zero_le _) trivial
 · rintro i _ L hi _ hL
   have hnext := hL () trivial
   have hi' : (i : Int) < 6 := by omega
   have hle : ones (dif v w) i ≤ 64 := by
    have : ∀ k, ones (dif v w) k ≤ k := fun k => by
     induction k with
     | zero => exact Nat.le_refl _
     | succ k ih =>
      have : ((dif v w).getLsbD k).toNat ≤ 1 := by cases (dif v w).getLsbD k <;> simp
      simp only [ones]; omega
    have := this i; omega
   rw [show ones (dif v w) (i + 1) = ones (dif v w) i + ((dif v w).getLsbD i).toNat from rfl, dif_get, decide_eq_true hi, Bool.true_and] at hnext
   have hwu : IntKind.u64.wrap (i : Int) = (i : Int) := wrapU (by omega) (by omega)
   have e1 := bitI v i (by omega)
   have e2 := bitI w i (by omega)
   cases hx : (BitVec.ofInt 64 v).getLsbD i <;> cases hy : (BitVec.ofInt 64 w).getLsbD i <;>
   · rw [hx, hy] at hnext
     rw [hx] at e1
     rw [hy] at e2
     simp only [Bool.xor_false, Bool.xor_true, Bool.not_true, Bool.not_false, Bool.toNat_true, Bool.toNat_false, Nat.add_zero, Bool.false_eq_true, if_true, if_false, Bool.xor_self] at hnext e1 e2
     simp (disch := omega) only [ir44p1, ir44p0, stepQ, stepL, eq_self, aBin, reduceIte, Int.reduceEq, Int.reduceLT, Int.reduceLE, Int.reduceGT, Int.reduceGE, hwu, nat_nn, hi', e1, e2, ibne, wr, natS, hnext]
 · rintro _ L _
   simp (disch := omega) only [ir44p1, stepQ, stepL, eq_self, aBin, reduceIte, Int.reduceEq, Int.reduceLT, Int.reduceLE, Int.reduceGT, Int.reduceGE]
def rdT (X : BitVec 64) (w : Nat) : Nat → Nat
 | 0 => 100
 | v + 1 => if X.getLsbD v then min (rdT X w v) (ones (dif v w) 64) else rdT X w v
theorem rdT_min (X : BitVec 64) (w : Nat) : ∀ n, min (rdT X w n) 7 = dsS n X w
 | 0 => rfl
 | n + 1 => by
  have ih := rdT_min X w n
  have hs : dsS (n + 1) X w = if X.getLsbD n then min (dsS n X w) (ones (dif n w) 64) else dsS n X w := by
   unfold dsS worldsTo
   rw [List.range_succ, List.filter_append]
   cases hx : X.getLsbD n <;> simp [dsL, hx]
  have h6 := ones_six (n : Int) (w : Int)
  rw [rdT, hs]
  split <;> omega
theorem rvector_run {N : Nat} (hN : N ≤ 64) (ms : List (BitVec 64)) (hm : Mods N ms) (h8 : ms.length ≤ 1000) (w : Nat) (kind : Int) :
 run tb 28 [.int .i64 N, bvsD ms, .int .i64 w, .int .i64 kind] = some [numsD (vecS N ms kind w)] := by
 refine run_ir (x := ir28) rfl ?_
 simp (disch := omega) only [ir28, stepQ, stepL, eq_self, aBin, reduceIte, Int.reduceEq, Int.reduceLT, Int.reduceLE, Int.reduceGT, Int.reduceGE]
 show loopQ _ _ _ _ [.int .i64 ((0 : Nat) : Int), numsD (vecS N (ms.take 0) kind w)] = _
 refine loop_k (σ := Unit) ms.length (fun _ _ => True) (fun i _ => [.int .i64 i, numsD (vecS N (ms.take i) kind w)]) (fun _ _ => [numsD (vecS N ms kind w)]) ?_ ?_ 0 () (Nat.zero_le _) trivial
 · rintro i _ L hi _ hL
   have hnext := hL () trivial
   have hr := row_V hi
   have htk : vecS N (ms.take (i + 1)) kind w = vecS N (ms.take i) kind w ++ [entS kind (dsS N ms[i] w)] := by
    unfold vecS
    rw [List.take_add_one, List.getElem?_eq_getElem hi, List.map_append]; rfl
   rw [htk] at hnext
   have happ := app_N1 (l := vecS N (ms.take i) kind w) (a := entS kind (dsS N ms[i] w)) (by rw [vec_len, List.length_take]; omega)
   obtain ⟨u, hu, hx⟩ := hm _ (List.getElem_mem hi)
   have hd6 := dst_6 hu hx w
   simp (disch := omega) only [ir28p3, stepQ, stepL, eq_self, aBin, reduceIte, Int.reduceEq, Int.reduceLT, Int.reduceLE, Int.reduceGT, Int.reduceGE, len_V, hi]
   show loopQ _ _ _ _ [.int .i64 ((rdT ms[i] w 0 : Nat) : Int), .int .i64 ((0 : Nat) : Int)] = _
   refine loop_k (σ := Unit) N (fun _ _ => True) (fun v _ => [.int .i64 ((rdT ms[i] w v : Nat) : Int), .int .i64 v]) (fun _ _ => [numsD (vecS N ms kind w)]) ?_ ?_ 0 () (Nat.zero_le _) trivial
   · rintro v _ M hv _ hM
     have hnx := hM () trivial
     have hh := hasR_run ms[i] v (by omega)
     have hd := distR_run (v : Int) (w : Int)
     rw [rdT] at hnx
     generalize rdT ms[i] w v = T at *
     generalize ones (dif (v : Int) (w : Int)) 64 = o at *
     cases hb : ms[i].getLsbD v with
     | false =>
      rw [hb] at hh hnx
      simp only [Bool.false_eq_true, if_false] at hnx
      simp (disch := omega) only [ir28p2, ir28p0, stepQ, stepL, eq_self, aBin, reduceIte, Int.reduceEq, Int.reduceLT, Int.reduceLE, Int.reduceGT, Int.reduceGE, hv, hr, hh, wr, natS, hnx]
     | true =>
      rw [hb] at hh hnx
      simp only [if_true] at hnx
      have e2 : (if o < T then ((o : Nat) : Int) else (T : Int)) = ((min T o : Nat) : Int) := by split <;> omega
      simp (disch := omega) only [ir28p2, ir28p0, stepQ, stepL, eq_self, aBin, reduceIte, Int.reduceEq, Int.reduceLT, Int.reduceLE, Int.reduceGT, Int.reduceGE, hv, hr, hh, hd, ev_min, e2, wr, natS, hnx]
   · rintro _ M _
     have hmn := rdT_min ms[i] w N
     have he : entS kind (dsS N ms[i] w) = if kind = 4 then (if (1 : Int) < (rdT ms[i] w N : Int) then (1 : Int) else (rdT ms[i] w N : Int)) else (rdT ms[i] w N : Int) := by
      unfold entS
      by_cases hk : kind = 4
      · simp only [hk, if_true]; split <;> omega
      · simp only [hk, if_false]; omega
     rw [he] at happ hnext
     generalize rdT ms[i] w N = T at *
     by_cases hk : kind = 4
     · simp only [hk, if_true] at happ hnext
       simp (disch := omega) only [ir28p2, ir28p1, stepQ, stepL, eq_self, aBin, reduceIte, Int.reduceEq, Int.reduceLT, Int.reduceLE, Int.reduceGT, Int.reduceGE, Nat.lt_irrefl, hk, ev_min, happ, wr, natS, hnext]
     · simp only [hk, if_false] at happ hnext
       simp (disch := omega) only [ir28p2, ir28p1, stepQ, stepL, eq_self, aBin, reduceIte, Int.reduceEq, Int.reduceLT, Int.reduceLE, Int.reduceGT, Int.reduceGE, Nat.lt_irrefl, hk, ev_min, happ, wr, natS, hnext]
 · rintro _ L _
   rw [List.take_length]
   simp (disch := omega) only [ir28p3, stepQ, stepL, eq_self, aBin, reduceIte, Int.reduceEq, Int.reduceLT, Int.reduceLE, Int.reduceGT, Int.reduceGE, len_V, Nat.lt_irrefl]
theorem rmodels_run (names : List (List UInt8)) (hl : names.length < 1000000000) (hs : ∀ s ∈ names, s.length < 9223372036854775808) (fs : List F) (hf : ∀ f ∈ fs, f.size < 1000000000 ∧ F.allF nameB f = true) (hfl : fs.length < 1000000000) (kind : Int) :
 run tb 27 [strsD names, .sl (F.encs fs), .int .i64 kind] = some [if prE names fs kind = 0 then bvsD (fs.map (modelsS names)) else .sl [], .int .i64 (prE names fs kind)] := by
 refine run_ir (x := ir27) rfl ?_
 have h1 := valid3_run names hl hs
 cases hv : vocOk names with
 | false =>
  rw [hv] at h1
  have e : prE names fs kind = 1 := by unfold prE; rw [if_pos hv]
  rw [e, if_neg (by decide)]
  simp (disch := omega) only [ir27, stepQ, stepL, eq_self, aBin, reduceIte, Int.reduceEq, Int.reduceLT, Int.reduceLE, Int.reduceGT, Int.reduceGE, h1]
 | true =>
 rw [hv] at h1
 by_cases c1 : kind < 1
 · have e : prE names fs kind = 4 := by unfold prE; rw [if_neg (by simp [hv]), if_pos (.inl c1)]
   rw [e, if_neg (by decide)]
   simp (disch := omega) only [ir27, ir27p2, stepQ, stepL, eq_self, aBin, reduceIte, Int.reduceEq, Int.reduceLT, Int.reduceLE, Int.reduceGT, Int.reduceGE, h1, c1]
 by_cases c2 : kind > 4
 · have e : prE names fs kind = 4 := by unfold prE; rw [if_neg (by simp [hv]), if_pos (.inr c2)]
   rw [e, if_neg (by decide)]
   simp (disch := omega) only [ir27, ir27p2, stepQ, stepL, eq_self, aBin, reduceIte, Int.reduceEq, Int.reduceLT, Int.reduceLE, Int.reduceGT, Int.reduceGE, h1, c1, c2]
 by_cases c3 : fs.length > 8
 · have e : prE names fs kind = 2 := by unfold prE; rw [if_neg (by simp [hv]), if_neg (by omega), if_pos c3]
   have c3' : (fs.length : Int) > 8 := by omega
   rw [e, if_neg (by decide)]
   simp (disch := omega) only [ir27, ir27p2, stepQ, stepL, eq_self, aBin, reduceIte, Int.reduceEq, Int.reduceLT, Int.reduceLE, Int.reduceGT, Int.reduceGE, h1, c1, c2, len_F, c3']
 have c3' : ¬ (fs.length : Int) > 8 := by omega
 have e : prE names fs kind = if firstE names fs ≠ 0 then firstE names fs else if (fs.map (modelsS names)).contains 0#64 = true then 7 else 0 := by unfold prE; rw [if_neg (by simp [hv]), if_neg (by omega), if_neg c3]
 rw [e]
 simp (disch := omega) only [ir27, ir27p2, stepQ, stepL, eq_self, aBin, reduceIte, Int.reduceEq, Int.reduceLT, Int.reduceLE, Int.reduceGT, Int.reduceGE, h1, c1, c2, len_F, c3']
 show loopQ _ _ _ _ [.int .i64 ((0 : Nat) : Int), bvsD ((fs.take 0).map (modelsS names))] = _
 have hd0 : firstE names fs = firstE names (fs.drop 0) := by simp
 rw [hd0]
 refine loop_k (σ := Unit) fs.length (fun _ _ => True) (fun i _ => [.int .i64 i, bvsD ((fs.take i).map (modelsS names))])
  (fun i _ => [if (if firstE names (fs.drop i) ≠ 0 then firstE names (fs.drop i) else if (fs.map (modelsS names)).contains 0#64 = true then 7 else 0) = 0 then bvsD (fs.map (modelsS names)) else .sl [], .int .i64 (if firstE names (fs.drop i) ≠ 0 then firstE names (fs.drop i) else if (fs.map (modelsS names)).contains 0#64 = true then 7 else 0)]) ?_ ?_ 0 () (Nat.zero_le _) trivial
 · rintro i _ L hi _ hL
   have hnext := hL () trivial
   have hr := row_Fq hi
   have hm := modelsR_run names fs[i] hl hs (hf _ (List.getElem_mem hi)).1 (hf _ (List.getElem_mem hi)).2
   simp only [rowF] at hm
   rw [drop_s hi, firstE]
   by_cases c : modelsE names fs[i] = 0
   · rw [if_pos c]
     rw [c] at hm
     have htk : (fs.take (i + 1)).map (modelsS names) = (fs.take i).map (modelsS names) ++ [modelsS names fs[i]] := by
      rw [List.take_add_one, List.getElem?_eq_getElem hi, List.map_append]; rfl
     rw [htk] at hnext
     have happ := app_V1 (l := (fs.take i).map (modelsS names)) (a := modelsS names fs[i]) (by rw [List.length_map, List.length_take]; omega)
     simp (disch := omega) only [ir27p1, stepQ, stepL, eq_self, aBin, reduceIte, Int.reduceEq, Int.reduceLT, Int.reduceLE, Int.reduceGT, Int.reduceGE, len_F, hi, hr, hm, ibne, happ, wr, natS, hnext]
   · rw [if_neg c, if_pos c, if_neg c]
     simp (disch := omega) only [ir27p1, stepQ, stepL, eq_self, aBin, reduceIte, Int.reduceEq, Int.reduceLT, Int.reduceLE, Int.reduceGT, Int.reduceGE, len_F, hi, hr, hm, ibne, c]
 · rintro _ L _
   rw [List.take_length, List.drop_length]
   simp (disch := omega) only [ir27p1, stepQ, stepL, eq_self, aBin, reduceIte, Int.reduceEq, Int.reduceLT, Int.reduceLE, Int.reduceGT, Int.reduceGE, len_F, Nat.lt_irrefl, firstE, ne_eq, not_true_eq_false, if_false]
   have hz : (fs.map (modelsS names)).length = fs.length := List.length_map ..
   generalize fs.map (modelsS names) = ms at *
   refine loop_k (σ := Unit) ms.length (fun i _ => (ms.take i).contains 0#64 = false) (fun i _ => [.int .i64 i]) (fun _ _ => [if (if ms.contains 0#64 = true then (7 : Int) else 0) = 0 then bvsD ms else .sl [], .int .i64 (if ms.contains 0#64 = true then 7 else 0)]) ?_ ?_ 0 () (Nat.zero_le _) rfl
   · rintro i _ M hi hpre hM
     have hg := get_V hi
     have hc := chk_V hi
     by_cases c : ms[i] = 0#64
     · have : ms.contains 0#64 = true := List.contains_iff_mem.2 (c ▸ List.getElem_mem hi)
       simp (disch := omega) only [ir27p0, stepQ, stepL, eq_self, aBin, reduceIte, Int.reduceEq, Int.reduceLT, Int.reduceLE, Int.reduceGT, Int.reduceGE, bvQ, wu, shl_norm, shr_norm, and1_norm, len_V, hi, hg, hc, eq_true c, this, if_true, Int.reduceEq, if_false]
     · have hnext := hM () (by
        rw [List.take_add_one, List.getElem?_eq_getElem hi, Option.toList_some]
        have : ¬ 0#64 = ms[i] := fun h => c h.symm
        simp only [List.contains_eq_mem, decide_eq_false_iff_not, List.mem_append, List.mem_singleton, not_or] at hpre ⊢
        exact ⟨hpre, this⟩)
       simp (disch := omega) only [ir27p0, stepQ, stepL, eq_self, aBin, reduceIte, Int.reduceEq, Int.reduceLT, Int.reduceLE, Int.reduceGT, Int.reduceGE, bvQ, wu, shl_norm, shr_norm, and1_norm, len_V, hi, hg, hc, c, wr, natS, hnext]
   · rintro _ M hpre
     rw [List.take_length] at hpre
     simp (disch := omega) only [ir27p0, stepQ, stepL, eq_self, aBin, reduceIte, Int.reduceEq, Int.reduceLT, Int.reduceLE, Int.reduceGT, Int.reduceGE, bvQ, wu, shl_norm, shr_norm, and1_norm, len_V, Nat.lt_irrefl, hpre, Bool.false_eq_true, if_false, if_true]
theorem rVector_run (names : List (List UInt8)) (hl : names.length < 1000000000) (hs : ∀ s ∈ names, s.length < 9223372036854775808) (fs : List F) (hf : ∀ f ∈ fs, f.size < 1000000000 ∧ F.allF nameB f = true) (hfl : fs.length < 1000000000) (w kind : Int) :
 run tb 10 [strsD names, .sl (F.encs fs), .int .i64 w, .int .i64 kind] = some (if prE names fs kind ≠ 0 then [.sl [], .int .i64 (prE names fs kind)] else if w < 0 ∨ w ≥ 2 ^ names.length then [.sl [], .int .i64 1] else [numsD (vecS (2 ^ names.length) (fs.map (modelsS names)) kind w.toNat), .int .i64 0]) := by
 refine run_ir (x := ir10) rfl ?_
 have h1 := rmodels_run names hl hs fs hf hfl kind
 by_cases hp : prE names fs kind = 0
 · rw [hp, if_pos rfl] at h1
   rw [if_neg (by simp [hp])]
   obtain ⟨hv, k1, k4, h8, hm⟩ := prE_ok hp
   have h6 := vocOk_len hv
   have h64 := pow6 h6
   by_cases c1 : w < 0
   · rw [if_pos (.inl c1)]
     simp (disch := omega) only [ir10, ir10p0, stepQ, stepL, eq_self, aBin, reduceIte, Int.reduceEq, Int.reduceLT, Int.reduceLE, Int.reduceGT, Int.reduceGE, h1, ibne, c1]
   obtain ⟨w, rfl⟩ := Int.eq_ofNat_of_zero_le (show 0 ≤ w by omega)
   have c1' : ¬ ((w : Int) < 0) := by omega
   have hwn : IntKind.u64.wrap (names.length : Int) = (names.length : Int) := wrapU (by omega) (by omega)
   by_cases c2 : w ≥ 2 ^ names.length
   · have c3 : (w : Int) ≥ 2 ^ names.length := by exact_mod_cast c2
     rw [if_pos (.inr c3)]
     simp (disch := omega) only [ir10, ir10p0, stepQ, stepL, eq_self, aBin, reduceIte, Int.reduceEq, Int.reduceLT, Int.reduceLE, Int.reduceGT, Int.reduceGE, h1, ibne, c1', len_S, hwn, shl_norm, nat_nn, c2]
   · have c3 : ¬ (w : Int) ≥ 2 ^ names.length := fun h => c2 (by exact_mod_cast h)
     rw [if_neg (by omega)]
     clear c3
     rw [Int.toNat_natCast]
     have h2 := rvector_run h64 (fs.map (modelsS names)) hm (by rw [List.length_map]; omega) w kind
     have c4 : ∀ (l : List Int) k e J, callQ (run tb) 1 false [] k e J (some [numsD l]) = den (run tb) k (e ++ [numsD l]) J := fun l k e J => rfl
     simp (disch := omega) only [ir10, ir10p0, stepQ, stepL, eq_self, aBin, reduceIte, Int.reduceEq, Int.reduceLT, Int.reduceLE, Int.reduceGT, Int.reduceGE, h1, ibne, c1', len_S, hwn, shl_norm, nat_nn, c2, h2]
 · rw [if_neg hp] at h1
   rw [if_pos hp]
   simp (disch := omega) only [ir10, stepQ, stepL, eq_self, aBin, reduceIte, Int.reduceEq, Int.reduceLT, Int.reduceLE, Int.reduceGT, Int.reduceGE, h1, ibne, hp]
theorem rOrder_run (hsc : ScoreOK) (names : List (List UInt8)) (hl : names.length < 1000000000) (hs : ∀ s ∈ names, s.length < 9223372036854775808) (fs : List F) (hf : ∀ f ∈ fs, f.size < 1000000000 ∧ F.allF nameB f = true) (hfl : fs.length < 1000000000) (kind : Int) :
 run tb 13 [strsD names, .sl (F.encs fs), .int .i64 kind] = some (if prE names fs kind = 0 then [strsD names, numsD (mrgR (2 ^ names.length) (fs.map (modelsS names)) kind), .int .i64 0] else [.sl [], .sl [], .int .i64 (prE names fs kind)]) := by
 refine run_ir (x := ir13) rfl ?_
 have h1 := rmodels_run names hl hs fs hf hfl kind
 by_cases hp : prE names fs kind = 0
 · rw [hp, if_pos rfl] at h1
   rw [if_pos hp]
   obtain ⟨hv, k1, k4, h8, hm⟩ := prE_ok hp
   have h6 := vocOk_len hv
   have h64 := pow6 h6
   have hkl := scoL_len (2 ^ names.length) (fs.map (modelsS names)) kind
   have hno := normal3_run names (scoL (2 ^ names.length) (fs.map (modelsS names)) kind) hl hs (by omega)
   rw [if_pos (by simp [normE, hv, hkl])] at hno
   have hmkN := mkN (n := 2 ^ names.length) (by omega)
   rw [← hkl, fill_zero, hkl] at hmkN
   have hV := fun w : Nat => rvector_run h64 (fs.map (modelsS names)) hm (by rw [List.length_map]; omega) w kind
   have hK := fun w : Nat => hsc (vecS (2 ^ names.length) (fs.map (modelsS names)) kind w) kind (vec_dig hm kind w) (by rw [vec_len, List.length_map]; omega)
   have hG := fun (w : Nat) (h : w < 2 ^ names.length) => scoL_get (fs.map (modelsS names)) kind h
   show _ = some [strsD names, numsD (normS (scoL (2 ^ names.length) (fs.map (modelsS names)) kind)), .int .i64 0]
   have hwn : IntKind.u64.wrap (names.length : Int) = (names.length : Int) := wrapU (by omega) (by omega)
   simp (disch := omega) only [ir13, stepQ, stepL, eq_self, aBin, reduceIte, Int.reduceEq, Int.reduceLT, Int.reduceLE, Int.reduceGT, Int.reduceGE, h1, ibne, hwn, shl_norm, nat_nn, len_S, hmkN]
   generalize fs.map (modelsS names) = ms at *
   generalize normS (scoL (2 ^ names.length) ms kind) = R at *
   obtain ⟨n, eN⟩ : ∃ n, 2 ^ names.length = n := ⟨_, rfl⟩
   rw [eN] at hno hV hK hG hkl h64
   rw [eN]
   generalize scoL n ms kind = K at *
   have hfl : ∀ i, (fillR K i).length = n := fun i => by simp [fillR, hkl]
   refine loop_k (σ := Unit) n (fun _ _ => True) (fun i _ => [.int .i64 i, numsD (fillR K i)]) (fun _ _ => [strsD names, numsD R, .int .i64 0]) ?_ ?_ 0 () (Nat.zero_le _) trivial
   · rintro i _ L hi _ hL
     have hnext := hL () trivial
     rw [← fill_succ (by omega), hG i hi] at hnext
     have hc := chk_N (l := fillR K i) (i := i) (by rw [hfl]; exact hi)
     have hs := set_N (l := fillR K i) (i := i) (by rw [hfl]; exact hi) (scoreS kind (vecS n ms kind i))
     have h1 := hV i
     have h2 := hK i
     simp (disch := omega) only [ir13p0, stepQ, stepL, eq_self, aBin, reduceIte, Int.reduceEq, Int.reduceLT, Int.reduceLE, Int.reduceGT, Int.reduceGE, hi, h1, h2, hc, hs, wr, natS, hnext]
   · rintro _ L _
     have he : fillR K n = K := by rw [← hkl]; exact fill_end _
     simp (disch := omega) only [ir13p0, stepQ, stepL, eq_self, aBin, reduceIte, Int.reduceEq, Int.reduceLT, Int.reduceLE, Int.reduceGT, Int.reduceGE, Nat.lt_irrefl, he, hno]
 · rw [if_neg hp] at h1
   rw [if_neg hp]
   simp (disch := omega) only [ir13, stepQ, stepL, eq_self, aBin, reduceIte, Int.reduceEq, Int.reduceLT, Int.reduceLE, Int.reduceGT, Int.reduceGE, h1, ibne, hp]
theorem rMerge_run (hsc : ScoreOK) (names : List (List UInt8)) (hl : names.length < 1000000000) (hs : ∀ s ∈ names, s.length < 9223372036854775808) (fs : List F) (hf : ∀ f ∈ fs, f.size < 1000000000 ∧ F.allF nameB f = true) (hfl : fs.length < 1000000000) (c : F) (hc : c.size < 1000000000) (hcb : F.allF nameB c = true) (kind : Int) :
 run tb 18 [strsD names, .sl (F.encs fs), .int .i64 c.op, .str c.name, .sl (F.encs c.args), .int .i64 kind] = some [bvD (mgA names fs c kind), .int .i64 (mgE names fs c kind)] := by
 refine run_ir (x := ir18) rfl ?_
 have h1 := rOrder_run hsc names hl hs fs hf hfl kind
 have h2 := modelsR_run names c hl hs hc hcb
 simp only [rowF] at h2
 unfold mgA
 by_cases c1 : prE names fs kind = 0
 · have e : mgE names fs c kind = modelsE names c := by unfold mgE; rw [if_neg (by simp [c1])]
   rw [if_pos c1] at h1
   rw [e]
   by_cases c2 : modelsE names c = 0
   · have hle := prE_ok c1
     have h6 := vocOk_len hle.1
     have h64 := pow6 h6
     have h3 := least3_run names (mrgR (2 ^ names.length) (fs.map (modelsS names)) kind) hl hs (by unfold mrgR; rw [norm_len, scoL_len]; omega) (modelsS names c)
     rw [c2] at h2
     rw [c2, if_pos rfl]
     simp (disch := omega) only [ir18, stepQ, stepL, eq_self, aBin, reduceIte, Int.reduceEq, Int.reduceLT, Int.reduceLE, Int.reduceGT, Int.reduceGE, h1, ibne, h2, h3]
   · rw [if_neg c2]
     simp (disch := omega) only [ir18, stepQ, stepL, eq_self, aBin, reduceIte, Int.reduceEq, Int.reduceLT, Int.reduceLE, Int.reduceGT, Int.reduceGE, bvQ, wu, shl_norm, shr_norm, and1_norm, h1, ibne, h2, c2]
 · have e : mgE names fs c kind = prE names fs kind := by unfold mgE; rw [if_pos c1]
   rw [if_neg c1] at h1
   rw [e, if_neg c1]
   simp (disch := omega) only [ir18, stepQ, stepL, eq_self, aBin, reduceIte, Int.reduceEq, Int.reduceLT, Int.reduceLE, Int.reduceGT, Int.reduceGE, bvQ, wu, shl_norm, shr_norm, and1_norm, h1, ibne, c1]
end Go.Proofs.YtejddbdoioppgaaGreatDoor

namespace Go.Proofs.YtejddbdoioppgaaGreatDoor
open Go Am
set_option maxRecDepth 100000
theorem pVector_run (names : List (List UInt8)) (hl : names.length < 1000000000) (fs : List F) (hf : ∀ f ∈ fs, f.size < 1000000000) (hfl : fs.length < 1000000000) (w kind : Int) :
 run tb 9 [strsD names, .sl (F.encs fs), .int .i64 w, .int .i64 kind] = some (if prE names fs kind ≠ 0 then [.sl [], .int .i64 (prE names fs kind)] else if w < 0 ∨ w ≥ 2 ^ names.length then [.sl [], .int .i64 1] else [numsD (vecS (2 ^ names.length) (fs.map (modelsS names)) kind w.toNat), .int .i64 0]) := by
 refine run_ir (x := ir9) rfl ?_
 have h1 := mprofile_run names hl fs hf hfl kind
 by_cases hp : prE names fs kind = 0
 · rw [hp, if_pos rfl] at h1
   rw [if_neg (by simp [hp])]
   obtain ⟨hv, k1, k4, h8, hm⟩ := prE_ok hp
   have h6 := vocOk_len hv
   have h64 := pow6 h6
   by_cases c1 : w < 0
   · rw [if_pos (.inl c1)]
     simp (disch := omega) only [ir9, ir9p0, stepQ, stepL, eq_self, aBin, reduceIte, Int.reduceEq, Int.reduceLT, Int.reduceLE, Int.reduceGT, Int.reduceGE, h1, ibne, c1]
   obtain ⟨w, rfl⟩ := Int.eq_ofNat_of_zero_le (show 0 ≤ w by omega)
   have c1' : ¬ ((w : Int) < 0) := by omega
   by_cases c2 : w ≥ 2 ^ names.length
   · have c3 : (w : Int) ≥ 2 ^ names.length := by exact_mod_cast c2
     rw [if_pos (.inr c3)]
     simp (disch := omega) only [ir9, ir9p0, stepQ, stepL, eq_self, aBin, reduceIte, Int.reduceEq, Int.reduceLT, Int.reduceLE, Int.reduceGT, Int.reduceGE, h1, ibne, c1', len_S, shl_norm, nat_nn, c2]
   · have c3 : ¬ (w : Int) ≥ 2 ^ names.length := fun h => c2 (by exact_mod_cast h)
     rw [if_neg (by omega)]
     rw [Int.toNat_natCast]
     have h2 := mvector_run names hv (fs.map (modelsS names)) hm (by rw [List.length_map]; omega) w kind
     have c4 : ∀ (l : List Int) k e J, callQ (run tb) 1 false [0] k e J (some [numsD l]) = den (run tb) k (e ++ [numsD l]) J := fun l k e J => rfl
     simp (disch := omega) only [ir9, ir9p0, stepQ, stepL, eq_self, aBin, reduceIte, Int.reduceEq, Int.reduceLT, Int.reduceLE, Int.reduceGT, Int.reduceGE, h1, ibne, c1', len_S, shl_norm, nat_nn, c2, h2, c4]
 · rw [if_neg hp] at h1
   rw [if_pos hp]
   simp (disch := omega) only [ir9, stepQ, stepL, eq_self, aBin, reduceIte, Int.reduceEq, Int.reduceLT, Int.reduceLE, Int.reduceGT, Int.reduceGE, h1, ibne, hp]
end Go.Proofs.YtejddbdoioppgaaGreatDoor

namespace Go.Proofs.YtejddbdoioppgaaGreatDoor
open Go Am
set_option maxRecDepth 100000
theorem ints_run (a b : List Int) (ha : a.length < 1000000000) : run tb 11 [numsD a, numsD b] = some [.bool (decide (a = b))] := by
 refine run_ir (x := ir11) rfl ?_
 by_cases hl : a.length = b.length
 · simp (disch := omega) only [ir11, stepQ, stepL, eq_self, aBin, reduceIte, Int.reduceEq, Int.reduceLT, Int.reduceLE, Int.reduceGT, Int.reduceGE, len_N, ibne, hl]
   have h0 : decide (a = b) = decide (a.drop 0 = b.drop 0) := by simp
   rw [h0]
   refine loop_k (σ := Unit) b.length (fun _ _ => True) (fun i _ => [.int .i64 i]) (fun i _ => [.bool (decide (a.drop i = b.drop i))]) ?_ ?_ 0 () (Nat.zero_le _) trivial
   · rintro i _ L hi _ hL
     have hnext := hL () trivial
     have hia : i < a.length := by omega
     have e1 : a.drop i = a[i] :: a.drop (i + 1) := List.drop_eq_getElem_cons hia
     have e2 : b.drop i = b[i] :: b.drop (i + 1) := List.drop_eq_getElem_cons hi
     rw [e1, e2]
     by_cases h : a[i] = b[i]
     · have : decide (a[i] :: a.drop (i + 1) = b[i] :: b.drop (i + 1)) = decide (a.drop (i + 1) = b.drop (i + 1)) := by rw [h]; exact decide_eq_decide.2 ⟨fun e => (List.cons.inj e).2, fun e => by rw [e]⟩
       rw [this]
       simp (disch := omega) only [ir11p0, stepQ, stepL, eq_self, aBin, reduceIte, Int.reduceEq, Int.reduceLT, Int.reduceLE, Int.reduceGT, Int.reduceGE, hi, hia, row_N, ibne, h, wr, natS, hnext]
     · have : decide (a[i] :: a.drop (i + 1) = b[i] :: b.drop (i + 1)) = false := decide_eq_false fun e => h (List.cons.inj e).1
       rw [this]
       simp (disch := omega) only [ir11p0, stepQ, stepL, eq_self, aBin, reduceIte, Int.reduceEq, Int.reduceLT, Int.reduceLE, Int.reduceGT, Int.reduceGE, hi, hia, row_N, ibne, h, wr, natS]
   · rintro _ L _
     have : decide (a.drop b.length = b.drop b.length) = true := by simp [← hl]
     rw [this]
     simp (disch := omega) only [ir11p0, stepQ, stepL, eq_self, aBin, reduceIte, Int.reduceEq, Int.reduceLT, Int.reduceLE, Int.reduceGT, Int.reduceGE, Nat.lt_irrefl]
 · have : decide (a = b) = false := by simp; rintro rfl; exact hl rfl
   rw [this]
   simp (disch := omega) only [ir11, stepQ, stepL, eq_self, aBin, reduceIte, Int.reduceEq, Int.reduceLT, Int.reduceLE, Int.reduceGT, Int.reduceGE, len_N, ibne, hl]
theorem sameNR_run (l : List (List UInt8)) (hl : l.length < 1000000000) : run tb 32 [strsD l, strsD l] = some [.bool true] := by
 refine run_ir (x := ir32) rfl ?_
 simp (disch := omega) only [ir32, stepQ, stepL, eq_self, aBin, reduceIte, Int.reduceEq, Int.reduceLT, Int.reduceLE, Int.reduceGT, Int.reduceGE, len_S, ibne]
 refine loop_k (σ := Unit) l.length (fun _ _ => True) (fun i _ => [.int .i64 i]) (fun _ _ => [.bool true]) ?_ ?_ 0 () (Nat.zero_le _) trivial
 · rintro i _ L hi _ hL
   have hnext := hL () trivial
   have h1 : (l[i] == l[i]) = true := beq_self_eq_true _
   have h2 : (l[i] != l[i]) = false := bne_self_eq_false _
   simp (disch := omega) only [ir32p0, stepQ, stepL, eq_self, aBin, reduceIte, Int.reduceEq, Int.reduceLT, Int.reduceLE, Int.reduceGT, Int.reduceGE, len_S, hi, row_S, h1, h2, wr, natS, hnext]
 · rintro _ L _
   simp (disch := omega) only [ir32p0, stepQ, stepL, eq_self, aBin, reduceIte, Int.reduceEq, Int.reduceLT, Int.reduceLE, Int.reduceGT, Int.reduceGE, len_S, Nat.lt_irrefl]
theorem sameR_run (l : List (List UInt8)) (hl : l.length < 1000000000) (a : List Int) (ha : a.length < 1000000000) : run tb 14 [strsD l, numsD a, strsD l, numsD a] = some [.bool true] := by
 refine run_ir (x := ir14) rfl ?_
 have h1 := sameNR_run l hl
 have h2 := ints_run a a ha
 rw [decide_eq_true rfl] at h2
 simp (disch := omega) only [ir14, stepQ, stepL, eq_self, aBin, reduceIte, Int.reduceEq, Int.reduceLT, Int.reduceLE, Int.reduceGT, Int.reduceGE, h1, h2]
end Go.Proofs.YtejddbdoioppgaaGreatDoor

namespace Go.Proofs.YtejddbdoioppgaaGreatDoor
open Go Am
set_option maxRecDepth 100000
def lsD (vs : List (List (List UInt8))) : D := .sl (vs.map fun v => [strsD v])
theorem get_LS {vs : List (List (List UInt8))} {i : Nat} (h : i < vs.length) : PO.eval (.get 0 1) [lsD vs, .int .i64 i] = some [strsD vs[i]] := by simp [PO.eval, lsD, h]
theorem chk_LS {vs : List (List (List UInt8))} {i : Nat} (h : i < vs.length) : PO.eval .chk [lsD vs, .int .i64 i] = some [] := ev_chk (by omega) (by simp; omega)
theorem len_LS (vs : List (List (List UInt8))) : PO.eval .lenL [lsD vs] = some [.int .i64 vs.length] := by simp [lsD, ev_lenL]
def ffD (vs : List (List F)) : D := .sl (vs.map fun v => [.sl (F.encs v)])
theorem get_FF {vs : List (List F)} {i : Nat} (h : i < vs.length) : PO.eval (.get 0 1) [ffD vs, .int .i64 i] = some [.sl (F.encs vs[i])] := by simp [PO.eval, ffD, h]
theorem chk_FF {vs : List (List F)} {i : Nat} (h : i < vs.length) : PO.eval .chk [ffD vs, .int .i64 i] = some [] := ev_chk (by omega) (by simp; omega)
theorem len_FF (vs : List (List F)) : PO.eval .lenL [ffD vs] = some [.int .i64 vs.length] := by simp [ffD, ev_lenL]
theorem app_F2 {a b : List F} (h : a.length + b.length < 1000000000000) : PO.eval (.app 3 48) [.sl (F.encs a), .sl (F.encs b)] = some [.sl (F.encs (a ++ b))] := by
 rw [ev_app (by rw [F.encs_len, F.encs_len]; omega) (by rw [F.encs_len, F.encs_len]; omega) (by rw [F.encs_map]; simp [F.enc_eq])]
 simp [F.encs_map]
theorem vec_res (names : List (List UInt8)) (fs : List F) (hfl : fs.length < 1000000000) (w kind : Int) : ∃ (V : List Int) (E : Int), V.length < 1000000000 ∧
 (if prE names fs kind ≠ 0 then [.sl [], .int .i64 (prE names fs kind)] else if w < 0 ∨ w ≥ 2 ^ names.length then [.sl [], .int .i64 1] else [numsD (vecS (2 ^ names.length) (fs.map (modelsS names)) kind w.toNat), .int .i64 0] : List D) = [numsD V, .int .i64 E] := by
 split
 · exact ⟨[], _, by simp, rfl⟩
 split
 · exact ⟨[], _, by simp, rfl⟩
 · exact ⟨_, _, by rw [vec_len, List.length_map]; exact hfl, rfl⟩
theorem ord_res (names : List (List UInt8)) (hl : names.length < 60) (fs : List F) (kind : Int) : ∃ (nm : List (List UInt8)) (R : List Int) (E : Int), nm.length < 1000000000 ∧ R.length < 1000000000 ∧
 (if prE names fs kind = 0 then [strsD names, numsD (mrgR (2 ^ names.length) (fs.map (modelsS names)) kind), .int .i64 0] else [.sl [], .sl [], .int .i64 (prE names fs kind)] : List D) = [strsD nm, numsD R, .int .i64 E] := by
 split
 · rename_i h
   have h6 := vocOk_len (prE_ok h).1
   have h64 := pow6 h6
   exact ⟨_, _, _, by omega, by unfold mrgR; rw [norm_len, scoL_len]; omega, rfl⟩
 · exact ⟨[], [], _, by simp, by simp, rfl⟩
theorem sm_ok {f : F} (h : smallF f = true) : f.size < 1000000000 ∧ F.allF nameB f = true := by
 unfold smallF at h
 simp only [Bool.and_eq_true, decide_eq_true_eq] at h
 exact ⟨by omega, allF_mono (fun g hg => by simp only [shortB, nameB, decide_eq_true_eq] at hg ⊢; omega) f h.2.2⟩
theorem manswers_run (hsc : ScoreOK) (raw : List (List UInt8)) (gv : List F) (f : F) (l0 : List Int) (w k0 : Int) (hraw : ∀ s ∈ raw, s.length < 9223372036854775808) :
 run tb 0 [strsD raw, .sl (F.encs gv), .int .i64 f.op, .str f.name, .sl (F.encs f.args), numsD l0, .int .i64 w, .int .i64 k0] = some [.bool true] := by
 have aw := awake36_run
 have sf := small_run f
 simp only [rowF] at sf
 refine run_ir (x := ir0) rfl ?_
 by_cases c1 : (raw.length : Int) > 10
 · simp (disch := omega) only [ir0, ir0p9, stepQ, stepL, eq_self, aBin, reduceIte, Int.reduceEq, Int.reduceLT, Int.reduceLE, Int.reduceGT, Int.reduceGE, len_S, c1, aw]
 by_cases c1b : (gv.length : Int) > 12
 · simp (disch := omega) only [ir0, ir0p9, stepQ, stepL, eq_self, aBin, reduceIte, Int.reduceEq, Int.reduceLT, Int.reduceLE, Int.reduceGT, Int.reduceGE, len_S, len_F, c1, c1b, aw]
 cases c2 : smallF f with
 | false =>
  rw [c2] at sf
  simp (disch := omega) only [ir0, ir0p9, stepQ, stepL, eq_self, aBin, reduceIte, Int.reduceEq, Int.reduceLT, Int.reduceLE, Int.reduceGT, Int.reduceGE, len_S, len_F, c1, c1b, sf, aw]
 | true =>
 rw [c2] at sf
 have fF := sm_ok c2
 simp (disch := omega) only [ir0, ir0p9, stepQ, stepL, eq_self, aBin, reduceIte, Int.reduceEq, Int.reduceLT, Int.reduceLE, Int.reduceGT, Int.reduceGE, len_S, len_F, c1, c1b, sf]
 refine loop_k (σ := Unit) gv.length (fun i _ => ∀ j, (h : j < gv.length) → j < i → smallF gv[j] = true) (fun i _ => [.int .i64 i]) (fun _ _ => [.bool true]) ?_ ?_ 0 () (Nat.zero_le _) (fun j h h' => by omega)
 · rintro i _ L hi hpre hL
   have hr := row_Fq hi
   have hsm := small_run gv[i]
   simp only [rowF] at hsm
   cases c3 : smallF gv[i] with
   | false =>
    rw [c3] at hsm
    simp (disch := omega) only [ir0p8, stepQ, stepL, eq_self, aBin, reduceIte, Int.reduceEq, Int.reduceLT, Int.reduceLE, Int.reduceGT, Int.reduceGE, len_F, hi, hr, hsm, aw]
   | true =>
    rw [c3] at hsm
    have hnext := hL () (fun j h h' => by
     by_cases e : j = i
     · subst e; exact c3
     · exact hpre j h (by omega))
    simp (disch := omega) only [ir0p8, stepQ, stepL, eq_self, aBin, reduceIte, Int.reduceEq, Int.reduceLT, Int.reduceLE, Int.reduceGT, Int.reduceGE, len_F, hi, hr, hsm, wr, natS, hnext]
 rintro _ L hpre
 have hgv : ∀ h ∈ gv, h.size < 1000000000 ∧ F.allF nameB h = true := fun h hh => by
  obtain ⟨j, hj, rfl⟩ := List.getElem_of_mem hh
  exact sm_ok (hpre j hj hj)
 obtain ⟨l, hl, hn⟩ := new_run l0
 obtain ⟨r, p, r1, r2, hp, hr⟩ := range_run 0 3 l 0 hl (by omega) (by omega) (by omega) (by omega)
 obtain ⟨n, rfl⟩ := Int.eq_ofNat_of_zero_le (show 0 ≤ r by omega)
 have hr : run tb 4 [.int .i64 0, .int .i64 3, numsD l, .int .i64 0] = some [.int .i64 n, numsD l, .int .i64 p] := hr
 have hn6 : n ≤ 6 := by omega
 have hvo := voc_run n (by omega)
 obtain ⟨ps, p2, hp2, hkl, hks, hpk⟩ := profile36_run hn6 4 (by omega) l hl p hp
 have hpk : run tb 5 [.int .i64 4, .int .i64 n, numsD l, .int .i64 p] = _ := hpk
 obtain ⟨g, p3, hp3, hmg, hg⟩ := formula_run (max n 1) (by omega) (by omega) l hl 2 (by omega) p2 hp2
 have hg : run tb 6 [.int .i64 (max n 1 : Nat), .int .i64 2, numsD l, .int .i64 p2] = some [.int .i64 g.op, .str g.name, .sl (F.encs g.args), numsD l, .int .i64 p3] := hg
 obtain ⟨g1, g2, _⟩ := made_models (n := max n 1) (by omega) (by omega) hmg
 have hmax : (if (1 : Int) > (n : Int) then (1 : Int) else n) = ((max n 1 : Nat) : Int) := by split <;> omega
 have mk1 : ∀ f : F, PO.eval (.mk 3 1) [.int .i64 f.op, .str f.name, .sl (F.encs f.args)] = some [.sl (F.encs [f])] := fun f => by simp [PO.eval, chunks, F.encs, F.enc_eq]
 obtain ⟨fp, hfp⟩ : ∃ fp, ps.map (thy (vocN n)) = fp := ⟨_, rfl⟩
 have lfp : fp.length ≤ 4 := by rw [← hfp, List.length_map]; exact hkl
 have hfpk : ∀ h ∈ fp, h.size < 1000000000 ∧ F.allF nameB h = true := by
  intro h hh
  rw [← hfp] at hh
  obtain ⟨X, _, rfl⟩ := List.mem_map.1 hh
  exact thy_small hn6 X
 rw [hfp] at hpk
 have ap0 := app_F0 (l := fp) (by omega)
 have ap1 := app_F2 (a := fp) (b := [g]) (by simp; omega)
 obtain ⟨vs, hvs⟩ : ∃ vs : List (List (List UInt8)), vs = [raw, vocN n] := ⟨_, rfl⟩
 have hmk : PO.eval (.mk 1 2) [strsD raw, strsD (vocN n)] = some [lsD vs] := by subst hvs; rfl
 have hsh : ∀ x ∈ vs, x.length < 60 ∧ ∀ s ∈ x, s.length < 9223372036854775808 := by
  subst hvs
  intro x hx
  simp only [List.mem_cons, List.not_mem_nil, or_false] at hx
  rcases hx with rfl | rfl
  · exact ⟨by omega, hraw⟩
  · exact ⟨by rw [vocN_len]; omega, fun s hs => by rw [vocN_short s hs]; omega⟩
 have lvs : vs.length = 2 := by subst hvs; rfl
 clear hvs
 obtain ⟨gs, hgs⟩ : ∃ gs : List (List F), gs = [gv, fp, fp ++ [g]] := ⟨_, rfl⟩
 have hmkg : PO.eval (.mk 1 3) [.sl (F.encs gv), .sl (F.encs fp), .sl (F.encs (fp ++ [g]))] = some [ffD gs] := by subst hgs; rfl
 have hgsk : ∀ x ∈ gs, x.length < 1000000000 ∧ ∀ h ∈ x, h.size < 1000000000 ∧ F.allF nameB h = true := by
  subst hgs
  intro x hx
  simp only [List.mem_cons, List.not_mem_nil, or_false] at hx
  rcases hx with rfl | rfl | rfl
  · exact ⟨by omega, hgv⟩
  · exact ⟨by omega, hfpk⟩
  · refine ⟨by simp; omega, fun h hh => ?_⟩
    rcases List.mem_append.1 hh with hh | hh
    · exact hfpk h hh
    · rw [List.mem_singleton.1 hh]; exact ⟨by omega, good_nameB g1⟩
 have lgs : gs.length = 3 := by subst hgs; rfl
 clear hgs
 have hpm : 2 ^ n ≤ 64 := pow6 hn6
 have hpp := Nat.two_pow_pos n
 have hwn : IntKind.u64.wrap (n : Int) = (n : Int) := wrapU (by omega) (by omega)
 simp (disch := omega) only [ir0p8, stepQ, stepL, eq_self, aBin, reduceIte, Int.reduceEq, Int.reduceLT, Int.reduceLE, Int.reduceGT, Int.reduceGE, len_F, Nat.lt_irrefl, hn, hr, hpk, ap0, ap1, ev_max, hmax, hg, mk1, hvo, callQ_S, hmk, len_LS]
 refine loop_k (σ := Nat) vs.length (fun _ q => q ≤ l.length) (fun i q => [.int .i64 i, numsD l, .int .i64 q]) (fun _ _ => [.bool true]) ?_ ?_ 0 p3 (Nat.zero_le _) hp3
 · rintro i q L1 hi hq hL1
   obtain ⟨x1, x2⟩ := hsh vs[i] (List.getElem_mem hi)
   have hgt := get_LS hi
   have hck := chk_LS hi
   generalize vs[i] = x at *
   simp (disch := omega) only [ir0p7, stepQ, stepL, eq_self, aBin, reduceIte, Int.reduceEq, Int.reduceLT, Int.reduceLE, Int.reduceGT, Int.reduceGE, hi, hck, hgt, hmkg, len_FF]
   refine loop_k (σ := Nat) gs.length (fun _ q => q ≤ l.length) (fun i q => [.int .i64 i, numsD l, .int .i64 q]) (fun _ _ => [.bool true]) ?_ ?_ 0 q (Nat.zero_le _) hq
   · rintro i2 q L2 hi2 hq hL2
     obtain ⟨y1, y2⟩ := hgsk gs[i2] (List.getElem_mem hi2)
     have hgt2 := get_FF hi2
     have hck2 := chk_FF hi2
     generalize gs[i2] = fs at *
     obtain ⟨k, q1, k1, k4, hq1, hk⟩ := range_run 1 4 l q hl hq (by omega) (by omega) (by omega)
     obtain ⟨ks, hks⟩ : ∃ ks : List Int, ks = [k0, k] := ⟨_, rfl⟩
     have hmk2 : PO.eval (.mk 1 2) [.int .i64 k0, .int .i64 k] = some [numsD ks] := by subst hks; rfl
     have lks : ks.length = 2 := by subst hks; rfl
     clear hks
     simp (disch := omega) only [ir0p6, stepQ, stepL, eq_self, aBin, reduceIte, Int.reduceEq, Int.reduceLT, Int.reduceLE, Int.reduceGT, Int.reduceGE, hi2, hck2, hgt2, hk, hmk2, len_N]
     refine loop_k (σ := Nat) ks.length (fun _ q => q ≤ l.length) (fun i q => [.int .i64 i, numsD l, .int .i64 q]) (fun _ _ => [.bool true]) ?_ ?_ 0 q1 (Nat.zero_le _) hq1
     · rintro i3 q L3 hi3 hq hL3
       have hgt3 := get_N hi3
       have hck3 := chk_N hi3
       generalize ks[i3] = k at *
       obtain ⟨y, q2, ya, yb, hq2, hy⟩ := n_run ((2 ^ n : Nat) : Int) l q hl hq (by omega) (by omega)
       obtain ⟨ys, hys⟩ : ∃ ys : List Int, ys = [w, y] := ⟨_, rfl⟩
       have hmk4 : PO.eval (.mk 1 2) [.int .i64 w, .int .i64 y] = some [numsD ys] := by subst hys; rfl
       have lys : ys.length = 2 := by subst hys; rfl
       clear hys
       simp (disch := omega) only [ir0p5, stepQ, stepL, eq_self, aBin, reduceIte, Int.reduceEq, Int.reduceLT, Int.reduceLE, Int.reduceGT, Int.reduceGE, shl_norm, nat_nn, hwn, hi3, hck3, hgt3, hy, hmk4, len_N]
       refine loop_k (σ := Unit) ys.length (fun _ _ => True) (fun i _ => [.int .i64 i]) (fun _ _ => [.bool true]) ?_ ?_ 0 () (Nat.zero_le _) trivial
       · rintro i4 _ M4 hi4 _ hM4
         have hnx := hM4 () trivial
         have hgt4 := get_N hi4
         have hck4 := chk_N hi4
         generalize ys[i4] = z at *
         have e1 := pVector_run x (by omega) fs (fun h hh => (y2 h hh).1) y1 z k
         have e2 := rVector_run x (by omega) x2 fs y2 y1 z k
         obtain ⟨V, E, hV, hVE⟩ := vec_res x fs y1 z k
         rw [hVE] at e1 e2
         have e3 := ints_run V V hV
         simp (disch := omega) only [ir0p4, ir0p0, stepQ, stepL, eq_self, aBin, reduceIte, Int.reduceEq, Int.reduceLT, Int.reduceLE, Int.reduceGT, Int.reduceGE, hi4, hck4, hgt4, e1, e2, e3, ibne, decide_true, wr, natS, hnx]
       · rintro _ M4 _
         have e1 := morder_run x (by omega) fs (fun h hh => (y2 h hh).1) y1 k
         have e2 := rOrder_run hsc x (by omega) x2 fs y2 y1 k
         obtain ⟨nm, R, E, hnm, hR, hRE⟩ := ord_res x x1 fs k
         rw [hRE] at e1 e2
         have e3 := sameR_run nm hnm R hR
         obtain ⟨S, q3, hq3, hS⟩ := set_run l q2 hl hq2
         have ht := theory36_run hn6 S
         obtain ⟨th, hth⟩ : ∃ th, thy (vocN n) (S &&& allS (vocN n)) = th := ⟨_, rfl⟩
         have hthk : th.size < 1000000000 ∧ F.allF nameB th = true := hth ▸ thy_small hn6 _
         rw [hth] at ht
         obtain ⟨hs, hhs⟩ : ∃ hs : List F, hs = [f, th] := ⟨_, rfl⟩
         have hmk5 : PO.eval (.mk 3 2) [.int .i64 f.op, .str f.name, .sl (F.encs f.args), .int .i64 th.op, .str th.name, .sl (F.encs th.args)] = some [.sl (F.encs hs)] := by
          subst hhs; rw [ev_mk32]; simp [F.encs, F.enc_eq]
         have hff : ∀ h ∈ hs, h.size < 1000000000 ∧ F.allF nameB h = true := by
          subst hhs
          intro h hh
          simp only [List.mem_cons, List.not_mem_nil, or_false] at hh
          rcases hh with rfl | rfl
          · exact fF
          · exact hthk
         have lhs : hs.length = 2 := by subst hhs; rfl
         clear hhs
         have hnext := hL3 q3 hq3
         simp (disch := omega) only [ir0p4, ir0p3, stepQ, stepL, eq_self, aBin, reduceIte, Int.reduceEq, Int.reduceLT, Int.reduceLE, Int.reduceGT, Int.reduceGE, Nat.lt_irrefl, e1, e2, e3, ibne, hS, ht, hmk5, len_F]
         refine loop_k (σ := Unit) hs.length (fun _ _ => True) (fun i _ => [.int .i64 i]) (fun _ _ => [.bool true]) ?_ ?_ 0 () (Nat.zero_le _) trivial
         · rintro i5 _ M5 hi5 _ hM5
           have hnx := hM5 () trivial
           obtain ⟨z1, z2⟩ := hff hs[i5] (List.getElem_mem hi5)
           have hgt5 := get_F hi5
           have hck5 := chk_F hi5
           generalize hs[i5] = h at *
           have a1 := mmerge_run x (by omega) fs (fun h hh => (y2 h hh).1) y1 h z1 k
           have a2 := rMerge_run hsc x (by omega) x2 fs y2 y1 h z1 z2 k
           generalize mgA x fs h k = A at *
           generalize mgE x fs h k = B at *
           simp (disch := omega) only [ir0p2, ir0p1, stepQ, stepL, eq_self, aBin, reduceIte, Int.reduceEq, Int.reduceLT, Int.reduceLE, Int.reduceGT, Int.reduceGE, bvQ, wu, shl_norm, shr_norm, and1_norm, hi5, hck5, hgt5, a1, a2, ibne, wr, natS, hnx]
         · rintro _ M5 _
           simp (disch := omega) only [ir0p2, stepQ, stepL, eq_self, aBin, reduceIte, Int.reduceEq, Int.reduceLT, Int.reduceLE, Int.reduceGT, Int.reduceGE, Nat.lt_irrefl, wr, natS, hnext]
     · rintro q L3 hq
       have hnext := hL2 q hq
       simp (disch := omega) only [ir0p5, stepQ, stepL, eq_self, aBin, reduceIte, Int.reduceEq, Int.reduceLT, Int.reduceLE, Int.reduceGT, Int.reduceGE, Nat.lt_irrefl, wr, natS, hnext]
   · rintro q L2 hq
     have hnext := hL1 q hq
     simp (disch := omega) only [ir0p6, stepQ, stepL, eq_self, aBin, reduceIte, Int.reduceEq, Int.reduceLT, Int.reduceLE, Int.reduceGT, Int.reduceGE, Nat.lt_irrefl, wr, natS, hnext]
 · rintro q L1 hq
   simp (disch := omega) only [ir0p7, stepQ, stepL, eq_self, aBin, reduceIte, Int.reduceEq, Int.reduceLT, Int.reduceLE, Int.reduceGT, Int.reduceGE, Nat.lt_irrefl, aw]
theorem score_ok : ScoreOK := fun v kind hd h8 => run_ext rfl (by rw [show ext30 = scoreE from rfl]; exact scoreE_run v kind hd h8)
end Go.Proofs.YtejddbdoioppgaaGreatDoor
