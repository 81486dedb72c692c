/- Plain programs of the functions of the program and lemmas about what they compute. -/
import Derived.Test.YtefkehflmlikmaaDoorWd
import Derived.Test.YtefkehflmlikmaaDoorOd
import Derived.Test.YtefkehflmlikmaaDoorAm6
import Derived.Test.YtefkehflmlikmaaDoorTz
set_option linter.unusedSimpArgs false
set_option linter.unusedVariables false
set_option linter.unusedSectionVars false
namespace Go.Proofs.YtefkehflmlikmaaDoor
open Go Am
set_option maxRecDepth 100000
set_option linter.unusedSimpArgs false
set_option linter.unusedVariables false
def fpq : F := F.mk 7 [] [F.mk 3 [112] [], F.mk 3 [113] []]
def tpq : F := F.mk 6 [] [F.mk 4 [] [F.mk 3 [112] []], F.mk 3 [113] []]
def vpq : List (List UInt8) := [[112], [113]]
theorem formatW_run (f : F) (hs : f.size < 1000000000) (hd : f.depth < 1000) : run tb 35 (rowF f) = some [.str (formatS f), .int .i64 (formatE f)] := by
 refine run_ext (E := fmtE) rfl ?_
 unfold fmtE
 rw [show rowF f = f.enc from (F.enc_eq f).symm, F.decN_enc f _ hd]
 simp only [show f.size < 4611686018427387904 by omega, if_true]
theorem awake03_run : run tb 18 [] = some [.bool true] := by
 have h1 : run tb 32 [.str [112, 32, 45, 62, 32, 113]] = some [.int .i64 7, .str [], .sl (F.encs fpq.args), .int .i64 0, .int .i64 0] := exN_run (m := 1000) 1000 _ _ _ (by kernel_rfl)
 have hv : vocOk vpq = true := rfl
 have h2 := modelsW_run vpq fpq (by decide) (by decide)
 obtain ⟨m1, m2⟩ := models_good (voc := vpq) (f := fpq) hv rfl (by decide) (by decide) (by decide)
 have m3 : modN vpq fpq (2 ^ vpq.length) = 13#64 := by decide +kernel
 rw [m1, m2, m3] at h2
 have h3 := theoryW_run vpq (by decide) 13#64
 have t1 : thyE vpq 13#64 = (tpq, 0) := by
  unfold thyE
  rw [if_pos hv, show thy vpq 13#64 = tpq by rfl]
 rw [t1] at h3
 have h4 := formatW_run tpq (by decide) (by decide)
 rw [show formatS tpq = [126, 112, 32, 124, 32, 113] by rfl, show formatE tpq = 0 by rfl] at h4
 have h5 : run tb 16 [strsD vpq, bvD 8#64, .str [113]] = some [bvD 10#64] := exN_run (m := 1000) 1000 _ _ _ (by kernel_rfl)
 have h6 := all_run vpq (by decide)
 rw [show allS vpq = 15#64 by decide +kernel] at h6
 have h7 : run tb 14 [bvD 13#64] = some [.int .i64 3] := exN_run (m := 1000) 1000 _ _ _ (by kernel_rfl)
 have l13 : D.int .u64 13 = bvD 13#64 := rfl
 have l8 : D.int .u64 8 = bvD 8#64 := rfl
 have l10 : D.int .u64 10 = bvD 10#64 := rfl
 have l15 : D.int .u64 15 = bvD 15#64 := rfl
 have mk : PO.eval (.mk 1 2) [.str [112], .str [113]] = some [strsD vpq] := rfl
 have sb : ∀ a : List UInt8, PO.eval (.bin .eql false) [.str a, .str a] = some [.bool true] := fun a => by simp [PO.eval, aBin, one1]
 simp only [rowF, show fpq.op = 7 from rfl, show fpq.name = [] from rfl, show tpq.op = 6 from rfl, show tpq.name = [] from rfl] at h2 h3 h4
 refine run_ir (x := ir18) rfl ?_
 generalize F.encs fpq.args = A at *
 generalize F.encs tpq.args = B at *
 simp (disch := omega) only [ir18, stepQ, stepL, eq_self, aBin, reduceIte, Int.reduceEq, Int.reduceLT, Int.reduceLE, Int.reduceGT, Int.reduceGE, bvQ, wu, shl_norm, shr_norm, and1_norm, l13, l8, l10, l15, mk, h1, h2, h3, h4, h5, h6, h7, sb, callQ_tvi, callQ_tv, List.cons_append, List.nil_append]
theorem size_run (x : BitVec 64) : run tb 14 [bvD x] = some [.int .i64 (ones x 64)] := by
 refine run_ir (x := ir14) rfl ?_
 have h := ones_run x
 simp (disch := omega) only [ir14, stepQ, stepL, eq_self, aBin, reduceIte, Int.reduceEq, Int.reduceLT, Int.reduceLE, Int.reduceGT, Int.reduceGE, h]
theorem forget_run (voc : List (List UInt8)) (X : BitVec 64) (s : List UInt8) (hl : voc.length < 1000000000) : run tb 16 [strsD voc, bvD X, .str s] = some [bvD (forgetS voc X (idxOf s 0 voc))] := by
 refine run_ir (x := ir16) rfl ?_
 have h1 := all_run voc hl
 have h2 := index_run voc s (by omega)
 unfold forgetS
 unfold allS at h1
 cases hv : vocOk voc with
 | false =>
  rw [hv] at h1
  simp only [Bool.false_eq_true, if_false] at h1
  rw [if_pos rfl]
  by_cases hi : idxOf s 0 voc < 0
  · simp (disch := omega) only [ir16, ir16p0, stepQ, stepL, eq_self, aBin, reduceIte, Int.reduceEq, Int.reduceLT, Int.reduceLE, Int.reduceGT, Int.reduceGE, bvQ, wu, shl_norm, shr_norm, and1_norm, h1, h2, hi, BitVec.and_zero]
  · simp (disch := omega) only [ir16, ir16p0, stepQ, stepL, eq_self, aBin, reduceIte, Int.reduceEq, Int.reduceLT, Int.reduceLE, Int.reduceGT, Int.reduceGE, bvQ, wu, shl_norm, shr_norm, and1_norm, h1, h2, hi, BitVec.and_zero]
 | true =>
  have h6 := vocOk_len hv
  rw [hv, if_pos rfl] at h1
  rw [if_neg (by simp)]
  by_cases hi : idxOf s 0 voc < 0
  · rw [if_pos hi]
    simp (disch := omega) only [ir16, ir16p0, stepQ, stepL, eq_self, aBin, reduceIte, Int.reduceEq, Int.reduceLT, Int.reduceLE, Int.reduceGT, Int.reduceGE, bvQ, wu, shl_norm, shr_norm, and1_norm, h1, h2, hi]
  · rw [if_neg hi]
    have hm : s ∈ voc := by
     have := idxOf_ge s voc 0
     rw [decide_eq_true (by omega)] at this
     simpa using this.symm
    obtain ⟨i, hlt, _, hx⟩ := idxOf_at (k := 0) hm
    rw [Nat.zero_add] at hx
    rw [hx] at h2 ⊢
    have hi' : ¬ (i : Int) < 0 := by omega
    have htr := true_run i (by omega)
    have hfo := forget_eq h6 hlt X
    rw [Int.toNat_natCast]
    by_cases hz : X &&& alW voc.length = 0#64
    · rw [hz, BitVec.zero_and, BitVec.zero_and, BitVec.zero_ushiftRight, BitVec.zero_shiftLeft, BitVec.or_zero, BitVec.or_zero] at hfo
      rw [← hfo]
      simp (disch := omega) only [ir16, ir16p0, stepQ, stepL, eq_self, aBin, reduceIte, Int.reduceEq, Int.reduceLT, Int.reduceLE, Int.reduceGT, Int.reduceGE, bvQ, wu, shl_norm, shr_norm, and1_norm, h1, h2, hi', hz]
    · have s1 : ∀ Y : BitVec 64, Y <<< (1#64 <<< i).toNat = Y <<< 2 ^ i := fun Y => by
       rw [BitVec.toNat_shiftLeft, Nat.shiftLeft_eq]
       have : 2 ^ i < 2 ^ 64 := Nat.pow_lt_pow_right (by omega) (by omega)
       rw [show (1#64 : BitVec 64).toNat = 1 from rfl, Nat.one_mul, Nat.mod_eq_of_lt this]
      have s2 : ∀ Y : BitVec 64, Y >>> (1#64 <<< i).toNat = Y >>> 2 ^ i := fun Y => by
       rw [BitVec.toNat_shiftLeft, Nat.shiftLeft_eq]
       have : 2 ^ i < 2 ^ 64 := Nat.pow_lt_pow_right (by omega) (by omega)
       rw [show (1#64 : BitVec 64).toNat = 1 from rfl, Nat.one_mul, Nat.mod_eq_of_lt this]
      rw [← hfo]
      simp (disch := omega) only [ir16, ir16p0, stepQ, stepL, eq_self, aBin, reduceIte, Int.reduceEq, Int.reduceLT, Int.reduceLE, Int.reduceGT, Int.reduceGE, bvQ, wu, shl_norm, shr_norm, and1_norm, h1, h2, hi', hz, htr, s1, s2]
def lsD (vs : List (List (List UInt8))) : D := .sl (vs.map fun v => [strsD v])
theorem get_LS {vs : List (List (List UInt8))} {i : Nat} (h : i < vs.length) : PO.eval (.get 0 1) [lsD vs, .int .i64 i] = some [strsD vs[i]] := by simp [PO.eval, lsD, h]
theorem chk_LS {vs : List (List (List UInt8))} {i : Nat} (h : i < vs.length) : PO.eval .chk [lsD vs, .int .i64 i] = some [] := ev_chk (by omega) (by simp; omega)
theorem len_LS (vs : List (List (List UInt8))) : PO.eval .lenL [lsD vs] = some [.int .i64 vs.length] := by simp [lsD, ev_lenL]
def Short (v : List (List UInt8)) : Prop := v.length ≤ 26 ∧ ∀ s ∈ v, s.length ≤ 60
theorem vocN_sh {n : Nat} (h : n ≤ 26) : Short (vocN n) := ⟨by rw [vocN_len]; exact h, fun s hs => by rw [vocN_short s hs]; omega⟩
theorem short03_run (v : List (List UInt8)) (hv : v.length ≤ 9223372036854775807) : run tb 1 [strsD v] = some [.bool (v.all (fun s => decide (s.length ≤ 60)) && decide (v.length ≤ 12))] := by
 refine run_ir (x := ir1) rfl ?_
 simp (disch := omega) only [ir1, stepQ, stepL, eq_self, aBin, reduceIte, Int.reduceEq, Int.reduceLT, Int.reduceLE, Int.reduceGT, Int.reduceGE, len_S]
 show _ = some [D.bool ((v.drop 0).all (fun s => decide (s.length ≤ 60)) && decide (v.length ≤ 12))]
 refine loop_k (σ := Unit) v.length (fun _ _ => True) (fun i _ => [.int .i64 i]) (fun i _ => [.bool ((v.drop i).all (fun s => decide (s.length ≤ 60)) && decide (v.length ≤ 12))]) ?_ ?_ 0 () (Nat.zero_le _) trivial
 · rintro i _ M hi _ hM
   have hnext := hM () trivial
   rw [drop_s hi, List.all_cons]
   by_cases h : v[i].length ≤ 60
   · have hg : ¬ (v[i].length : Int) > 60 := by omega
     rw [decide_eq_true h, Bool.true_and]
     simp (disch := omega) only [ir1p0, stepQ, stepL, eq_self, aBin, reduceIte, Int.reduceEq, Int.reduceLT, Int.reduceLE, Int.reduceGT, Int.reduceGE, hi, row_S, hg, wr, natS, hnext]
   · have hg : (v[i].length : Int) > 60 := by omega
     rw [decide_eq_false h, Bool.false_and, Bool.false_and]
     simp (disch := omega) only [ir1p0, stepQ, stepL, eq_self, aBin, reduceIte, Int.reduceEq, Int.reduceLT, Int.reduceLE, Int.reduceGT, Int.reduceGE, hi, row_S, hg]
 · rintro _ M _
   rw [drop_e, List.all_nil, Bool.true_and]
   by_cases h : v.length ≤ 12
   · simp (disch := omega) only [ir1p0, stepQ, stepL, eq_self, aBin, reduceIte, Int.reduceEq, Int.reduceLT, Int.reduceLE, Int.reduceGT, Int.reduceGE, Nat.lt_irrefl, len_S, show ((v.length : Int) ≤ 12) = True by simp; omega, h, decide_true]
   · simp (disch := omega) only [ir1p0, stepQ, stepL, eq_self, aBin, reduceIte, Int.reduceEq, Int.reduceLT, Int.reduceLE, Int.reduceGT, Int.reduceGE, Nat.lt_irrefl, len_S, show ((v.length : Int) ≤ 12) = False by simp; omega, h, decide_false]
theorem set_Str {l : List (List UInt8)} {i : Nat} (h : i < l.length) (s : List UInt8) : PO.eval (.set 0 1) [strsD l, .int .i64 i, .str s] = some [strsD (l.set i s)] := by
 have h1 : (l.map strR)[i]? = some (strR l[i]) := by simp [h]
 simp [PO.eval, strsD, h, setD, strR, List.map_set]
theorem chk_Str {l : List (List UInt8)} {i : Nat} (h : i < l.length) : PO.eval .chk [strsD l, .int .i64 i] = some [] := ev_chk (by omega) (by simp; omega)
theorem odd_run (l : List Int) (p : Nat) (hl : l.length ≤ 2000) (hp : p ≤ l.length) : ∃ (v : List (List UInt8)) (b : Nat), Short v ∧ b ≤ l.length ∧ run tb 5 [numsD l, .int .i64 p] = some [strsD v, numsD l, .int .i64 b] := by
 obtain ⟨r, q, r0, r1, hq, hr⟩ := n_run 9 l p hl hp (by omega) (by omega)
 obtain ⟨n, rfl⟩ := Int.eq_ofNat_of_zero_le r0
 have hvo := voc_run n (by omega)
 by_cases h0 : 0 < n
 · obtain ⟨k, q1, k0, k1, hq1, hk⟩ := n_run (n : Int) l q hl hq (by omega) (by omega)
   obtain ⟨k, rfl⟩ := Int.eq_ofNat_of_zero_le k0
   obtain ⟨ts, hts⟩ : ∃ ts : List (List UInt8), ts = [[97], [], [65], [122, 122], [98]] := ⟨_, rfl⟩
   have hmk : PO.eval (.mk 1 5) [.str [97], .str [], .str [65], .str [122, 122], .str [98]] = some [strsD ts] := by subst hts; rfl
   obtain ⟨s, q2, hs, hq2, hsr⟩ := text_run ts (by subst hts; decide) (by subst hts; decide) l hl q1 hq1
   have hs2 : s.length ≤ 60 := by
    subst hts
    simp only [List.mem_cons, List.not_mem_nil, or_false] at hs
    rcases hs with rfl | rfl | rfl | rfl | rfl <;> decide
   clear hts
   have hk2 : k < (vocN n).length := by rw [vocN_len]; omega
   have hst := set_Str hk2 s
   have hck := chk_Str hk2
   refine ⟨(vocN n).set k s, q2, ⟨by rw [List.length_set, vocN_len]; omega, fun x hx => ?_⟩, hq2, run_ir (x := ir5) rfl ?_⟩
   · rcases List.mem_or_eq_of_mem_set hx with h | rfl
     · rw [vocN_short x h]; omega
     · exact hs2
   · have hgt : (n : Int) > 0 := by omega
     have hle : PO.eval .lenL [strsD (vocN n)] = some [.int .i64 n] := by rw [len_S, vocN_len]
     simp (disch := omega) only [ir5, ir5p0, stepQ, stepL, eq_self, aBin, reduceIte, Int.reduceEq, Int.reduceLT, Int.reduceLE, Int.reduceGT, Int.reduceGE, hr, hvo, callQ_S, hle, hgt, hk, hmk, hsr, hck, hst]
 · obtain rfl : n = 0 := by omega
   refine ⟨vocN 0, q, vocN_sh (by omega), hq, run_ir (x := ir5) rfl ?_⟩
   have hle : PO.eval .lenL [strsD (vocN 0)] = some [.int .i64 0] := rfl
   have hr : run tb 3 [.int .i64 9, numsD l, .int .i64 p] = some [.int .i64 0, numsD l, .int .i64 q] := hr
   have hvo : run tb 4 [.int .i64 0] = some [strsD (vocN 0)] := hvo
   simp (disch := omega) only [ir5, ir5p0, stepQ, stepL, eq_self, aBin, reduceIte, Int.reduceEq, Int.reduceLT, Int.reduceLE, Int.reduceGT, Int.reduceGE, hr, hvo, callQ_S, hle]
end Go.Proofs.YtefkehflmlikmaaDoor

namespace Go.Proofs.YtefkehflmlikmaaDoor
open Go Am
set_option maxRecDepth 100000
set_option linter.unusedSimpArgs false
set_option linter.unusedVariables false
theorem tzX_run (x : BitVec 64) : run tb 26 [bvD x] = some [.int .i64 (low x)] := run_ext rfl (tzE_run x)
theorem app_N1 {l : List Int} {a : Int} (h : l.length + 1 ≤ 1000000) : PO.eval (.app 1 8) [numsD l, .sl [[.int .i64 a]]] = some [numsD (l ++ [a])] := by
 unfold numsD
 rw [ev_app (by simp; omega) (by simp; omega) (by simp [numR])]
 simp [numR]
def natL (l : List Nat) : List Int := l.map fun (n : Nat) => (n : Int)
theorem worlds_run (voc : List (List UInt8)) (X : BitVec 64) (hl : voc.length < 1000000000) : run tb 11 [strsD voc, bvD X] = some [numsD (natL (worldsTo (X &&& allS voc) 64))] := by
 refine run_ir (x := ir11) rfl ?_
 have h1 := all_run voc hl
 simp (disch := omega) only [ir11, stepQ, stepL, eq_self, aBin, reduceIte, Int.reduceEq, Int.reduceLT, Int.reduceLE, Int.reduceGT, Int.reduceGE, bvQ, wu, shl_norm, shr_norm, and1_norm, h1]
 generalize X &&& allS voc = Y
 have h0 : from_ Y 0 = Y := from_zero Y
 show loopQ _ _ _ _ [bvD Y, numsD (natL (worldsTo Y 0))] = _
 rw [← h0]
 conv => rhs; rw [h0]
 conv => lhs; rw [show worldsTo (from_ Y 0) 0 = worldsTo Y 0 from rfl]
 refine loop_km (ι := Nat) (fun a => 64 - a) (fun a => a ≤ 64) (fun a => [bvD (from_ Y a), numsD (natL (worldsTo Y a))]) (fun _ => [numsD (natL (worldsTo Y 64))]) ?_ 0 (by omega)
 rintro a L ha hL
 by_cases hz : from_ Y a = 0#64
 · have hd := from_done Y a ha hz
   simp (disch := omega) only [ir11p0, stepQ, stepL, eq_self, aBin, reduceIte, Int.reduceEq, Int.reduceLT, Int.reduceLE, Int.reduceGT, Int.reduceGE, bvQ, wu, shl_norm, shr_norm, and1_norm, hz, hd]
 · obtain ⟨n1, n2, n3, n4⟩ := from_next Y a hz
   have ht := tzX_run (from_ Y a)
   have hnext := hL (low (from_ Y a) + 1) (by show _ ≤ 64; omega) (by show 64 - (low (from_ Y a) + 1) < 64 - a; omega)
   rw [n4] at hnext
   have hlen : (natL (worldsTo Y a)).length + 1 ≤ 1000000 := by
    have := worldsTo_len Y a
    simp only [natL, List.length_map]; omega
   have happ := app_N1 (a := (low (from_ Y a) : Int)) hlen
   have hnl : natL (worldsTo Y a ++ [low (from_ Y a)]) = natL (worldsTo Y a) ++ [(low (from_ Y a) : Int)] := by simp [natL]
   rw [hnl] at hnext
   simp (disch := omega) only [ir11p0, stepQ, stepL, eq_self, aBin, reduceIte, Int.reduceEq, Int.reduceLT, Int.reduceLE, Int.reduceGT, Int.reduceGE, bvQ, wu, shl_norm, shr_norm, and1_norm, hz, ht, happ, n3, hnext]
end Go.Proofs.YtefkehflmlikmaaDoor

namespace Go.Proofs.YtefkehflmlikmaaDoor
open Go Am
set_option maxRecDepth 100000
set_option linter.unusedSimpArgs false
set_option linter.unusedVariables false
def worldsS (voc : List (List UInt8)) (X : BitVec 64) : List Nat := if vocOk voc = true then worldsTo X (2 ^ voc.length) else []
theorem worldsS_eq (voc : List (List UInt8)) (X : BitVec 64) : worldsTo (X &&& allS voc) 64 = worldsS voc X := by
 unfold worldsS allS
 cases hv : vocOk voc with
 | true =>
  rw [if_pos rfl, if_pos rfl]
  exact worlds_all (vocOk_len hv) X
 | false =>
  rw [if_neg (by simp), if_neg (by simp), BitVec.and_zero]
  exact worlds_none
theorem worldsR_run (voc : List (List UInt8)) (X : BitVec 64) (hl : voc.length < 1000000000) (hs : ∀ s ∈ voc, s.length < 9223372036854775808) : run tb 12 [strsD voc, bvD X] = some [numsD (natL (worldsS voc X))] := by
 refine run_ir (x := ir12) rfl ?_
 have h1 := valid3_run voc hl hs
 unfold worldsS
 cases hv : vocOk voc with
 | false =>
  rw [hv] at h1
  simp (disch := omega) only [ir12, stepQ, stepL, eq_self, aBin, reduceIte, Int.reduceEq, Int.reduceLT, Int.reduceLE, Int.reduceGT, Int.reduceGE, h1]
  rfl
 | true =>
  rw [hv] at h1
  have h6 := pow6 (vocOk_len hv)
  have hc := count_run voc (by have := vocOk_len hv; omega)
  simp (disch := omega) only [ir12, stepQ, stepL, eq_self, aBin, reduceIte, Int.reduceEq, Int.reduceLT, Int.reduceLE, Int.reduceGT, Int.reduceGE, h1]
  generalize 2 ^ voc.length = n at *
  show loopQ _ _ _ _ [.int .i64 ((0 : Nat) : Int), numsD (natL (worldsTo X 0))] = _
  refine loop_k (σ := Unit) n (fun _ _ => True) (fun i _ => [.int .i64 i, numsD (natL (worldsTo X i))]) (fun _ _ => [numsD (natL (worldsTo X n))]) ?_ ?_ 0 () (Nat.zero_le _) trivial
  · rintro i _ L hi _ hL
    have hnext := hL () trivial
    rw [worldsTo_succ] at hnext
    have hh := has3_run X i (by omega)
    cases hb : X.getLsbD i with
    | false =>
     rw [hb] at hh hnext
     simp only [Bool.false_eq_true, if_false, List.append_nil] at hnext
     simp (disch := omega) only [ir12p1, ir12p0, stepQ, stepL, eq_self, aBin, reduceIte, Int.reduceEq, Int.reduceLT, Int.reduceLE, Int.reduceGT, Int.reduceGE, hc, hi, hh, wr, natS, hnext]
    | true =>
     rw [hb] at hh hnext
     have hlen : (natL (worldsTo X i)).length + 1 ≤ 1000000 := by
      have := worldsTo_len X i
      simp only [natL, List.length_map]; omega
     have happ := app_N1 (a := (i : Int)) hlen
     have hnl : natL (worldsTo X i ++ [i]) = natL (worldsTo X i) ++ [(i : Int)] := by simp [natL]
     simp only [if_true] at hnext
     rw [hnl] at hnext
     simp (disch := omega) only [ir12p1, ir12p0, stepQ, stepL, eq_self, aBin, reduceIte, Int.reduceEq, Int.reduceLT, Int.reduceLE, Int.reduceGT, Int.reduceGE, hc, hi, hh, happ, wr, natS, hnext]
  · rintro _ L _
    simp (disch := omega) only [ir12p1, stepQ, stepL, eq_self, aBin, reduceIte, Int.reduceEq, Int.reduceLT, Int.reduceLE, Int.reduceGT, Int.reduceGE, hc, Nat.lt_irrefl]
theorem sizeR_run (X : BitVec 64) : run tb 15 [bvD X] = some [.int .i64 (ones X 64)] := by
 refine run_ir (x := ir15) rfl ?_
 simp (disch := omega) only [ir15, stepQ, stepL, eq_self, aBin, reduceIte, Int.reduceEq, Int.reduceLT, Int.reduceLE, Int.reduceGT, Int.reduceGE]
 refine loop_k (σ := Unit) 64 (fun _ _ => True) (fun i _ => [.int .i64 (ones X i), .int .i64 i]) (fun _ _ => [.int .i64 (ones X 64)]) ?_ ?_ 0 () (Nat.zero_le _) trivial
 · rintro i _ L hi _ hL
   have hnext := hL () trivial
   have hh := has3_run X i (by omega)
   have hi' : (i : Int) < 64 := by omega
   have hle : ones X i ≤ 1000 := by
    have : ∀ k, ones X k ≤ k := fun k => by
     induction k with
     | zero => exact Nat.le_refl _
     | succ k ih => have : (X.getLsbD k).toNat ≤ 1 := by cases X.getLsbD k <;> simp
                    simp only [ones]; omega
    have := this i; omega
   rw [show ones X (i + 1) = ones X i + (X.getLsbD i).toNat from rfl] at hnext
   cases hb : X.getLsbD i with
   | false =>
    rw [hb] at hh hnext
    simp only [Bool.toNat_false, Nat.add_zero] at hnext
    simp (disch := omega) only [ir15p1, ir15p0, stepQ, stepL, eq_self, aBin, reduceIte, Int.reduceEq, Int.reduceLT, Int.reduceLE, Int.reduceGT, Int.reduceGE, hi', hh, wr, natS, hnext]
   | true =>
    rw [hb] at hh hnext
    simp only [Bool.toNat_true] at hnext
    simp (disch := omega) only [ir15p1, ir15p0, stepQ, stepL, eq_self, aBin, reduceIte, Int.reduceEq, Int.reduceLT, Int.reduceLE, Int.reduceGT, Int.reduceGE, hi', hh, wr, natS, hnext]
 · rintro _ L _
   simp (disch := omega) only [ir15p1, stepQ, stepL, eq_self, aBin, reduceIte, Int.reduceEq, Int.reduceLT, Int.reduceLE, Int.reduceGT, Int.reduceGE]
theorem xor_norm {a b : Nat} (ha : a < 9223372036854775808) (hb : b < 9223372036854775808) : IntKind.i64.wrap ((BitVec.ofInt IntKind.i64.bits (a : Int) ^^^ BitVec.ofInt IntKind.i64.bits (b : Int)).toNat : Int) = ((a ^^^ b : Nat) : Int) := by
 have := int_xor (tb := false) ha hb
 have h2 : PO.eval (.bin .xor false) [.int .i64 (a : Int), .int .i64 (b : Int)] = one1 (some (.int .i64 (IntKind.i64.wrap ((BitVec.ofInt IntKind.i64.bits (a : Int) ^^^ BitVec.ofInt IntKind.i64.bits (b : Int)).toNat : Int)))) := rfl
 rw [h2] at this
 simp only [one1, Option.map_some, Option.some.injEq, List.cons.injEq, D.int.injEq, and_true, true_and] at this
 exact this
theorem forgetR_run (voc : List (List UInt8)) (X : BitVec 64) (s : List UInt8) (hl : voc.length < 1000000000) (hs : ∀ s ∈ voc, s.length < 9223372036854775808) : run tb 17 [strsD voc, bvD X, .str s] = some [bvD (forgetS voc X (idxOf s 0 voc))] := by
 refine run_ir (x := ir17) rfl ?_
 have h1 := valid3_run voc hl hs
 unfold forgetS
 cases hv : vocOk voc with
 | false =>
  rw [hv] at h1
  simp (disch := omega) only [ir17, stepQ, stepL, eq_self, aBin, reduceIte, Int.reduceEq, Int.reduceLT, Int.reduceLE, Int.reduceGT, Int.reduceGE, bvQ, wu, shl_norm, shr_norm, and1_norm, h1, if_true]
 | true =>
  rw [hv] at h1
  have hn6 := vocOk_len hv
  have h6 := pow6 hn6
  have hc := count_run voc (by omega)
  have hx := index3_run voc s hl
  rw [if_neg (by simp)]
  by_cases hi : idxOf s 0 voc < 0
  · rw [if_pos hi, mask_bits hn6]
    have hi' : ¬ idxOf s 0 voc ≥ 0 := by omega
    generalize idxOf s 0 voc = ix at *
    simp (disch := omega) only [ir17, stepQ, stepL, eq_self, aBin, reduceIte, Int.reduceEq, Int.reduceLT, Int.reduceLE, Int.reduceGT, Int.reduceGE, bvQ, wu, shl_norm, shr_norm, and1_norm, h1, hx]
    generalize 2 ^ voc.length = n at *
    rw [show (0#64 : BitVec 64) = bitsTo X.getLsbD 0 from rfl]
    refine loop_k (σ := Unit) n (fun _ _ => True) (fun w _ => [bvD (bitsTo X.getLsbD w), .int .i64 w]) (fun _ _ => [bvD (bitsTo X.getLsbD n)]) ?_ ?_ 0 () (Nat.zero_le _) trivial
    · rintro w _ L hw _ hL
      have hnext := hL () trivial
      rw [bitsTo] at hnext
      have hh := has3_run X w (by omega)
      cases hb : X.getLsbD w with
      | false =>
       rw [hb] at hh hnext
       simp only [Bool.false_eq_true, if_false] at hnext
       simp (disch := omega) only [ir17p2, ir17p1, ir17p0, stepQ, stepL, eq_self, aBin, reduceIte, Int.reduceEq, Int.reduceLT, Int.reduceLE, Int.reduceGT, Int.reduceGE, hc, hw, hh, hi', wr, natS, hnext]
      | true =>
       rw [hb] at hh hnext
       simp only [if_true] at hnext
       simp (disch := omega) only [ir17p2, ir17p1, ir17p0, stepQ, stepL, eq_self, aBin, reduceIte, Int.reduceEq, Int.reduceLT, Int.reduceLE, Int.reduceGT, Int.reduceGE, bvQ, wu, shl_norm, shr_norm, and1_norm, bv_convN, hc, hw, hh, hi', wr, natS, hnext]
    · rintro _ L _
      simp (disch := omega) only [ir17p2, stepQ, stepL, eq_self, aBin, reduceIte, Int.reduceEq, Int.reduceLT, Int.reduceLE, Int.reduceGT, Int.reduceGE, hc, Nat.lt_irrefl]
  · rw [if_neg hi]
    have hm : s ∈ voc := by
     have := idxOf_ge s voc 0
     rw [decide_eq_true (by omega)] at this
     simpa using this.symm
    obtain ⟨i, hlt, _, hxx⟩ := idxOf_at (k := 0) hm
    rw [Nat.zero_add] at hxx
    rw [hxx] at hx ⊢
    have hi' : (i : Int) ≥ 0 := by omega
    have hwu : IntKind.u64.wrap (i : Int) = (i : Int) := wrapU (by omega) (by omega)
    rw [Int.toNat_natCast]
    have hp : 2 ^ i < 2 ^ 6 := Nat.pow_lt_pow_right (by omega) (by omega)
    obtain ⟨q, hq⟩ : ∃ q : Nat → Bool, q = fun w => X.getLsbD w || X.getLsbD (w ^^^ 2 ^ i) := ⟨_, rfl⟩
    have hF : ∀ n, forgS X i n = bitsTo q n := fun n => by rw [hq]; rfl
    rw [hF]
    simp (disch := omega) only [ir17, stepQ, stepL, eq_self, aBin, reduceIte, Int.reduceEq, Int.reduceLT, Int.reduceLE, Int.reduceGT, Int.reduceGE, bvQ, wu, shl_norm, shr_norm, and1_norm, h1, hx]
    generalize 2 ^ voc.length = n at *
    rw [show (0#64 : BitVec 64) = bitsTo q 0 from rfl]
    refine loop_k (σ := Unit) n (fun _ _ => True) (fun w _ => [bvD (bitsTo q w), .int .i64 w]) (fun _ _ => [bvD (bitsTo q n)]) ?_ ?_ 0 () (Nat.zero_le _) trivial
    · rintro w _ L hw _ hL
      have hnext := hL () trivial
      rw [bitsTo] at hnext
      have hh := has3_run X w (by omega)
      have hx64 : w ^^^ 2 ^ i < 2 ^ 6 := Nat.xor_lt_two_pow (by omega) hp
      have hh2 := has3_run X (w ^^^ 2 ^ i) (by omega)
      have hww : IntKind.u64.wrap (w : Int) = (w : Int) := wrapU (by omega) (by omega)
      have hqw : q w = (X.getLsbD w || X.getLsbD (w ^^^ 2 ^ i)) := by rw [hq]
      cases hb : X.getLsbD w with
      | true =>
       rw [hb] at hh
       rw [hqw, hb, Bool.true_or] at hnext
       simp only [if_true] at hnext
       simp (disch := omega) only [ir17p2, ir17p1, ir17p0, stepQ, stepL, eq_self, aBin, reduceIte, Int.reduceEq, Int.reduceLT, Int.reduceLE, Int.reduceGT, Int.reduceGE, bvQ, wu, shl_norm, shr_norm, and1_norm, bv_convN, hc, hw, hh, wr, natS, hnext]
      | false =>
       rw [hb] at hh
       rw [hqw, hb, Bool.false_or] at hnext
       cases hb2 : X.getLsbD (w ^^^ 2 ^ i) with
       | true =>
        rw [hb2] at hh2 hnext
        simp only [if_true] at hnext
        simp (disch := omega) only [ir17p2, ir17p1, ir17p0, stepQ, stepL, eq_self, aBin, reduceIte, Int.reduceEq, Int.reduceLT, Int.reduceLE, Int.reduceGT, Int.reduceGE, bvQ, shl_norm, xor_norm, bv_convN, hwu, hww, hc, hw, hh, hi', hh2, wr, natS, hnext]
       | false =>
        rw [hb2] at hh2 hnext
        simp only [Bool.false_eq_true, if_false] at hnext
        simp (disch := omega) only [ir17p2, ir17p1, ir17p0, stepQ, stepL, eq_self, aBin, reduceIte, Int.reduceEq, Int.reduceLT, Int.reduceLE, Int.reduceGT, Int.reduceGE, shl_norm, xor_norm, nat_nn, hwu, hww, hc, hw, hh, hi', hh2, wr, natS, hnext]
    · rintro _ L _
      simp (disch := omega) only [ir17p2, stepQ, stepL, eq_self, aBin, reduceIte, Int.reduceEq, Int.reduceLT, Int.reduceLE, Int.reduceGT, Int.reduceGE, hc, Nat.lt_irrefl]
theorem sets03_run (raw : List (List UInt8)) (S0 : BitVec 64) (name : List UInt8) (l0 : List Int) (hr0 : raw.length ≤ 9223372036854775807) : run tb 0 [strsD raw, bvD S0, .str name, numsD l0] = some [.bool true] := by
 have sm := short03_run raw hr0
 have aw := awake03_run
 refine run_ir (x := ir0) rfl ?_
 cases c1 : (raw.all (fun s => decide (s.length ≤ 60)) && decide (raw.length ≤ 12)) with
 | false =>
  rw [c1] at sm
  simp (disch := omega) only [ir0, ir0p5, stepQ, stepL, eq_self, aBin, reduceIte, Int.reduceEq, Int.reduceLT, Int.reduceLE, Int.reduceGT, Int.reduceGE, sm]
 | true =>
 rw [c1] at sm
 simp only [Bool.and_eq_true, decide_eq_true_eq, List.all_eq_true] at c1
 by_cases c2 : (name.length : Int) > 60
 · simp (disch := omega) only [ir0, ir0p5, stepQ, stepL, eq_self, aBin, reduceIte, Int.reduceEq, Int.reduceLT, Int.reduceLE, Int.reduceGT, Int.reduceGE, sm, c2]
 obtain ⟨l, hl, hn⟩ := new_run l0
 obtain ⟨r, p, r0, r1, hp, hr⟩ := n_run 7 l 0 hl (by omega) (by omega) (by omega)
 obtain ⟨n, rfl⟩ := Int.eq_ofNat_of_zero_le r0
 have hr : run tb 3 [.int .i64 7, numsD l, .int .i64 0] = some [.int .i64 n, numsD l, .int .i64 p] := hr
 have hvn := voc_run n (by omega)
 obtain ⟨o, q, ho, hq, hod⟩ := odd_run l p hl hp
 obtain ⟨vs, hvs⟩ : ∃ vs : List (List (List UInt8)), vs = [raw, vocN n, o] := ⟨_, rfl⟩
 have hmk : PO.eval (.mk 1 3) [strsD raw, strsD (vocN n), strsD o] = some [lsD vs] := by subst hvs; rfl
 have hsh : ∀ v ∈ vs, Short v := by
  subst hvs
  intro v hv
  simp only [List.mem_cons, List.not_mem_nil, or_false] at hv
  rcases hv with rfl | rfl | rfl
  · exact ⟨by omega, fun s hs => by have := c1.1 s hs; omega⟩
  · exact vocN_sh (by omega)
  · exact ho
 have lvs : vs.length = 3 := by subst hvs; rfl
 clear hvs
 have nbb : ∀ b : Bool, PO.eval (.bin .neq true) [.bool b, .bool b] = some [.bool false] := fun b => by cases b <;> rfl
 simp (disch := omega) only [ir0, ir0p5, stepQ, stepL, eq_self, aBin, reduceIte, Int.reduceEq, Int.reduceLT, Int.reduceLE, Int.reduceGT, Int.reduceGE, sm, c2, hn, hr, hvn, callQ_S, hod, hmk, len_LS]
 refine loop_k (σ := Nat) vs.length (fun _ q => q ≤ l.length) (fun i q => [.int .i64 i, numsD l, .int .i64 q]) (fun _ _ => [.bool true]) ?_ ?_ 0 q (Nat.zero_le _) hq
 · rintro i q L hi hq hL
   obtain ⟨S, q', hq', hS⟩ := set_run l q hl hq
   have hnext := hL q' hq'
   obtain ⟨k1, k2⟩ := hsh vs[i] (List.getElem_mem hi)
   have hg := get_LS hi
   have hc := chk_LS hi
   generalize vs[i] = v at *
   have k3 : ∀ s ∈ v, s.length < 9223372036854775808 := fun s hs => by have := k2 s hs; omega
   obtain ⟨xs, hxs⟩ : ∃ xs : List (BitVec 64), xs = [S0, S, 0#64, BitVec.allOnes 64] := ⟨_, rfl⟩
   have hmk2 : PO.eval (.mk 1 4) [bvD S0, bvD S, bvD 0#64, bvD (BitVec.allOnes 64)] = some [bvsD xs] := by subst hxs; rfl
   have lxs : xs.length = 4 := by subst hxs; rfl
   clear hxs
   have v1 := valid_run v (by omega)
   have v2 := valid3_run v (by omega) k3
   have a1 := all_run v (by omega)
   have a2 := all3_run v (by omega) k3
   simp (disch := omega) only [ir0p4, ir0p3, stepQ, stepL, eq_self, aBin, reduceIte, Int.reduceEq, Int.reduceLT, Int.reduceLE, Int.reduceGT, Int.reduceGE, bvQ, wu, shl_norm, shr_norm, and1_norm, hi, hc, hg, v1, v2, nbb, a1, a2, hS, hmk2, len_V]
   refine loop_k (σ := Unit) xs.length (fun _ _ => True) (fun j _ => [.int .i64 j]) (fun _ _ => [.bool true]) ?_ ?_ 0 () (Nat.zero_le _) trivial
   · rintro j _ M hj _ hM
     have hnx := hM () trivial
     have gv := get_V hj
     have cv := chk_V hj
     generalize xs[j] = x at *
     have w1 := worlds_run v x (by omega)
     rw [worldsS_eq] at w1
     have w2 := worldsR_run v x (by omega) k3
     have w3 := ints_run (natL (worldsS v x)) (natL (worldsS v x)) (by
      unfold worldsS natL
      split
      · have := worldsTo_len x (2 ^ v.length)
        rename_i hv
        have := pow6 (vocOk_len hv)
        simp only [List.length_map]; omega
      · simp)
     rw [decide_eq_true rfl] at w3
     have s1 := size_run x
     have s2 := sizeR_run x
     have f1 := forget_run v x name (by omega)
     have f2 := forgetR_run v x name (by omega) k3
     generalize natL (worldsS v x) = Ws at *
     simp (disch := omega) only [ir0p2, ir0p1, stepQ, stepL, eq_self, aBin, reduceIte, Int.reduceEq, Int.reduceLT, Int.reduceLE, Int.reduceGT, Int.reduceGE, bvQ, wu, shl_norm, shr_norm, and1_norm, hj, cv, gv, w1, w2, w3, callQ_N, s1, s2, f1, f2, ibne, len_S]
     refine loop_k (σ := Unit) v.length (fun _ _ => True) (fun k _ => [.int .i64 k]) (fun _ _ => [.bool true]) ?_ ?_ 0 () (Nat.zero_le _) trivial
     · rintro k _ M2 hk _ hM2
       have hnx2 := hM2 () trivial
       have g1 := forget_run v x v[k] (by omega)
       have g2 := forgetR_run v x v[k] (by omega) k3
       simp (disch := omega) only [ir0p0, stepQ, stepL, eq_self, aBin, reduceIte, Int.reduceEq, Int.reduceLT, Int.reduceLE, Int.reduceGT, Int.reduceGE, bvQ, wu, shl_norm, shr_norm, and1_norm, hk, row_S, g1, g2, wr, natS, hnx2]
     · rintro _ M2 _
       simp (disch := omega) only [ir0p0, stepQ, stepL, eq_self, aBin, reduceIte, Int.reduceEq, Int.reduceLT, Int.reduceLE, Int.reduceGT, Int.reduceGE, Nat.lt_irrefl, wr, natS, hnx]
   · rintro _ M _
     simp (disch := omega) only [ir0p2, stepQ, stepL, eq_self, aBin, reduceIte, Int.reduceEq, Int.reduceLT, Int.reduceLE, Int.reduceGT, Int.reduceGE, Nat.lt_irrefl, wr, natS, hnext]
 · rintro q L _
   simp (disch := omega) only [ir0p4, stepQ, stepL, eq_self, aBin, reduceIte, Int.reduceEq, Int.reduceLT, Int.reduceLE, Int.reduceGT, Int.reduceGE, Nat.lt_irrefl, aw]
end Go.Proofs.YtefkehflmlikmaaDoor
