/- Plain programs of the functions of the program and lemmas about what they compute. -/
import Derived.Test.YtefkehflmlikmaaDoorWd
import Derived.Test.YtefkehflmlikmaaDoorAm5
import Derived.Test.YtefkehflmlikmaaDoorAm6
import Derived.Test.YtefkehflmlikmaaDoorLb1
set_option linter.unusedSimpArgs false
set_option linter.unusedVariables false
set_option linter.unusedSectionVars false
namespace Go.Proofs.YtefkehflmlikmaaDoor
open Go Am
set_option maxRecDepth 100000
set_option linter.unusedSimpArgs false
set_option linter.unusedVariables false
end Go.Proofs.YtefkehflmlikmaaDoor

namespace Go.Proofs.YtefkehflmlikmaaDoor
open Go Am
set_option maxRecDepth 100000
set_option linter.unusedSimpArgs false
set_option linter.unusedVariables false
theorem voc_run (n : Nat) (hn : n ≤ 26) : run tb 4 [.int .i64 n] = some [strsD (vocN n)] := by
 refine run_ir (x := ir4) rfl ?_
 simp (disch := omega) only [ir4, stepQ, stepL, eq_self, aBin, reduceIte, Int.reduceEq, Int.reduceLT, Int.reduceLE, Int.reduceGT, Int.reduceGE, strs_nil]
 refine loop_k (σ := Unit) n (fun _ _ => True) (fun i _ => [.int .i64 i, strsD (vocN i)]) (fun _ _ => [strsD (vocN n)]) ?_ ?_ 0 () (Nat.zero_le _) trivial
 · rintro i _ L hi _ hL
   have hnext := hL () trivial
   rw [vocN_succ] at hnext
   have hlen := vocN_len i
   simp (disch := omega) only [ir4p0, stepQ, stepL, eq_self, aBin, reduceIte, Int.reduceEq, Int.reduceLT, Int.reduceLE, Int.reduceGT, Int.reduceGE, hi, wr, w8, ev_toS1, app_S, natS, hnext]
 · rintro _ L _
   simp (disch := omega) only [ir4p0, stepQ, stepL, eq_self, aBin, reduceIte, Int.reduceEq, Int.reduceLT, Int.reduceLE, Int.reduceGT, Int.reduceGE, Nat.lt_irrefl]
theorem set_run (l : List Int) (p : Nat) (hl : l.length ≤ 2000) (hp : p ≤ l.length) : ∃ (S : BitVec 64) (b : Nat), b ≤ l.length ∧ run tb 10 [numsD l, .int .i64 p] = some [bvD S, numsD l, .int .i64 b] := by
 obtain ⟨k, b, k0, k1, hb, hk⟩ := n_run 4 l p hl hp (by omega) (by omega)
 obtain ⟨x1, b1, hb1, hr1⟩ := raw_run l b hl hb
 obtain ⟨x2, b2, hb2, hr2⟩ := raw_run l b1 hl hb1
 obtain ⟨y1, c1, y10, y11, hc1, hs1⟩ := n_run 64 l b hl hb (by omega) (by omega)
 obtain ⟨y2, c2, y20, y21, hc2, hs2⟩ := n_run 64 l c1 hl hc1 (by omega) (by omega)
 by_cases k0' : k = 0
 · refine ⟨BitVec.ofInt 64 x1, b1, hb1, run_ir (x := ir10) rfl ?_⟩
   rw [k0'] at hk
   simp only [ir10, stepQ, stepL, eq_self, aBin, reduceIte, Int.reduceEq, Int.reduceLT, Int.reduceLE, Int.reduceGT, Int.reduceGE, bvQ, hk, hr1]
 by_cases k1' : k = 1
 · refine ⟨BitVec.ofInt 64 x1 &&& BitVec.ofInt 64 x2, b2, hb2, run_ir (x := ir10) rfl ?_⟩
   rw [k1'] at hk
   simp only [ir10, stepQ, stepL, eq_self, aBin, reduceIte, Int.reduceEq, Int.reduceLT, Int.reduceLE, Int.reduceGT, Int.reduceGE, bvQ, hk, hr1, hr2]
 by_cases k2' : k = 2
 · refine ⟨1#64 <<< (BitVec.ofInt 64 y1).toNat ||| 1#64 <<< (BitVec.ofInt 64 y2).toNat, c2, hc2, run_ir (x := ir10) rfl ?_⟩
   rw [k2'] at hk
   simp only [ir10, stepQ, stepL, eq_self, aBin, reduceIte, Int.reduceEq, Int.reduceLT, Int.reduceLE, Int.reduceGT, Int.reduceGE, bvQ, hk, hs1, hs2]
 · refine ⟨BitVec.ofInt 64 x1 * 11400714819323198485#64 ^^^ BitVec.ofInt 64 x2, b2, hb2, run_ir (x := ir10) rfl ?_⟩
   simp only [ir10, stepQ, stepL, eq_self, aBin, reduceIte, Int.reduceEq, Int.reduceLT, Int.reduceLE, Int.reduceGT, Int.reduceGE, bvQ, hk, hr1, hr2, k0', k1', k2']
end Go.Proofs.YtefkehflmlikmaaDoor

namespace Go.Proofs.YtefkehflmlikmaaDoor
open Go Am
set_option maxRecDepth 100000
set_option linter.unusedSimpArgs false
set_option linter.unusedVariables false
theorem ones_run (x : BitVec 64) : run tb 28 [bvD x] = some [.int .i64 (ones x 64)] := by
 refine run_ir (x := ir28) rfl ?_
 have hX := x.isLt
 rw [ones_N]
 obtain ⟨p0, p1, p2, p3, p4, p5, p6, p7, b0, b1, b2, b3, b4, b5, b6, b7, hs, hd⟩ := dig_sum x.toNat
 obtain ⟨-, hsw⟩ := sw_dig 8 x.toNat
 rw [show bvD x = D.int .u64 (x.toNat : Int) from rfl]
 generalize x.toNat = X at *
 obtain ⟨z, u, v, hz, hu, hv, hv1, hv2⟩ := fold_dig (dig X 8) p0 p1 p2 p3 p4 p5 p6 p7 b0 b1 b2 b3 b4 b5 b6 b7 hd
 have m0 : mk 256 85 8 = 6148914691236517205 := by decide
 have m1 : mk 256 51 8 = 3689348814741910323 := by decide
 have m2 : mk 256 15 8 = 1085102592571150095 := by decide
 have a1 : X / 2 &&& 6148914691236517205 ≤ 6148914691236517205 := Nat.and_le_right
 have a2 : X &&& 6148914691236517205 ≤ 6148914691236517205 := Nat.and_le_right
 have hA : (X / 2 &&& 6148914691236517205) + (X &&& 6148914691236517205) = s1 X 8 := by unfold s1; rw [m0]
 have e1 : PO.eval (.bin .shr false) [.int .u64 (X : Int), .int .u64 1] = some [.int .u64 ((X / 2 : Nat) : Int)] := u_shr hX 1
 have e2 : PO.eval (.bin .and false) [.int .u64 ((X / 2 : Nat) : Int), .int .u64 6148914691236517205] = some [.int .u64 ((X / 2 &&& 6148914691236517205 : Nat) : Int)] := u_and (b := 6148914691236517205) (by omega) (by decide)
 have e3 : PO.eval (.bin .and false) [.int .u64 (X : Int), .int .u64 6148914691236517205] = some [.int .u64 ((X &&& 6148914691236517205 : Nat) : Int)] := u_and (b := 6148914691236517205) hX (by decide)
 have e4 := u_add (a := X / 2 &&& 6148914691236517205) (b := X &&& 6148914691236517205) (by omega)
 rw [hA] at e4
 have hA1 : s1 X 8 < 18446744073709551616 := by rw [← hA]; omega
 generalize X / 2 &&& 6148914691236517205 = X1 at *
 generalize X &&& 6148914691236517205 = X2 at *
 generalize s1 X 8 = A at *
 have c1 : A / 4 &&& 3689348814741910323 ≤ 3689348814741910323 := Nat.and_le_right
 have c2 : A &&& 3689348814741910323 ≤ 3689348814741910323 := Nat.and_le_right
 have hB : (A / 4 &&& 3689348814741910323) + (A &&& 3689348814741910323) = s2 A 8 := by unfold s2; rw [m1]
 have f1 : PO.eval (.bin .shr false) [.int .u64 (A : Int), .int .u64 2] = some [.int .u64 ((A / 4 : Nat) : Int)] := u_shr hA1 2
 have f2 : PO.eval (.bin .and false) [.int .u64 ((A / 4 : Nat) : Int), .int .u64 3689348814741910323] = some [.int .u64 ((A / 4 &&& 3689348814741910323 : Nat) : Int)] := u_and (b := 3689348814741910323) (by omega) (by decide)
 have f3 : PO.eval (.bin .and false) [.int .u64 (A : Int), .int .u64 3689348814741910323] = some [.int .u64 ((A &&& 3689348814741910323 : Nat) : Int)] := u_and (b := 3689348814741910323) hA1 (by decide)
 have f4 := u_add (a := A / 4 &&& 3689348814741910323) (b := A &&& 3689348814741910323) (by omega)
 rw [hB] at f4
 have hB1 : s2 A 8 ≤ 7378697629483820646 := by rw [← hB]; omega
 generalize A / 4 &&& 3689348814741910323 = A1 at *
 generalize A &&& 3689348814741910323 = A2 at *
 generalize s2 A 8 = B at *
 have g1 : PO.eval (.bin .shr false) [.int .u64 (B : Int), .int .u64 4] = some [.int .u64 ((B / 16 : Nat) : Int)] := u_shr (by omega) 4
 have g2 := u_add (a := B / 16) (b := B) (by omega)
 have g3 : PO.eval (.bin .and false) [.int .u64 ((B / 16 + B : Nat) : Int), .int .u64 1085102592571150095] = some [.int .u64 ((B / 16 + B &&& 1085102592571150095 : Nat) : Int)] := u_and (b := 1085102592571150095) (by omega) (by decide)
 have hy : B / 16 + B &&& 1085102592571150095 = dig X 8 := by rw [← hsw]; unfold s3; rw [m2]
 rw [hy] at g3
 generalize dig X 8 = y at *
 have k1 : PO.eval (.bin .shr false) [.int .u64 (y : Int), .int .u64 8] = some [.int .u64 ((y / 256 : Nat) : Int)] := u_shr (by omega) 8
 have k2 := u_add (a := y) (b := y / 256) (by omega)
 rw [← hz] at k2
 have k3 : PO.eval (.bin .shr false) [.int .u64 (z : Int), .int .u64 16] = some [.int .u64 ((z / 65536 : Nat) : Int)] := u_shr (by omega) 16
 have k4 := u_add (a := z) (b := z / 65536) (by omega)
 rw [← hu] at k4
 have k5 : PO.eval (.bin .shr false) [.int .u64 (u : Int), .int .u64 32] = some [.int .u64 ((u / 4294967296 : Nat) : Int)] := u_shr (by omega) 32
 have k6 := u_add (a := u) (b := u / 4294967296) (by omega)
 rw [← hv] at k6
 have k7 : PO.eval (.conv .i64) [.int .u64 (v : Int)] = some [.int .i64 (v : Int)] := by
  show some [D.int .i64 (IntKind.i64.wrap (v : Int))] = _
  rw [wr (by omega) (by omega)]
 have k8 : PO.eval (.bin .and false) [.int .i64 (v : Int), .int .i64 127] = some [.int .i64 ((v &&& 127 : Nat) : Int)] := int_and (b := 127) hv1 (by decide)
 have h127 : v &&& 127 = v % 128 := Nat.and_two_pow_sub_one_eq_mod v 7
 rw [h127, hv2, ← hs] at k8
 clear hz hu hv hd hy m0 m1 m2
 generalize X / 2 = X0 at *
 generalize A / 4 = A0 at *
 generalize B / 16 + B = B1 at *
 generalize B / 16 = B0 at *
 generalize y / 256 = y1 at *
 generalize z / 65536 = z1 at *
 generalize u / 4294967296 = u1 at *
 simp only [ir28, stepQ, stepL, eq_self, aBin, reduceIte, Int.reduceEq, Int.reduceLT, Int.reduceLE, Int.reduceGT, Int.reduceGE, e1, e2, e3, e4, f1, f2, f3, f4, g1, g2, g3, k1, k2, k3, k4, k5, k6, k7, k8]
end Go.Proofs.YtefkehflmlikmaaDoor

namespace Go.Proofs.YtefkehflmlikmaaDoor
open Go Am
set_option maxRecDepth 100000
set_option linter.unusedSimpArgs false
set_option linter.unusedVariables false
theorem ints_run (a b : List Int) (ha : a.length < 1000000000) : run tb 13 [numsD a, numsD b] = some [.bool (decide (a = b))] := by
 refine run_ir (x := ir13) rfl ?_
 by_cases hl : a.length = b.length
 · simp (disch := omega) only [ir13, stepQ, stepL, eq_self, aBin, reduceIte, Int.reduceEq, Int.reduceLT, Int.reduceLE, Int.reduceGT, Int.reduceGE, len_N, ibne, hl]
   have h0 : decide (a = b) = decide (a.drop 0 = b.drop 0) := by simp
   rw [h0]
   refine loop_k (σ := Unit) b.length (fun _ _ => True) (fun i _ => [.int .i64 i]) (fun i _ => [.bool (decide (a.drop i = b.drop i))]) ?_ ?_ 0 () (Nat.zero_le _) trivial
   · rintro i _ L hi _ hL
     have hnext := hL () trivial
     have hia : i < a.length := by omega
     have e1 : a.drop i = a[i] :: a.drop (i + 1) := List.drop_eq_getElem_cons hia
     have e2 : b.drop i = b[i] :: b.drop (i + 1) := List.drop_eq_getElem_cons hi
     rw [e1, e2]
     by_cases h : a[i] = b[i]
     · have : decide (a[i] :: a.drop (i + 1) = b[i] :: b.drop (i + 1)) = decide (a.drop (i + 1) = b.drop (i + 1)) := by rw [h]; exact decide_eq_decide.2 ⟨fun e => (List.cons.inj e).2, fun e => by rw [e]⟩
       rw [this]
       simp (disch := omega) only [ir13p0, stepQ, stepL, eq_self, aBin, reduceIte, Int.reduceEq, Int.reduceLT, Int.reduceLE, Int.reduceGT, Int.reduceGE, hi, hia, row_N, ibne, h, wr, natS, hnext]
     · have : decide (a[i] :: a.drop (i + 1) = b[i] :: b.drop (i + 1)) = false := decide_eq_false fun e => h (List.cons.inj e).1
       rw [this]
       simp (disch := omega) only [ir13p0, stepQ, stepL, eq_self, aBin, reduceIte, Int.reduceEq, Int.reduceLT, Int.reduceLE, Int.reduceGT, Int.reduceGE, hi, hia, row_N, ibne, h, wr, natS]
   · rintro _ L _
     have : decide (a.drop b.length = b.drop b.length) = true := by simp [← hl]
     rw [this]
     simp (disch := omega) only [ir13p0, stepQ, stepL, eq_self, aBin, reduceIte, Int.reduceEq, Int.reduceLT, Int.reduceLE, Int.reduceGT, Int.reduceGE, Nat.lt_irrefl]
 · have : decide (a = b) = false := by simp; rintro rfl; exact hl rfl
   rw [this]
   simp (disch := omega) only [ir13, stepQ, stepL, eq_self, aBin, reduceIte, Int.reduceEq, Int.reduceLT, Int.reduceLE, Int.reduceGT, Int.reduceGE, len_N, ibne, hl]
end Go.Proofs.YtefkehflmlikmaaDoor
