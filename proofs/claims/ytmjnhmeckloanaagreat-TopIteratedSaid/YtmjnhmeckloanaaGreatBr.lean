/- What functions of the program compute: lemmas. -/
import Derived.Test.YtmjnhmeckloanaaGreatIt0
import Derived.Test.YtmjnhmeckloanaaGreatIt
import Derived.Test.YtmjnhmeckloanaaGreatOd
import Derived.Test.YtmjnhmeckloanaaGreatAm6
set_option linter.unusedSimpArgs false
set_option linter.unusedVariables false
set_option linter.unusedSectionVars false
namespace Go.Proofs.YtmjnhmeckloanaaGreat
open Go Am
set_option maxRecDepth 100000
set_option maxHeartbeats 4000000
theorem nan_run (x : Int) : run tb 65 [.int .i64 x] = some [.bool false] := by
 refine run_ir (x := ir65) rfl ?_
 simp (disch := omega) only [ir65, stepQ, stepL, eq_self, aBin, reduceIte, Int.reduceEq, Int.reduceLT, Int.reduceLE, Int.reduceGT, Int.reduceGE, bne_self_eq_false]
theorem compare_run (a b : Int) : run tb 31 [.int .i64 a, .int .i64 b] = some [.int .i64 (sgn a b)] := by
 refine run_ir (x := ir31) rfl ?_
 have h1 := nan_run a
 have h2 := nan_run b
 unfold sgn
 by_cases c : a < b
 · rw [if_pos c]; simp (disch := omega) only [ir31, stepQ, stepL, eq_self, aBin, reduceIte, Int.reduceEq, Int.reduceLT, Int.reduceLE, Int.reduceGT, Int.reduceGE, h1, h2, c]
 · rw [if_neg c]
   by_cases d : a > b
   · rw [if_pos d]; simp (disch := omega) only [ir31, stepQ, stepL, eq_self, aBin, reduceIte, Int.reduceEq, Int.reduceLT, Int.reduceLE, Int.reduceGT, Int.reduceGE, h1, h2, c, d]
   · rw [if_neg d]; simp (disch := omega) only [ir31, stepQ, stepL, eq_self, aBin, reduceIte, Int.reduceEq, Int.reduceLT, Int.reduceLE, Int.reduceGT, Int.reduceGE, h1, h2, c, d]
theorem cd1_run (a b : Int) (x y p : Bool) : run tb 33 [.int .i64 a, .int .i64 b, .bool x, .bool y, .bool p] = some [.bool (!flB 0 a b x y p)] := by
 refine run_ir (x := ir33) rfl ?_
 unfold flB
 cases x <;> cases y <;> by_cases h : a = b <;> simp (disch := omega) only [ir33, stepQ, stepL, eq_self, aBin, reduceIte, Int.reduceEq, Int.reduceLT, Int.reduceLE, Int.reduceGT, Int.reduceGE, ibeq, h]
theorem cd2_run (a b : Int) (x y p : Bool) : run tb 34 [.int .i64 a, .int .i64 b, .bool x, .bool y, .bool p] = some [.bool (!flB 1 a b x y p)] := by
 refine run_ir (x := ir34) rfl ?_
 unfold flB
 cases x <;> cases y <;> by_cases h : a = b <;> simp (disch := omega) only [ir34, stepQ, stepL, eq_self, aBin, reduceIte, Int.reduceEq, Int.reduceLT, Int.reduceLE, Int.reduceGT, Int.reduceGE, ibeq, h]
theorem cd3_run (a b : Int) (x y p : Bool) : run tb 35 [.int .i64 a, .int .i64 b, .bool x, .bool y, .bool p] = some [.bool (!flB 2 a b x y p)] := by
 refine run_ir (x := ir35) rfl ?_
 unfold flB
 cases x <;> cases y <;> by_cases h : a < 0 <;> by_cases g : b < 0 <;> simp (disch := omega) only [ir35, stepQ, stepL, eq_self, aBin, reduceIte, Int.reduceEq, Int.reduceLT, Int.reduceLE, Int.reduceGT, Int.reduceGE, h, g, show (a ≥ 0) = ¬ a < 0 from propext (by omega), not_true_eq_false, not_false_eq_true]
theorem cd4_run (a b : Int) (x y p : Bool) : run tb 36 [.int .i64 a, .int .i64 b, .bool x, .bool y, .bool p] = some [.bool (!flB 3 a b x y p)] := by
 refine run_ir (x := ir36) rfl ?_
 unfold flB
 cases x <;> cases y <;> by_cases h : a > 0 <;> by_cases g : b ≤ 0 <;> simp (disch := omega) only [ir36, stepQ, stepL, eq_self, aBin, reduceIte, Int.reduceEq, Int.reduceLT, Int.reduceLE, Int.reduceGT, Int.reduceGE, h, g]
theorem cd5_run (a b : Int) (x y p : Bool) : run tb 37 [.int .i64 a, .int .i64 b, .bool x, .bool y, .bool p] = some [.bool (!flB 4 a b x y p)] := by
 refine run_ir (x := ir37) rfl ?_
 unfold flB
 cases x <;> cases y <;> by_cases h : a > 0 <;> by_cases g : b < 0 <;> simp (disch := omega) only [ir37, stepQ, stepL, eq_self, aBin, reduceIte, Int.reduceEq, Int.reduceLT, Int.reduceLE, Int.reduceGT, Int.reduceGE, h, g]
theorem cd6_run (a b : Int) (x y p : Bool) : run tb 38 [.int .i64 a, .int .i64 b, .bool x, .bool y, .bool p] = some [.bool (!flB 5 a b x y p)] := by
 refine run_ir (x := ir38) rfl ?_
 unfold flB
 cases x <;> cases y <;> by_cases g : b < 0 <;> simp (disch := omega) only [ir38, stepQ, stepL, eq_self, aBin, reduceIte, Int.reduceEq, Int.reduceLT, Int.reduceLE, Int.reduceGT, Int.reduceGE, g]
theorem cd7_run (a b : Int) (x y p : Bool) : run tb 39 [.int .i64 a, .int .i64 b, .bool x, .bool y, .bool p] = some [.bool (!flB 6 a b x y p)] := by
 refine run_ir (x := ir39) rfl ?_
 unfold flB
 cases p <;> by_cases h : a = b <;> simp (disch := omega) only [ir39, stepQ, stepL, eq_self, aBin, reduceIte, Int.reduceEq, Int.reduceLT, Int.reduceLE, Int.reduceGT, Int.reduceGE, ibeq, h]
theorem conds_run : run tb 30 [] = some [.sl [[fnD 106], [fnD 107], [fnD 108], [fnD 109], [fnD 110], [fnD 111], [fnD 112]]] := by
 refine run_ir (x := ir30) rfl ?_
 have hmk : PO.eval (.mk 1 7) [fnD 106, fnD 107, fnD 108, fnD 109, fnD 110, fnD 111, fnD 112] = some [.sl [[fnD 106], [fnD 107], [fnD 108], [fnD 109], [fnD 110], [fnD 111], [fnD 112]]] := rfl
 simp (disch := omega) only [ir30, stepQ, stepL, eq_self, aBin, reduceIte, Int.reduceEq, Int.reduceLT, Int.reduceLE, Int.reduceGT, Int.reduceGE, hmk]
end Go.Proofs.YtmjnhmeckloanaaGreat

namespace Go.Proofs.YtmjnhmeckloanaaGreat
open Go Am
set_option maxRecDepth 100000
set_option maxHeartbeats 2000000
def breD (n1 : List (List UInt8)) (A : List Int) (n2 : List (List UInt8)) (B : List Int) (f : F) : List D :=
 if brE n1 A n2 B f = 0 then [numsD (brS n1 A B (modelsS n1 f)), .int .i64 0] else [.sl [], .int .i64 (brE n1 A n2 B f)]
theorem get_B {l : List Bool} {i : Nat} (h : i < l.length) : PO.eval (.get 0 1) [boolsD l, .int .i64 i] = some [.bool l[i]] := by
 simp [PO.eval, boolsD, h]
def cdsD : D := .sl [[fnD 106], [fnD 107], [fnD 108], [fnD 109], [fnD 110], [fnD 111], [fnD 112]]
theorem len_cds : PO.eval .lenL [cdsD] = some [.int .i64 7] := rfl
theorem row_cds0 : PO.eval (.row 1) [cdsD, .int .i64 0] = some [fnD 106] := rfl
theorem row_cds1 : PO.eval (.row 1) [cdsD, .int .i64 1] = some [fnD 107] := rfl
theorem row_cds2 : PO.eval (.row 1) [cdsD, .int .i64 2] = some [fnD 108] := rfl
theorem row_cds3 : PO.eval (.row 1) [cdsD, .int .i64 3] = some [fnD 109] := rfl
theorem row_cds4 : PO.eval (.row 1) [cdsD, .int .i64 4] = some [fnD 110] := rfl
theorem row_cds5 : PO.eval (.row 1) [cdsD, .int .i64 5] = some [fnD 111] := rfl
theorem row_cds6 : PO.eval (.row 1) [cdsD, .int .i64 6] = some [fnD 112] := rfl
theorem breachesP_run (n1 n2 : List (List UInt8)) (A B : List Int) (f : F) (h1 : n1.length < 1000000000) (h2 : A.length < 1000000000) (h3 : n2.length < 1000000000) (h4 : B.length < 1000000000) (hf : f.size < 1000000000) :
 run tb 9 [strsD n1, numsD A, strsD n2, numsD B, .int .i64 f.op, .str f.name, .sl (F.encs f.args)] = some (breD n1 A n2 B f) := by
 have v1 := validateO_run n1 A h1 h2
 have v2 := validateO_run n2 B h3 h4
 have heq := equalS_run n1 n2 h1
 have hmd := modelsW_run n1 f h1 hf
 simp only [rowF] at hmd
 have hls := leastO_run n1 A h1 h2 (modelsS n1 f)
 have hbl := beliefsO_run n2 B h3 h4
 have hcd := conds_run
 rw [show D.sl [[fnD 106], [fnD 107], [fnD 108], [fnD 109], [fnD 110], [fnD 111], [fnD 112]] = cdsD from rfl] at hcd
 refine run_ir (x := ir9) rfl ?_
 have hmk : PO.eval (.mk 2 2) [strsD n1, numsD A, strsD n2, numsD B] = some [.sl [[strsD n1, numsD A], [strsD n2, numsD B]]] := rfl
 have hl2 : PO.eval .lenL [.sl [[strsD n1, numsD A], [strsD n2, numsD B]]] = some [.int .i64 2] := rfl
 simp (disch := omega) only [ir9, stepQ, stepL, eq_self, aBin, reduceIte, Int.reduceEq, Int.reduceLT, Int.reduceLE, Int.reduceGT, Int.reduceGE, hmk, hl2]
 refine loop_k (σ := Unit) 2 (fun i _ => (1 ≤ i → orderE n1 A = 0) ∧ (2 ≤ i → orderE n2 B = 0)) (fun i _ => [.int .i64 i]) (fun _ _ => breD n1 A n2 B f) ?_ ?_ 0 () (Nat.zero_le _) ⟨fun h => absurd h (by decide), fun h => absurd h (by decide)⟩
 · rintro i _ L hi ⟨p1, p2⟩ hL
   obtain rfl | rfl : i = 0 ∨ i = 1 := by omega
   · have c0 : PO.eval .chk [.sl [[strsD n1, numsD A], [strsD n2, numsD B]], .int .i64 0] = some [] := rfl
     have g0 : PO.eval (.get 0 2) [.sl [[strsD n1, numsD A], [strsD n2, numsD B]], .int .i64 0] = some [strsD n1, numsD A] := rfl
     have t0 : decide ((0 : Int) < 2) = true := rfl
     have w0 : IntKind.i64.wrap (0 + 1) = 1 := rfl
     show den (run tb) ir9p7 ([strsD n1, numsD A, strsD n2, numsD B, .int .i64 f.op, .str f.name, .sl (F.encs f.args), .sl [[strsD n1, numsD A], [strsD n2, numsD B]], .int .i64 2] ++ [.int .i64 0]) [L] = _
     by_cases e1 : orderE n1 A = 0
     · have hn1 : L [.int .i64 1] = some (breD n1 A n2 B f) := hL () ⟨fun _ => e1, fun h => absurd h (by decide)⟩
       rw [e1] at v1
       simp (disch := omega) only [ir9p7, stepQ, stepL, eq_self, aBin, reduceIte, Int.reduceEq, Int.reduceLT, Int.reduceLE, Int.reduceGT, Int.reduceGE, t0, c0, g0, v1, ibne, w0, hn1]
     · have hb : brE n1 A n2 B f = orderE n1 A := by unfold brE; rw [if_pos e1]
       simp (disch := omega) only [ir9p7, stepQ, stepL, eq_self, aBin, reduceIte, Int.reduceEq, Int.reduceLT, Int.reduceLE, Int.reduceGT, Int.reduceGE, t0, c0, g0, v1, ibne, e1, breD, hb, if_false]
   · have c0 : PO.eval .chk [.sl [[strsD n1, numsD A], [strsD n2, numsD B]], .int .i64 1] = some [] := rfl
     have g0 : PO.eval (.get 0 2) [.sl [[strsD n1, numsD A], [strsD n2, numsD B]], .int .i64 1] = some [strsD n2, numsD B] := rfl
     have t0 : decide ((1 : Int) < 2) = true := rfl
     have w0 : IntKind.i64.wrap (1 + 1) = 2 := rfl
     have e1 := p1 (Nat.le_refl _)
     show den (run tb) ir9p7 ([strsD n1, numsD A, strsD n2, numsD B, .int .i64 f.op, .str f.name, .sl (F.encs f.args), .sl [[strsD n1, numsD A], [strsD n2, numsD B]], .int .i64 2] ++ [.int .i64 1]) [L] = _
     by_cases e2 : orderE n2 B = 0
     · have hn1 : L [.int .i64 2] = some (breD n1 A n2 B f) := hL () ⟨fun _ => e1, fun _ => e2⟩
       rw [e2] at v2
       simp (disch := omega) only [ir9p7, stepQ, stepL, eq_self, aBin, reduceIte, Int.reduceEq, Int.reduceLT, Int.reduceLE, Int.reduceGT, Int.reduceGE, t0, c0, g0, v2, ibne, w0, hn1]
     · have hb : brE n1 A n2 B f = orderE n2 B := by unfold brE; rw [if_neg (by simp [e1]), if_pos e2]
       simp (disch := omega) only [ir9p7, stepQ, stepL, eq_self, aBin, reduceIte, Int.reduceEq, Int.reduceLT, Int.reduceLE, Int.reduceGT, Int.reduceGE, t0, c0, g0, v2, ibne, e2, breD, hb, if_false]
 · rintro _ L ⟨p1, p2⟩
   have e1 := p1 (by decide)
   have e2 := p2 (by decide)
   have t0 : decide ((2 : Int) < 2) = false := rfl
   show den (run tb) ir9p7 ([strsD n1, numsD A, strsD n2, numsD B, .int .i64 f.op, .str f.name, .sl (F.encs f.args), .sl [[strsD n1, numsD A], [strsD n2, numsD B]], .int .i64 2] ++ [.int .i64 2]) [L] = _
   by_cases c1 : n1 = n2
   · rw [decide_eq_true c1] at heq
     subst c1
     by_cases c2 : modelsE n1 f = 0
     · rw [c2] at hmd
       by_cases c3 : modelsS n1 f = 0#64
       · have hb : brE n1 A n1 B f = 9 := by unfold brE; simp [e1, e2, c2, c3]
         rw [c3] at hmd
         simp (disch := omega) only [ir9p7, stepQ, stepL, eq_self, aBin, reduceIte, Int.reduceEq, Int.reduceLT, Int.reduceLE, Int.reduceGT, Int.reduceGE, bvQ, wu, shl_norm, shr_norm, and1_norm, t0, heq, hmd, ibne, breD, hb]
       · have hb : brE n1 A n1 B f = 0 := by unfold brE; simp [e1, e2, c2, c3]
         obtain ⟨_, la, ra⟩ := orderE_zero e1
         obtain ⟨_, lb, rb⟩ := orderE_zero e2
         have h64 := orderE_len e1
         have hAB : B.length = A.length := by rw [la, lb]
         have hR : breD n1 A n1 B f = [numsD (brS n1 A B (modelsS n1 f)), .int .i64 0] := by unfold breD; rw [if_pos hb]
         rw [hR]
         unfold brS
         have hlA : PO.eval .lenL [numsD A] = some [.int .i64 A.length] := len_N A
         generalize modelsS n1 f = m at *
         generalize leastS n1 A m = l at *
         generalize hz : (!decide (beliefsS n1 B = l)) = z
         generalize hF : flW A B m l = G
         have hmkB := mkB (n := 8) (by omega)
         rw [← brL_00 G A.length] at hmkB
         have hmkB : PO.eval (.mkL 1 [.bool false]) [.int .i64 8] = some [boolsD (brL G A.length 0 0 0)] := hmkB
         have w7 : IntKind.i64.wrap (7 + 1) = 8 := rfl
         simp (disch := omega) only [ir9p7, stepQ, stepL, eq_self, aBin, reduceIte, Int.reduceEq, Int.reduceLT, Int.reduceLE, Int.reduceGT, Int.reduceGE, bvQ, wu, shl_norm, shr_norm, and1_norm, t0, heq, hmd, ibne, c3, hls, hcd, len_cds, w7, hmkB, hlA, callQ_tv]
         refine loop_k (σ := Unit) A.length (fun _ _ => True) (fun i _ => [.int .i64 i, boolsD (brL G A.length i 0 0)]) (fun _ _ => [numsD (brO (brF G A.length z) 8), .int .i64 0]) ?_ ?_ 0 () (Nat.zero_le _) trivial
         · rintro i _ M hi _ hM
           have hM := hM () trivial
           simp (disch := omega) only [ir9p6, stepQ, stepL, eq_self, aBin, reduceIte, Int.reduceEq, Int.reduceLT, Int.reduceLE, Int.reduceGT, Int.reduceGE, hi, hlA]
           refine loop_k (σ := Unit) A.length (fun _ _ => True) (fun j _ => [.int .i64 j, boolsD (brL G A.length i j 0)]) (fun _ _ => [numsD (brO (brF G A.length z) 8), .int .i64 0]) ?_ ?_ 0 () (Nat.zero_le _) trivial
           · rintro j _ N hj _ hN
             have hN := hN () trivial
             have k1 := hasI_run m i (by omega)
             have k2 := hasI_run m j (by omega)
             have k3 := hasI_run l i (by omega)
             have k4 := hasI_run l j (by omega)
             have q1 := compare_run A[i] A[j]
             have q2 := compare_run B[i] B[j]
             have hiB : i < B.length := by omega
             have hjB : j < B.length := by omega
             have hG : ∀ c, G i j c = flB c (sgn A[i] A[j]) (sgn B[i] B[j]) (m.getLsbD i) (m.getLsbD j) (!l.getLsbD i && !l.getLsbD j) := fun c => by rw [← hF]; unfold flW; rw [gd hi, gd hj, gd hiB, gd hjB]
             have d1 := cd1_run (sgn A[i] A[j]) (sgn B[i] B[j]) (m.getLsbD i) (m.getLsbD j) (!l.getLsbD i && !l.getLsbD j)
             have d2 := cd2_run (sgn A[i] A[j]) (sgn B[i] B[j]) (m.getLsbD i) (m.getLsbD j) (!l.getLsbD i && !l.getLsbD j)
             have d3 := cd3_run (sgn A[i] A[j]) (sgn B[i] B[j]) (m.getLsbD i) (m.getLsbD j) (!l.getLsbD i && !l.getLsbD j)
             have d4 := cd4_run (sgn A[i] A[j]) (sgn B[i] B[j]) (m.getLsbD i) (m.getLsbD j) (!l.getLsbD i && !l.getLsbD j)
             have d5 := cd5_run (sgn A[i] A[j]) (sgn B[i] B[j]) (m.getLsbD i) (m.getLsbD j) (!l.getLsbD i && !l.getLsbD j)
             have d6 := cd6_run (sgn A[i] A[j]) (sgn B[i] B[j]) (m.getLsbD i) (m.getLsbD j) (!l.getLsbD i && !l.getLsbD j)
             have d7 := cd7_run (sgn A[i] A[j]) (sgn B[i] B[j]) (m.getLsbD i) (m.getLsbD j) (!l.getLsbD i && !l.getLsbD j)
             rw [← hG] at d1 d2 d3 d4 d5 d6 d7
             generalize hpp : (!l.getLsbD i && !l.getLsbD j) = pp at d1 d2 d3 d4 d5 d6 d7
             generalize sgn A[i] A[j] = a at *
             generalize sgn B[i] B[j] = b at *
             generalize m.getLsbD i = x at *
             generalize m.getLsbD j = y at *
             cases hx3 : l.getLsbD i <;> rw [hx3] at k3 hpp <;> simp only [Bool.not_true, Bool.not_false, Bool.true_and, Bool.false_and] at hpp <;> subst hpp <;>
              simp (disch := omega) only [ir9p3, ir9p2, stepQ, stepL, eq_self, aBin, reduceIte, Int.reduceEq, Int.reduceLT, Int.reduceLE, Int.reduceGT, Int.reduceGE, hj, hi, hiB, hjB, row_N, q1, q2, k1, k2, k3, k4, len_cds]
             all_goals
              refine loop_k (σ := Unit) 7 (fun _ _ => True) (fun c _ => [.int .i64 c, boolsD (brL G A.length i j c)]) (fun _ _ => [numsD (brO (brF G A.length z) 8), .int .i64 0]) ?_ ?_ 0 () (Nat.zero_le _) trivial
              · rintro c _ O hc _ hO
                have hO := hO () trivial
                have hck := chk_B (l := brL G A.length i j c) (i := c) (by rw [brL_len]; omega)
                have hgt := get_B (l := brL G A.length i j c) (i := c) (by rw [brL_len]; omega)
                rw [brL_get _ _ _ _ _ hc] at hgt
                have hst := set_B (l := brL G A.length i j c) (i := c) (by rw [brL_len]; omega) (brK G A.length i j (c + 1) c)
                rw [brL_set _ _ _ _ hc _ rfl, ← brK_c] at hst
                generalize brL G A.length i j (c + 1) = L1 at *
                generalize brL G A.length i j c = L0 at *
                cases hbk : brK G A.length i j c c <;> rw [hbk] at hgt hst <;> simp only [Bool.true_or, Bool.false_or] at hst <;>
                 (obtain rfl | rfl | rfl | rfl | rfl | rfl | rfl : c = 0 ∨ c = 1 ∨ c = 2 ∨ c = 3 ∨ c = 4 ∨ c = 5 ∨ c = 6 := by omega) <;>
                 simp only [Int.cast_ofNat_Int, nat0, Nat.reduceAdd] at hck hgt hst hO <;>
                 simp (disch := omega) only [ir9p1, ir9p0, stepQ, stepL, eq_self, aBin, reduceIte, Int.reduceEq, Int.reduceLT, Int.reduceLE, Int.reduceGT, Int.reduceGE, k_isf, fnD, isFn, Nat.reduceBEq, hck, hgt, hst, hO, d1, d2, d3, d4, d5, d6, d7, row_cds0, row_cds1, row_cds2, row_cds3, row_cds4, row_cds5, row_cds6, wr, Int.reduceAdd, Bool.not_not]
              · rintro _ O _
                rw [brL_7]
                simp (disch := omega) only [ir9p1, stepQ, stepL, eq_self, aBin, reduceIte, Int.reduceEq, Int.reduceLT, Int.reduceLE, Int.reduceGT, Int.reduceGE, Int.cast_ofNat_Int, wr, natS, hN]
           · rintro _ N _
             rw [brL_n]
             simp (disch := omega) only [ir9p3, stepQ, stepL, eq_self, aBin, reduceIte, Int.reduceEq, Int.reduceLT, Int.reduceLE, Int.reduceGT, Int.reduceGE, Nat.lt_irrefl, wr, natS, hM]
         · rintro _ M _
           have hck := chk_B (l := brL G A.length A.length 0 0) (i := 7) (by rw [brL_len]; omega)
           have hst := set_B (l := brL G A.length A.length 0 0) (i := 7) (by rw [brL_len]; omega) z
           rw [brL_fin] at hst
           simp only [Int.cast_ofNat_Int] at hck hst
           have hlF : PO.eval .lenL [boolsD ((List.range 8).map (brF G A.length z))] = some [.int .i64 8] := by rw [len_B]; simp
           have nil0 : D.sl [] = numsD (brO (brF G A.length z) 0) := rfl
           simp (disch := omega) only [ir9p6, stepQ, stepL, eq_self, aBin, reduceIte, Int.reduceEq, Int.reduceLT, Int.reduceLE, Int.reduceGT, Int.reduceGE, bvQ, wu, shl_norm, shr_norm, and1_norm, Nat.lt_irrefl, len_cds, hbl, hz, hck, hst, hlF, nil0]
           generalize brF G A.length z = g
           refine loop_k (σ := Unit) 8 (fun _ _ => True) (fun k _ => [.int .i64 k, numsD (brO g k)]) (fun _ _ => [numsD (brO g 8), .int .i64 0]) ?_ ?_ 0 () (Nat.zero_le _) trivial
           · rintro k _ O hk _ hO
             have hO := hO () trivial
             have hk8 : k < ((List.range 8).map g).length := by simpa using hk
             have hck := chk_B hk8
             have hgt := get_B hk8
             have hol := brO_len g k
             rw [show ((List.range 8).map g)[k] = g k by simp] at hgt
             have hap : PO.eval (.app 1 8) [numsD (brO g k), .sl [[.int .i64 ((k : Int) + 1)]]] = some [numsD (brO g k ++ [(k : Int) + 1])] := app_N (by omega)
             have hlt : (k : Int) < 8 := by omega
             rw [brO_succ] at hO
             cases hg : g k <;> rw [hg] at hgt hO <;> simp only [Bool.false_eq_true, if_true, if_false] at hO
             · simp (disch := omega) only [ir9p5, ir9p4, stepQ, stepL, eq_self, aBin, reduceIte, Int.reduceEq, Int.reduceLT, Int.reduceLE, Int.reduceGT, Int.reduceGE, hlt, hck, hgt, wr, natS, hO]
             · simp (disch := omega) only [ir9p5, ir9p4, stepQ, stepL, eq_self, aBin, reduceIte, Int.reduceEq, Int.reduceLT, Int.reduceLE, Int.reduceGT, Int.reduceGE, hlt, hck, hgt, wr, hap]
               simp (disch := omega) only [natS, hO, jumpQ_s, contQ_a]
           · rintro _ O _
             have hlt : ¬ ((8 : Nat) : Int) < 8 := by omega
             simp (disch := omega) only [ir9p5, stepQ, stepL, eq_self, aBin, reduceIte, Int.reduceEq, Int.reduceLT, Int.reduceLE, Int.reduceGT, Int.reduceGE, hlt]
     · have hb : brE n1 A n1 B f = modelsE n1 f := by unfold brE; simp [e1, e2, c2]
       simp (disch := omega) only [ir9p7, stepQ, stepL, eq_self, aBin, reduceIte, Int.reduceEq, Int.reduceLT, Int.reduceLE, Int.reduceGT, Int.reduceGE, bvQ, wu, shl_norm, shr_norm, and1_norm, t0, heq, hmd, ibne, c2, breD, hb, if_false]
   · rw [decide_eq_false c1] at heq
     have hb : brE n1 A n2 B f = 10 := by unfold brE; simp [e1, e2, c1]
     simp (disch := omega) only [ir9p7, stepQ, stepL, eq_self, aBin, reduceIte, Int.reduceEq, Int.reduceLT, Int.reduceLE, Int.reduceGT, Int.reduceGE, t0, heq, ibne, breD, hb]
end Go.Proofs.YtmjnhmeckloanaaGreat
