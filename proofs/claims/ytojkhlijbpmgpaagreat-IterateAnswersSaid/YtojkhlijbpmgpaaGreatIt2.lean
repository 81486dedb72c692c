/- Plain programs of the functions of the program and lemmas about what they compute. -/
import Derived.Test.YtojkhlijbpmgpaaGreatIt1
import Derived.Test.YtojkhlijbpmgpaaGreatOd
set_option linter.unusedSimpArgs false
set_option linter.unusedVariables false
set_option linter.unusedSectionVars false
namespace Go.Proofs.YtojkhlijbpmgpaaGreat
open Go Am
set_option maxRecDepth 100000
set_option linter.unusedSimpArgs false
set_option linter.unusedVariables false
theorem and_all {n : Nat} (hn : n ≤ 6) {X : BitVec 64} (h : ∀ w, has X w → w < 2 ^ n) : X &&& allS (vocN n) = X := by
 have : allS (vocN n) = alW n := by unfold allS; rw [if_pos (vocN_ok hn), vocN_len]
 rw [this]; exact sub_and hn h
theorem thy_small {n : Nat} (hn : n ≤ 6) (X : BitVec 64) : (thy (vocN n) X).size < 1000000000 ∧ F.allF nameB (thy (vocN n) X) = true := by
 have := thy_ok (vocOk_names (vocN_ok hn)) X
 have h6 := pow6 hn
 rw [Thy, vocN_len] at this
 exact ⟨by have := this.2.1; omega, good_nameB this.1⟩
theorem it_thy {n : Nat} (hn : n ≤ 6) {R : List Int} (ho : orderE (vocN n) R = 0) {k : Int} (hk : k = 1 ∨ k = 2 ∨ k = 3) {X : BitVec 64} (hX : ∀ w, has X w → w < 2 ^ n) (h0 : X ≠ 0#64) :
 itE (vocN n) R (thy (vocN n) X) k = 0 ∧ modelsS (vocN n) (thy (vocN n) X) = X := by
 have hm := thy_models (vocN_ok hn) X
 rw [and_all hn hX] at hm
 refine ⟨?_, hm.2⟩
 unfold itE
 rw [if_neg (by simp [ho]), if_neg (by simp; omega), if_neg (by simp [hm.1]), hm.2, if_neg h0]
theorem nextT_run {n : Nat} (hn : n ≤ 6) {R : List Int} (ho : orderE (vocN n) R = 0) {k : Int} (hk : k = 1 ∨ k = 2 ∨ k = 3) {X : BitVec 64} (hX : ∀ w, has X w → w < 2 ^ n) (h0 : X ≠ 0#64) :
 run tb 10 [strsD (vocN n), numsD R, .int .i64 (thy (vocN n) X).op, .str (thy (vocN n) X).name, .sl (F.encs (thy (vocN n) X).args), .int .i64 k] = some [strsD (vocN n), numsD (nextS (vocN n) k R X), .int .i64 0] := by
 have hl : R.length < 1000000000 := by have := orderE_len ho; omega
 have := nextP_run (vocN n) R (thy (vocN n) X) k (by rw [vocN_len]; omega) hl (thy_small hn X).1
 obtain ⟨e1, e2⟩ := it_thy hn ho hk hX h0
 rw [e1, if_pos rfl, e2] at this
 exact this
theorem theoryS_run {n : Nat} (hn : n ≤ 6) {X : BitVec 64} (hX : ∀ w, has X w → w < 2 ^ n) : run tb 9 [.int .i64 n, bvD X] = some [.int .i64 (thy (vocN n) X).op, .str (thy (vocN n) X).name, .sl (F.encs (thy (vocN n) X).args)] := by
 have := theory35_run n hn X
 rw [and_all hn hX] at this
 exact this
theorem awake35_run : run tb 11 [] = some [.bool true] := by
 refine run_ir (x := ir11) rfl ?_
 have hn2 : ((2 : Nat) : Int) = 2 := rfl
 have hvoc := voc_run 2 (by omega)
 rw [hn2] at hvoc
 have x12 : ∀ w, has (12#64) w → w < 2 ^ 2 := fun w hw => by
  refine Decidable.byContradiction fun hc => ?_
  have h64 := has_lt hw
  have : ∀ w, w < 64 → 4 ≤ w → ¬ has 12#64 w := by decide +kernel
  exact this w h64 (by omega) hw
 have x14 : ∀ w, has (14#64) w → w < 2 ^ 2 := fun w hw => by
  refine Decidable.byContradiction fun hc => ?_
  have h64 := has_lt hw
  have : ∀ w, w < 64 → 4 ≤ w → ¬ has 14#64 w := by decide +kernel
  exact this w h64 (by omega) hw
 have t12 := theoryS_run (n := 2) (by omega) x12
 have t14 := theoryS_run (n := 2) (by omega) x14
 rw [hn2] at t12 t14
 have o1 : orderE (vocN 2) [0, 1, 2, 3] = 0 := by decide +kernel
 have o2 : orderE (vocN 2) [1, 0, 0, 1] = 0 := by decide +kernel
 have a1 := nextT_run (n := 2) (by omega) o1 (.inl rfl) x12 (by decide)
 have a2 := nextT_run (n := 2) (by omega) o1 (.inr (.inl rfl)) x12 (by decide)
 have a3 := nextT_run (n := 2) (by omega) o1 (.inr (.inr rfl)) x12 (by decide)
 have a4 := nextT_run (n := 2) (by omega) o2 (.inr (.inr rfl)) x14 (by decide)
 rw [show nextS (vocN 2) 1 [0, 1, 2, 3] 12#64 = [1, 2, 0, 3] by decide +kernel] at a1
 rw [show nextS (vocN 2) 2 [0, 1, 2, 3] 12#64 = [2, 3, 0, 1] by decide +kernel] at a2
 rw [show nextS (vocN 2) 3 [0, 1, 2, 3] 12#64 = [1, 2, 0, 3] by decide +kernel] at a3
 rw [show nextS (vocN 2) 3 [1, 0, 0, 1] 14#64 = [2, 0, 0, 1] by decide +kernel] at a4
 have i1 := ints_run [1, 2, 0, 3] [1, 2, 0, 3] (by decide)
 have i2 := ints_run [2, 3, 0, 1] [2, 3, 0, 1] (by decide)
 have i4 := ints_run [2, 0, 0, 1] [2, 0, 0, 1] (by decide)
 rw [decide_eq_true rfl] at i1 i2 i4
 have l12 : D.int .u64 12 = bvD 12#64 := rfl
 have l14 : D.int .u64 14 = bvD 14#64 := rfl
 have m1 : PO.eval (.mk 1 4) [.int .i64 0, .int .i64 1, .int .i64 2, .int .i64 3] = some [numsD [0, 1, 2, 3]] := rfl
 have m2 : PO.eval (.mk 1 4) [.int .i64 1, .int .i64 0, .int .i64 0, .int .i64 1] = some [numsD [1, 0, 0, 1]] := rfl
 have m3 : PO.eval (.mk 1 4) [.int .i64 1, .int .i64 2, .int .i64 0, .int .i64 3] = some [numsD [1, 2, 0, 3]] := rfl
 have m4 : PO.eval (.mk 1 4) [.int .i64 2, .int .i64 3, .int .i64 0, .int .i64 1] = some [numsD [2, 3, 0, 1]] := rfl
 have m5 : PO.eval (.mk 1 4) [.int .i64 2, .int .i64 0, .int .i64 0, .int .i64 1] = some [numsD [2, 0, 0, 1]] := rfl
 simp (disch := omega) only [ir11, stepQ, stepL, eq_self, aBin, reduceIte, Int.reduceEq, Int.reduceLT, Int.reduceLE, Int.reduceGT, Int.reduceGE, hvoc, l12, l14, m1, m2, m3, m4, m5, t12, t14, a1, a2, a3, a4, i1, i2, i4, callQ_tvi, callQ_tb]
end Go.Proofs.YtojkhlijbpmgpaaGreat
