/- Plain programs of the functions of the program and lemmas about what they compute. -/
import Derived.Test.YtojkhlijbpmgpaaGreatIt1
import Derived.Test.YtojkhlijbpmgpaaGreatOd
set_option linter.unusedSimpArgs false
set_option linter.unusedVariables false
set_option linter.unusedSectionVars false
namespace Go.Proofs.YtojkhlijbpmgpaaGreat
open Go Am
set_option maxRecDepth 100000
set_option linter.unusedSimpArgs false
set_option linter.unusedVariables false
theorem and_all {n : Nat} (hn : n ≤ 6) {X : BitVec 64} (h : ∀ w, has X w → w < 2 ^ n) : X &&& allS (vocN n) = X := by
 have : allS (vocN n) = alW n := by unfold allS; rw [if_pos (vocN_ok hn), vocN_len]
 rw [this]; exact sub_and hn h
theorem all_sub {n : Nat} (hn : n ≤ 6) (X : BitVec 64) : ∀ w, has (X &&& allS (vocN n)) w → w < 2 ^ n := by
 have : allS (vocN n) = alW n := by unfold allS; rw [if_pos (vocN_ok hn), vocN_len]
 rw [this]; exact sub_of_and hn X
theorem thy_small {n : Nat} (hn : n ≤ 6) (X : BitVec 64) : (thy (vocN n) X).size < 1000000000 ∧ F.allF nameB (thy (vocN n) X) = true := by
 have := thy_ok (vocOk_names (vocN_ok hn)) X
 have h6 := pow6 hn
 rw [Thy, vocN_len] at this
 exact ⟨by have := this.2.1; omega, good_nameB this.1⟩
theorem it_thy {n : Nat} (hn : n ≤ 6) {R : List Int} (ho : orderE (vocN n) R = 0) {k : Int} (hk : k = 1 ∨ k = 2 ∨ k = 3) {X : BitVec 64} (hX : ∀ w, has X w → w < 2 ^ n) (h0 : X ≠ 0#64) :
 itE (vocN n) R (thy (vocN n) X) k = 0 ∧ modelsS (vocN n) (thy (vocN n) X) = X := by
 have hm := thy_models (vocN_ok hn) X
 rw [and_all hn hX] at hm
 refine ⟨?_, hm.2⟩
 unfold itE
 rw [if_neg (by simp [ho]), if_neg (by simp; omega), if_neg (by simp [hm.1]), hm.2, if_neg h0]
theorem nextT_run {n : Nat} (hn : n ≤ 6) {R : List Int} (ho : orderE (vocN n) R = 0) {k : Int} (hk : k = 1 ∨ k = 2 ∨ k = 3) {X : BitVec 64} (hX : ∀ w, has X w → w < 2 ^ n) (h0 : X ≠ 0#64) :
 run tb 9 [strsD (vocN n), numsD R, .int .i64 (thy (vocN n) X).op, .str (thy (vocN n) X).name, .sl (F.encs (thy (vocN n) X).args), .int .i64 k] = some [strsD (vocN n), numsD (nextS (vocN n) k R X), .int .i64 0] := by
 have hl : R.length < 1000000000 := by have := orderE_len ho; omega
 have := nextP_run (vocN n) R (thy (vocN n) X) k (by rw [vocN_len]; omega) hl (thy_small hn X).1
 obtain ⟨e1, e2⟩ := it_thy hn ho hk hX h0
 rw [e1, if_pos rfl, e2] at this
 exact this
theorem nextTR_run {n : Nat} (hn : n ≤ 6) {R : List Int} (ho : orderE (vocN n) R = 0) {k : Int} (hk : k = 1 ∨ k = 2 ∨ k = 3) {X : BitVec 64} (hX : ∀ w, has X w → w < 2 ^ n) (h0 : X ≠ 0#64) :
 run tb 12 [strsD (vocN n), numsD R, .int .i64 (thy (vocN n) X).op, .str (thy (vocN n) X).name, .sl (F.encs (thy (vocN n) X).args), .int .i64 k] = some [strsD (vocN n), numsD (nextS (vocN n) k R X), .int .i64 0] := by
 have hl : R.length < 1000000000 := by have := orderE_len ho; omega
 have := nextR_run (vocN n) R (thy (vocN n) X) k (by rw [vocN_len]; omega) hl (thy_small hn X).1 (fun s hs => by rw [vocN_short s hs]; omega) (thy_small hn X).2
 obtain ⟨e1, e2⟩ := it_thy hn ho hk hX h0
 rw [e1, if_pos rfl, e2] at this
 exact this
theorem theoryS_run {n : Nat} (hn : n ≤ 6) {X : BitVec 64} (hX : ∀ w, has X w → w < 2 ^ n) : run tb 8 [.int .i64 n, bvD X] = some [.int .i64 (thy (vocN n) X).op, .str (thy (vocN n) X).name, .sl (F.encs (thy (vocN n) X).args)] := by
 have := theory35_run n hn X
 rw [and_all hn hX] at this
 exact this
theorem awake35_run : run tb 7 [] = some [.bool true] := by
 refine run_ir (x := ir7) rfl ?_
 have hn2 : ((2 : Nat) : Int) = 2 := rfl
 have hvoc := voc_run 2 (by omega)
 rw [hn2] at hvoc
 have x12 : ∀ w, has (12#64) w → w < 2 ^ 2 := fun w hw => by
  refine Decidable.byContradiction fun hc => ?_
  have h64 := has_lt hw
  have : ∀ w, w < 64 → 4 ≤ w → ¬ has 12#64 w := by decide +kernel
  exact this w h64 (by omega) hw
 have x14 : ∀ w, has (14#64) w → w < 2 ^ 2 := fun w hw => by
  refine Decidable.byContradiction fun hc => ?_
  have h64 := has_lt hw
  have : ∀ w, w < 64 → 4 ≤ w → ¬ has 14#64 w := by decide +kernel
  exact this w h64 (by omega) hw
 have t12 := theoryS_run (n := 2) (by omega) x12
 have t14 := theoryS_run (n := 2) (by omega) x14
 rw [hn2] at t12 t14
 have o1 : orderE (vocN 2) [0, 1, 2, 3] = 0 := by decide +kernel
 have o2 : orderE (vocN 2) [1, 0, 0, 1] = 0 := by decide +kernel
 have a1 := nextT_run (n := 2) (by omega) o1 (.inl rfl) x12 (by decide)
 have a2 := nextT_run (n := 2) (by omega) o1 (.inr (.inl rfl)) x12 (by decide)
 have a3 := nextT_run (n := 2) (by omega) o1 (.inr (.inr rfl)) x12 (by decide)
 have a4 := nextT_run (n := 2) (by omega) o2 (.inr (.inr rfl)) x14 (by decide)
 rw [show nextS (vocN 2) 1 [0, 1, 2, 3] 12#64 = [1, 2, 0, 3] by decide +kernel] at a1
 rw [show nextS (vocN 2) 2 [0, 1, 2, 3] 12#64 = [2, 3, 0, 1] by decide +kernel] at a2
 rw [show nextS (vocN 2) 3 [0, 1, 2, 3] 12#64 = [1, 2, 0, 3] by decide +kernel] at a3
 rw [show nextS (vocN 2) 3 [1, 0, 0, 1] 14#64 = [2, 0, 0, 1] by decide +kernel] at a4
 have i1 := ints_run [1, 2, 0, 3] [1, 2, 0, 3] (by decide)
 have i2 := ints_run [2, 3, 0, 1] [2, 3, 0, 1] (by decide)
 have i4 := ints_run [2, 0, 0, 1] [2, 0, 0, 1] (by decide)
 rw [decide_eq_true rfl] at i1 i2 i4
 have l12 : D.int .u64 12 = bvD 12#64 := rfl
 have l14 : D.int .u64 14 = bvD 14#64 := rfl
 have m1 : PO.eval (.mk 1 4) [.int .i64 0, .int .i64 1, .int .i64 2, .int .i64 3] = some [numsD [0, 1, 2, 3]] := rfl
 have m2 : PO.eval (.mk 1 4) [.int .i64 1, .int .i64 0, .int .i64 0, .int .i64 1] = some [numsD [1, 0, 0, 1]] := rfl
 have m3 : PO.eval (.mk 1 4) [.int .i64 1, .int .i64 2, .int .i64 0, .int .i64 3] = some [numsD [1, 2, 0, 3]] := rfl
 have m4 : PO.eval (.mk 1 4) [.int .i64 2, .int .i64 3, .int .i64 0, .int .i64 1] = some [numsD [2, 3, 0, 1]] := rfl
 have m5 : PO.eval (.mk 1 4) [.int .i64 2, .int .i64 0, .int .i64 0, .int .i64 1] = some [numsD [2, 0, 0, 1]] := rfl
 simp (disch := omega) only [ir7, stepQ, stepL, eq_self, aBin, reduceIte, Int.reduceEq, Int.reduceLT, Int.reduceLE, Int.reduceGT, Int.reduceGE, hvoc, l12, l14, m1, m2, m3, m4, m5, t12, t14, a1, a2, a3, a4, i1, i2, i4, callQ_tvi, callQ_tb]
theorem kinds35_run (l0 : List Int) : run tb 0 [numsD l0] = some [.bool true] := by
 obtain ⟨l, hl, hn⟩ := new_run l0
 obtain ⟨r, p, r1, r2, hp, hr⟩ := range_run 1 3 l 0 hl (by omega) (by omega) (by omega) (by omega)
 obtain ⟨n, rfl⟩ := Int.eq_ofNat_of_zero_le (show 0 ≤ r by omega)
 have hr : run tb 3 [.int .i64 1, .int .i64 3, numsD l, .int .i64 0] = some [.int .i64 n, numsD l, .int .i64 p] := hr
 have hn6 : n ≤ 6 := by omega
 obtain ⟨rs, q, hrs, h2, h3⟩ := some_run n hn6 l p hl hp
 obtain ⟨S1, q1, hq1, hS1⟩ := set_run l q hl h2
 obtain ⟨S2, q2, hq2, hS2⟩ := set_run l q1 hl hq1
 obtain ⟨S3, q3, hq3, hS3⟩ := set_run l q2 hl hq2
 have hvl : (vocN n).length < 1000000000 := by rw [vocN_len]; omega
 have hvs : ∀ s ∈ vocN n, s.length < 9223372036854775808 := fun s hs => by rw [vocN_short s hs]; omega
 have hall := all3_run (vocN n) hvl hvs
 have aw := awake35_run
 have h64 := pow6 hn6
 have hp0 : 0 < 2 ^ n := Nat.two_pow_pos n
 have oR : Ord (vocN n) (2 ^ n) (normS rs) := ⟨some_ok hn6 hrs, by have := rk_norm rs; rw [hrs] at this; exact this⟩
 have nR := norm_norm rs
 generalize normS rs = R at *
 have oN : ∀ {T : List Int} {k : Int} {X : BitVec 64}, Ord (vocN n) (2 ^ n) T → Ord (vocN n) (2 ^ n) (nextS (vocN n) k T X) := fun {T k X} hT =>
  ⟨some_ok hn6 (by simp [nxtPL, hT.rk.1]), next_rk hT.rk _ _ _⟩
 have bl := fun (T : List Int) (hT : Ord (vocN n) (2 ^ n) T) => beliefs3_run (vocN n) T hvl hvs (by rw [hT.rk.1]; omega)
 have sm := fun (T : List Int) (hT : Ord (vocN n) (2 ^ n) T) => sameR_run (vocN n) hvl T (by rw [hT.rk.1]; omega)
 have bB : ∀ w, has (leastS (vocN n) R (BitVec.allOnes 64)) w → w < 2 ^ n := fun w hw => ((oR.least _ w).1 hw).1
 have mS := all_sub hn6 S1
 have dS := all_sub hn6 S3
 have kS : ∀ w, has ((S1 &&& allS (vocN n)) &&& S2) w → w < 2 ^ n := fun w hw => mS w (has_and.1 hw).1
 have km : ∀ w, has ((S1 &&& allS (vocN n)) &&& S2) w → has (S1 &&& allS (vocN n)) w := fun w hw => (has_and.1 hw).1
 have bs : ∀ w, has (leastS (vocN n) R (BitVec.allOnes 64) ||| (S3 &&& allS (vocN n))) w → w < 2 ^ n := fun w hw => (has_or.1 hw).elim (bB w) (dS w)
 refine run_ir (x := ir0) rfl ?_
 generalize hd3 : S3 &&& allS (vocN n) = D3 at *
 generalize hm : S1 &&& allS (vocN n) = m at *
 generalize hk : m &&& S2 = kk at *
 by_cases k0 : kk = 0#64
 · simp (disch := omega) only [ir0, stepQ, stepL, eq_self, aBin, reduceIte, Int.reduceEq, Int.reduceLT, Int.reduceLE, Int.reduceGT, Int.reduceGE, bvQ, wu, shl_norm, shr_norm, and1_norm, hn, hr, h3, hall, hS1, hm, hS2, hk, k0, aw]
 · obtain ⟨z, hz⟩ := set_ne k0
   have m0 : m ≠ 0#64 := ne_of_has (km z hz)
   obtain ⟨u, hu⟩ := oR.ex hp0 (S := BitVec.allOnes 64) (has_top.2 (by omega))
   have B0 : leastS (vocN n) R (BitVec.allOnes 64) ≠ 0#64 := ne_of_has hu
   have d0 : leastS (vocN n) R (BitVec.allOnes 64) ||| D3 ≠ 0#64 := ne_of_has (has_or.2 (.inl hu))
   have oA := oN (k := 2) (X := m) oR
   have oB := oN (k := 2) (X := kk) oA
   have oC := oN (k := 2) (X := kk) oR
   have oD := oN (k := 1) (X := leastS (vocN n) R (BitVec.allOnes 64) ||| D3) oR
   have tm := theoryS_run hn6 mS
   have tk := theoryS_run hn6 kS
   have td := theoryS_run hn6 bs
   have tB := theoryS_run hn6 bB
   have na := nextT_run hn6 oR.ok (.inr (.inl rfl)) mS m0
   have nb := nextT_run hn6 oA.ok (.inr (.inl rfl)) kS k0
   have nc := nextT_run hn6 oR.ok (.inr (.inl rfl)) kS k0
   have nd := nextT_run hn6 oR.ok (.inl rfl) bs d0
   have nw := nextTR_run hn6 oR.ok (.inl rfl) bB B0
   rw [nat_bel oR nR] at nw
   have b1 := bl _ oB
   have b2 := bl _ oC
   have b3 := bl _ oR
   have b4 := bl _ oD
   unfold beliefsS at b1 b2 b3 b4
   rw [next_bel oA (.inr (.inl rfl)) oB ⟨z, kS z hz, hz⟩, lex_part oR oA km] at b1
   rw [next_bel oR (.inr (.inl rfl)) oC ⟨z, kS z hz, hz⟩] at b2
   rw [next_bel oR (.inl rfl) oD ⟨u, bB u hu, has_or.2 (.inl hu)⟩] at b4
   have hmore := bel_more oR hp0 D3
   have sR := sm R oR
   have loopN : ∀ x : Int, (x = 1 ∨ x = 2 ∨ x = 3) → ∃ P : List Int, run tb 9 [strsD (vocN n), numsD R, .int .i64 (thy (vocN n) m).op, .str (thy (vocN n) m).name, .sl (F.encs (thy (vocN n) m).args), .int .i64 x] = some [strsD (vocN n), numsD P, .int .i64 0] ∧
    run tb 9 [strsD (vocN n), numsD P, .int .i64 (thy (vocN n) m).op, .str (thy (vocN n) m).name, .sl (F.encs (thy (vocN n) m).args), .int .i64 x] = some [strsD (vocN n), numsD P, .int .i64 0] ∧
    run tb 11 [strsD (vocN n), numsD P, strsD (vocN n), numsD P] = some [.bool true] := fun x hx => by
    have oP := oN (k := x) (X := m) oR
    refine ⟨nextS (vocN n) x R m, nextT_run hn6 oR.ok hx mS m0, ?_, sm _ oP⟩
    have := nextT_run hn6 oP.ok hx mS m0
    rw [next_twice oR hx oP] at this
    exact this
   obtain ⟨ks, hks⟩ : ∃ ks : List Int, ks = [1, 2, 3] := ⟨_, rfl⟩
   have hmk : PO.eval (.mk 1 3) [.int .i64 1, .int .i64 2, .int .i64 3] = some [numsD ks] := by subst hks; rfl
   have lks : ks.length = 3 := by subst hks; rfl
   have hkk : ∀ x ∈ ks, x = 1 ∨ x = 2 ∨ x = 3 := by
    subst hks
    intro x hx
    simpa using hx
   clear hks oA oB oC oD bl sm oN
   generalize hBD : leastS (vocN n) R (BitVec.allOnes 64) ||| D3 = BD at *
   generalize leastS (vocN n) R (BitVec.allOnes 64) = B at *
   generalize leastS (vocN n) R kk = Lk at *
   generalize leastS (vocN n) R BD = Ld at *
   generalize nextS (vocN n) 2 (nextS (vocN n) 2 R m) kk = Rb at *
   generalize nextS (vocN n) 2 R kk = Rc at *
   generalize nextS (vocN n) 2 R m = Ra at *
   generalize nextS (vocN n) 1 R BD = Rd at *
   generalize thy (vocN n) m = fm at *
   generalize thy (vocN n) kk = fk at *
   generalize thy (vocN n) BD = fd at *
   generalize thy (vocN n) B = fB at *
   simp (disch := omega) only [ir0, ir0p2, stepQ, stepL, eq_self, aBin, reduceIte, Int.reduceEq, Int.reduceLT, Int.reduceLE, Int.reduceGT, Int.reduceGE, bvQ, wu, shl_norm, shr_norm, and1_norm, hn, hr, h3, hall, hS1, hm, hS2, hk, k0, tm, na, tk, nb, nc, b3, hS3, hd3, hBD, td, nd, b1, b2, callQ_tvi, ibne, hmk, len_N]
   refine loop_k (σ := Unit) ks.length (fun _ _ => True) (fun j _ => [.int .i64 j]) (fun _ _ => [.bool true]) ?_ ?_ 0 () (Nat.zero_le _) trivial
   · rintro j _ M hj _ hM
     have hnext := hM () trivial
     have hg := get_N hj
     have hc := chk_N hj
     obtain ⟨P, e1, e2, e3⟩ := loopN ks[j] (hkk _ (List.getElem_mem hj))
     generalize ks[j] = x at *
     simp (disch := omega) only [ir0p1, ir0p0, stepQ, stepL, eq_self, aBin, reduceIte, Int.reduceEq, Int.reduceLT, Int.reduceLE, Int.reduceGT, Int.reduceGE, bvQ, wu, shl_norm, shr_norm, and1_norm, hj, hg, hc, tm, e1, e2, e3, callQ_tvi, ibne, wr, natS, hnext]
   · rintro _ M _
     simp (disch := omega) only [ir0p1, stepQ, stepL, eq_self, aBin, reduceIte, Int.reduceEq, Int.reduceLT, Int.reduceLE, Int.reduceGT, Int.reduceGE, bvQ, wu, shl_norm, shr_norm, and1_norm, Nat.lt_irrefl, b3, tB, nw, sR, b4, hmore, aw, callQ_tvi]
end Go.Proofs.YtojkhlijbpmgpaaGreat
