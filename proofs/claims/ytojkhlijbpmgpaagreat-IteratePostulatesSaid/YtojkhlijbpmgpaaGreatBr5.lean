/- What functions of the program compute: lemmas. -/
import Derived.Test.YtojkhlijbpmgpaaGreatBr
import Derived.Test.YtojkhlijbpmgpaaGreatIt
import Derived.Test.YtojkhlijbpmgpaaGreatAm6
set_option linter.unusedSimpArgs false
set_option linter.unusedVariables false
set_option linter.unusedSectionVars false
namespace Go.Proofs.YtojkhlijbpmgpaaGreat
open Go Am
set_option maxRecDepth 100000
theorem ipost_run (l0 : List Int) : run tb 1 [numsD l0] = some [.bool true] := by
 have aw := awake35_run
 obtain ⟨l, hl, hn⟩ := new_run l0
 obtain ⟨r, p, r1, r2, hp, hr⟩ := range_run 1 3 l 0 hl (by omega) (by omega) (by omega) (by omega)
 obtain ⟨n, rfl⟩ := Int.eq_ofNat_of_zero_le (show 0 ≤ r by omega)
 have hr : run tb 6 [.int .i64 1, .int .i64 3, numsD l, .int .i64 0] = some [.int .i64 n, numsD l, .int .i64 p] := hr
 have hn6 : n ≤ 6 := by omega
 obtain ⟨rs, q, hrs, h2, h3⟩ := some_run n hn6 l p hl hp
 obtain ⟨f, q3, hq3, hf, hgr⟩ := formula_run n (by omega) (by omega) l hl 3 (by omega) q h2
 have hgr : run tb 8 [.int .i64 n, .int .i64 3, numsD l, .int .i64 q] = some [.int .i64 f.op, .str f.name, .sl (F.encs f.args), numsD l, .int .i64 q3] := hgr
 obtain ⟨gm1, gm2, _, _, gm5, gm6⟩ := made_models hn6 (Nat.le_refl 3) hf
 have hv := vocN_ok hn6
 have hvl : (vocN n).length < 1000000000 := by rw [vocN_len]; omega
 have hvs : ∀ s ∈ vocN n, s.length < 9223372036854775808 := fun s hs => by rw [vocN_short s hs]; omega
 have hmd := modelsR_run (vocN n) f hvl hvs (by omega) (good_nameB gm1)
 simp only [rowF] at hmd
 rw [gm5] at hmd
 have h64 := pow6 hn6
 have oR : Ord (vocN n) (2 ^ n) (normS rs) := ⟨some_ok hn6 hrs, by have := rk_norm rs; rw [hrs] at this; exact this⟩
 generalize normS rs = R at *
 have oN : ∀ {T : List Int} {k : Int} {X : BitVec 64}, Ord (vocN n) (2 ^ n) T → Ord (vocN n) (2 ^ n) (nextS (vocN n) k T X) := fun {T k X} hT =>
  ⟨some_ok hn6 (by simp [nxtPL, hT.rk.1]), next_rk hT.rk _ _ _⟩
 have hsub : ∀ w, has (modelsS (vocN n) f) w → w < 2 ^ n := fun w hw => by
  rw [gm6] at hw
  have := (has_modN (voc := vocN n) (f := f) (w := w) (by rw [vocN_len]; exact hn6))
  rw [vocN_len] at this
  exact (this.1 hw).1
 refine run_ir (x := ir1) rfl ?_
 by_cases c3 : modelsS (vocN n) f = 0#64
 · rw [c3] at hmd
   simp (disch := omega) only [ir1, stepQ, stepL, eq_self, aBin, reduceIte, Int.reduceEq, Int.reduceLT, Int.reduceLE, Int.reduceGT, Int.reduceGE, bvQ, wu, shl_norm, shr_norm, and1_norm, hn, hr, h3, hgr, hmd, aw]
 · have hex : ∃ u, u < 2 ^ n ∧ has (modelsS (vocN n) f) u := by
    refine Classical.byContradiction fun hno => c3 (set_zero.2 fun u hu => hno ⟨u, hsub u hu, hu⟩)
   have hnx : ∀ k : Int, k = 1 ∨ k = 2 ∨ k = 3 → run tb 14 [strsD (vocN n), numsD R, .int .i64 f.op, .str f.name, .sl (F.encs f.args), .int .i64 k] = some [strsD (vocN n), numsD (nextS (vocN n) k R (modelsS (vocN n) f)), .int .i64 0] := fun k hk => by
    have hlR : R.length = 2 ^ n := oR.rk.1
    have := nextP_run (vocN n) R f k hvl (by omega) (by omega)
    rw [if_pos (by unfold itE; rw [if_neg (by simp [oR.ok]), if_neg (by simp; omega), if_neg (by simp [gm5]), if_neg c3])] at this
    exact this
   have hbr : ∀ k : Int, k = 1 ∨ k = 2 ∨ k = 3 → ∃ b : List Int, b.length ≤ 8 ∧ run tb 10 [strsD (vocN n), numsD R, strsD (vocN n), numsD (nextS (vocN n) k R (modelsS (vocN n) f)), .int .i64 f.op, .str f.name, .sl (F.encs f.args)] = some [numsD b, .int .i64 0] ∧
    ∀ i ∈ b, ¬ (i ≤ 4 ∨ i = 8 ∨ (i = 5 ∧ k ≠ 1) ∨ (i = 6 ∧ k = 2) ∨ (i = 7 ∧ k = 1)) := fun k hk => by
    have hX : Ord (vocN n) (2 ^ n) (nextS (vocN n) k R (modelsS (vocN n) f)) := oN oR
    have hlR : R.length = 2 ^ n := oR.rk.1
    have hlX := hX.rk.1
    have := breachesP_run (vocN n) (vocN n) R (nextS (vocN n) k R (modelsS (vocN n) f)) f hvl (by omega) hvl (by omega) (by omega)
    have hb : brE (vocN n) R (vocN n) (nextS (vocN n) k R (modelsS (vocN n) f)) f = 0 := by unfold brE; rw [if_neg (by simp [oR.ok]), if_neg (by simp [hX.ok]), if_neg (by simp), if_neg (by simp [gm5]), if_neg c3]
    unfold breD at this
    rw [if_pos hb] at this
    exact ⟨_, brO_len _ 8, this, fun i hi => next_keeps oR hk hX hex hi⟩
   obtain ⟨ks, hks⟩ : ∃ ks : List Int, ks = [1, 2, 3] := ⟨_, rfl⟩
   have hmk : PO.eval (.mk 1 3) [.int .i64 1, .int .i64 2, .int .i64 3] = some [numsD ks] := by subst hks; rfl
   have hkm : ∀ k ∈ ks, k = 1 ∨ k = 2 ∨ k = 3 := by subst hks; intro k hk; simpa using hk
   have hkl : ks.length = 3 := by subst hks; rfl
   clear hks
   generalize modelsS (vocN n) f = m at *
   simp (disch := omega) only [ir1, stepQ, stepL, eq_self, aBin, reduceIte, Int.reduceEq, Int.reduceLT, Int.reduceLE, Int.reduceGT, Int.reduceGE, bvQ, wu, shl_norm, shr_norm, and1_norm, hn, hr, h3, hgr, hmd, c3, hmk, len_N]
   refine loop_k (σ := Unit) ks.length (fun _ _ => True) (fun i _ => [.int .i64 i]) (fun _ _ => [.bool true]) ?_ ?_ 0 () (Nat.zero_le _) trivial
   · rintro i _ M hi _ hM
     have hM := hM () trivial
     have hgP := get_N hi
     have hcP := chk_N hi
     have hk := hkm ks[i] (List.getElem_mem hi)
     have hx := hnx ks[i] hk
     obtain ⟨b, hbl, hb, hbi⟩ := hbr ks[i] hk
     generalize ks[i] = k at *
     simp (disch := omega) only [ir1p3, ir1p2, stepQ, stepL, eq_self, aBin, reduceIte, Int.reduceEq, Int.reduceLT, Int.reduceLE, Int.reduceGT, Int.reduceGE, hi, hcP, hgP, hx, hb, ibne, len_N]
     refine loop_k (σ := Unit) b.length (fun _ _ => True) (fun i _ => [.int .i64 i]) (fun _ _ => [.bool true]) ?_ ?_ 0 () (Nat.zero_le _) trivial
     · rintro j _ N hj _ hN
       have hN := hN () trivial
       have hrw := row_N hj
       have hbj := hbi b[j] (List.getElem_mem hj)
       generalize b[j] = x at *
       have x1 : ¬ x ≤ 4 := by omega
       have x2 : ¬ x = 8 := by omega
       by_cases y5 : x = 5
       · have k1 : k = 1 := by omega
         subst y5 k1
         simp (disch := omega) only [ir1p1, ir1p0, stepQ, stepL, eq_self, aBin, reduceIte, Int.reduceEq, Int.reduceLT, Int.reduceLE, Int.reduceGT, Int.reduceGE, hj, hrw, ibne, wr, natS, hN]
       · by_cases y6 : x = 6
         · have k1 : ¬ k = 2 := by omega
           subst y6
           simp (disch := omega) only [ir1p1, ir1p0, stepQ, stepL, eq_self, aBin, reduceIte, Int.reduceEq, Int.reduceLT, Int.reduceLE, Int.reduceGT, Int.reduceGE, hj, hrw, ibne, k1, wr, natS, hN]
         · by_cases y7 : x = 7
           · have k1 : ¬ k = 1 := by omega
             subst y7
             simp (disch := omega) only [ir1p1, ir1p0, stepQ, stepL, eq_self, aBin, reduceIte, Int.reduceEq, Int.reduceLT, Int.reduceLE, Int.reduceGT, Int.reduceGE, hj, hrw, ibne, k1, wr, natS, hN]
           · simp (disch := omega) only [ir1p1, ir1p0, stepQ, stepL, eq_self, aBin, reduceIte, Int.reduceEq, Int.reduceLT, Int.reduceLE, Int.reduceGT, Int.reduceGE, hj, hrw, ibne, x1, x2, y5, y6, y7, wr, natS, hN]
     · rintro _ N _
       simp (disch := omega) only [ir1p1, stepQ, stepL, eq_self, aBin, reduceIte, Int.reduceEq, Int.reduceLT, Int.reduceLE, Int.reduceGT, Int.reduceGE, Nat.lt_irrefl, wr, natS, hM]
   · rintro _ M _
     simp (disch := omega) only [ir1p3, stepQ, stepL, eq_self, aBin, reduceIte, Int.reduceEq, Int.reduceLT, Int.reduceLE, Int.reduceGT, Int.reduceGE, Nat.lt_irrefl, aw]
end Go.Proofs.YtojkhlijbpmgpaaGreat
