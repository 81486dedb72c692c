/- Plain programs of the functions of the program and lemmas about what they compute. -/
import Derived.Test.YtojkhlijbpmgpaaGreatIt3
set_option linter.unusedSimpArgs false
set_option linter.unusedVariables false
set_option linter.unusedSectionVars false
namespace Go.Proofs.YtojkhlijbpmgpaaGreat
open Go Am
set_option maxRecDepth 100000
set_option linter.unusedSimpArgs false
set_option linter.unusedVariables false
def togT (names : List (List UInt8)) (ranks : List Int) (k : Int) : BitVec 64 → List F → List D
 | A, [] => if A = 0#64 then [.sl [], .sl [], .int .i64 10] else [strsD names, numsD (nextS names k ranks A), .int .i64 0]
 | A, f :: fs => if modelsE names f = 0 then togT names ranks k (A &&& modelsS names f) fs else [.sl [], .sl [], .int .i64 (modelsE names f)]
def togE (names : List (List UInt8)) (ranks : List Int) (k : Int) (fs : List F) : List D := if ckE names ranks k = 0 then togT names ranks k (allS names) fs else [.sl [], .sl [], .int .i64 (ckE names ranks k)]
theorem togP_run (names : List (List UInt8)) (ranks : List Int) (k : Int) (fs : List F) (hn : names.length < 1000000000) (hl : ranks.length < 1000000000) (hfl : fs.length < 1000000000) (hf : ∀ f ∈ fs, f.size < 1000000000) :
 run tb 8 [strsD names, numsD ranks, .sl (F.encs fs), .int .i64 k] = some (togE names ranks k fs) := by
 refine run_ir (x := ir8) rfl ?_
 have h1 := check_run names ranks k hn hl
 have h2 := all_run names hn
 unfold togE
 by_cases c : ckE names ranks k = 0
 · obtain ⟨z1, z2⟩ := ck_zero c
   rw [c] at h1
   rw [if_pos c]
   simp (disch := omega) only [ir8, stepQ, stepL, eq_self, aBin, reduceIte, Int.reduceEq, Int.reduceLT, Int.reduceLE, Int.reduceGT, Int.reduceGE, h1, ibne, h2, len_F]
   show _ = some (togT names ranks k (allS names) (fs.drop 0))
   refine loop_k (σ := BitVec 64) fs.length (fun _ _ => True) (fun i A => [bvD A, .int .i64 i]) (fun i A => togT names ranks k A (fs.drop i)) ?_ ?_ 0 (allS names) (Nat.zero_le _) trivial
   · rintro i A M hi _ hM
     have hnext := hM (A &&& modelsS names fs[i]) trivial
     have hr := modelsW_run names fs[i] hn (hf _ (List.getElem_mem hi))
     rw [drop_s hi, togT]
     simp only [rowF] at hr
     by_cases hm : modelsE names fs[i] = 0
     · rw [if_pos hm]
       rw [hm] at hr
       simp (disch := omega) only [ir8p0, rowF, stepQ, stepL, eq_self, aBin, reduceIte, Int.reduceEq, Int.reduceLT, Int.reduceLE, Int.reduceGT, Int.reduceGE, bvQ, wu, shl_norm, shr_norm, and1_norm, hi, row_F, hr, ibne, wr, natS, hnext]
     · rw [if_neg hm]
       simp (disch := omega) only [ir8p0, rowF, stepQ, stepL, eq_self, aBin, reduceIte, Int.reduceEq, Int.reduceLT, Int.reduceLE, Int.reduceGT, Int.reduceGE, bvQ, wu, shl_norm, shr_norm, and1_norm, hi, row_F, hr, ibne, hm]
   · rintro A M _
     rw [drop_e, togT]
     by_cases hz : A = 0#64
     · rw [if_pos hz]
       simp (disch := omega) only [ir8p0, stepQ, stepL, eq_self, aBin, reduceIte, Int.reduceEq, Int.reduceLT, Int.reduceLE, Int.reduceGT, Int.reduceGE, bvQ, wu, shl_norm, shr_norm, and1_norm, Nat.lt_irrefl, hz]
     · rw [if_neg hz]
       have h3 := nextI_run names ranks A k z2 z1
       simp (disch := omega) only [ir8p0, stepQ, stepL, eq_self, aBin, reduceIte, Int.reduceEq, Int.reduceLT, Int.reduceLE, Int.reduceGT, Int.reduceGE, bvQ, wu, shl_norm, shr_norm, and1_norm, Nat.lt_irrefl, hz, h3, callQ_tvi]
 · rw [if_neg c]
   simp (disch := omega) only [ir8, stepQ, stepL, eq_self, aBin, reduceIte, Int.reduceEq, Int.reduceLT, Int.reduceLE, Int.reduceGT, Int.reduceGE, h1, ibne, c]
theorem togR_run (names : List (List UInt8)) (ranks : List Int) (k : Int) (fs : List F) (hn : names.length < 1000000000) (hl : ranks.length < 1000000000) (hs : ∀ s ∈ names, s.length < 9223372036854775808) (hfl : fs.length < 1000000000) (hf : ∀ f ∈ fs, f.size < 1000000000 ∧ F.allF nameB f = true) :
 run tb 19 [strsD names, numsD ranks, .sl (F.encs fs), .int .i64 k] = some (togE names ranks k fs) := by
 refine run_ir (x := ir19) rfl ?_
 have h1 := validateO3_run names ranks hn hs hl
 have h0 := kind_run k
 have h2 := all3_run names hn hs
 unfold togE
 by_cases c0 : orderE names ranks = 0
 · rw [c0] at h1
   by_cases c1 : 1 ≤ k ∧ k ≤ 3
   · rw [decide_eq_true c1] at h0
     have z2 : k = 1 ∨ k = 2 ∨ k = 3 := by omega
     have c : ckE names ranks k = 0 := by unfold ckE; rw [if_neg (by simp [c0]), if_neg (by simp [c1])]
     rw [if_pos c]
     simp (disch := omega) only [ir19, stepQ, stepL, eq_self, aBin, reduceIte, Int.reduceEq, Int.reduceLT, Int.reduceLE, Int.reduceGT, Int.reduceGE, h1, h0, ibne, h2]
     show _ = some (togT names ranks k (allS names) (fs.drop 0))
     refine loop_k (σ := BitVec 64) fs.length (fun _ _ => True) (fun i A => [bvD A, .int .i64 i]) (fun i A => togT names ranks k A (fs.drop i)) ?_ ?_ 0 (allS names) (Nat.zero_le _) trivial
     · rintro i A M hi _ hM
       have hnext := hM (A &&& modelsS names fs[i]) trivial
       obtain ⟨f1, f2⟩ := hf _ (List.getElem_mem hi)
       have hr := modelsR_run names fs[i] hn hs f1 f2
       rw [drop_s hi, togT]
       simp only [rowF] at hr
       by_cases hm : modelsE names fs[i] = 0
       · rw [if_pos hm]
         rw [hm] at hr
         simp (disch := omega) only [ir19p0, rowF, stepQ, stepL, eq_self, aBin, reduceIte, Int.reduceEq, Int.reduceLT, Int.reduceLE, Int.reduceGT, Int.reduceGE, bvQ, wu, shl_norm, shr_norm, and1_norm, len_F, hi, row_F, hr, ibne, wr, natS, hnext]
       · rw [if_neg hm]
         simp (disch := omega) only [ir19p0, rowF, stepQ, stepL, eq_self, aBin, reduceIte, Int.reduceEq, Int.reduceLT, Int.reduceLE, Int.reduceGT, Int.reduceGE, bvQ, wu, shl_norm, shr_norm, and1_norm, len_F, hi, row_F, hr, ibne, hm]
     · rintro A M _
       rw [drop_e, togT]
       by_cases hz : A = 0#64
       · rw [if_pos hz]
         simp (disch := omega) only [ir19p0, stepQ, stepL, eq_self, aBin, reduceIte, Int.reduceEq, Int.reduceLT, Int.reduceLE, Int.reduceGT, Int.reduceGE, bvQ, wu, shl_norm, shr_norm, and1_norm, len_F, Nat.lt_irrefl, hz]
       · rw [if_neg hz]
         have h3 := shift_run names ranks A k z2 c0
         simp (disch := omega) only [ir19p0, stepQ, stepL, eq_self, aBin, reduceIte, Int.reduceEq, Int.reduceLT, Int.reduceLE, Int.reduceGT, Int.reduceGE, bvQ, wu, shl_norm, shr_norm, and1_norm, len_F, Nat.lt_irrefl, hz, h3, callQ_tvi]
   · rw [decide_eq_false c1] at h0
     have c : ckE names ranks k = 4 := by unfold ckE; rw [if_neg (by simp [c0]), if_pos c1]
     rw [c, if_neg (by decide)]
     simp (disch := omega) only [ir19, stepQ, stepL, eq_self, aBin, reduceIte, Int.reduceEq, Int.reduceLT, Int.reduceLE, Int.reduceGT, Int.reduceGE, h1, h0, ibne]
 · have c : ckE names ranks k = orderE names ranks := by unfold ckE; rw [if_pos c0]
   rw [c, if_neg c0]
   simp (disch := omega) only [ir19, stepQ, stepL, eq_self, aBin, reduceIte, Int.reduceEq, Int.reduceLT, Int.reduceLE, Int.reduceGT, Int.reduceGE, h1, ibne, c0]
def togS (names : List (List UInt8)) (A : BitVec 64) (fs : List F) : BitVec 64 := fs.foldl (fun A f => A &&& modelsS names f) A
theorem togS_has (names : List (List UInt8)) : ∀ (fs : List F) (A : BitVec 64) (w : Nat), has (togS names A fs) w ↔ has A w ∧ ∀ f ∈ fs, has (modelsS names f) w
 | [], A, w => by simp [togS]
 | f :: fs, A, w => by
  have := togS_has names fs (A &&& modelsS names f) w
  unfold togS at this ⊢
  rw [List.foldl_cons, this, has_and]
  simp [and_assoc]
theorem togS_rev (names : List (List UInt8)) (A : BitVec 64) (fs : List F) : togS names A fs.reverse = togS names A fs := set_eq fun w => by
 rw [togS_has, togS_has]; simp
theorem togT_ok (names : List (List UInt8)) (ranks : List Int) (k : Int) : ∀ (fs : List F) (A : BitVec 64), (∀ f ∈ fs, modelsE names f = 0) → togT names ranks k A fs = togT names ranks k (togS names A fs) []
 | [], A, _ => rfl
 | f :: fs, A, h => by
  have e : togT names ranks k A (f :: fs) = if modelsE names f = 0 then togT names ranks k (A &&& modelsS names f) fs else [.sl [], .sl [], .int .i64 (modelsE names f)] := rfl
  rw [e, if_pos (h f (by simp)), togT_ok names ranks k fs _ fun g hg => h g (by simp [hg])]
  rfl
theorem app_FF {l g : List F} (h : l.length + g.length < 1000000000000) : PO.eval (.app 3 48) [.sl (F.encs l), .sl (F.encs g)] = some [.sl (F.encs (l ++ g))] := by
 have := ev_app (sz := 3) (bt := 48) (xs := F.encs l) (ys := F.encs g) (by rw [F.encs_len, F.encs_len]; omega) (by rw [F.encs_len, F.encs_len]; omega) (by rw [F.encs_map]; simp [F.enc_eq])
 rw [this, F.encs_map, F.encs_map, F.encs_map, List.map_append]
theorem together35_run (l0 : List Int) : run tb 0 [numsD l0] = some [.bool true] := by
 obtain ⟨l, hl, hn⟩ := new_run l0
 obtain ⟨r, p, r1, r2, hp, hr⟩ := range_run 1 3 l 0 hl (by omega) (by omega) (by omega) (by omega)
 obtain ⟨n, rfl⟩ := Int.eq_ofNat_of_zero_le (show 0 ≤ r by omega)
 have hr : run tb 3 [.int .i64 1, .int .i64 3, numsD l, .int .i64 0] = some [.int .i64 n, numsD l, .int .i64 p] := hr
 have hn6 : n ≤ 6 := by omega
 obtain ⟨rs, q, hrs, h2, h3⟩ := some_run n hn6 l p hl hp
 obtain ⟨fs, q1, hq1, hfl, hfs, hfr⟩ := formulas35_run 4 n (by omega) (by omega) (by omega) l hl q h2
 have hfr : run tb 5 [.int .i64 4, .int .i64 n, numsD l, .int .i64 q] = some [.sl (F.encs fs), numsD l, .int .i64 q1] := hfr
 obtain ⟨k, q2, k1, k2, hq2, hk⟩ := range_run 1 3 l q1 hl hq1 (by omega) (by omega) (by omega)
 have hk3 : k = 1 ∨ k = 2 ∨ k = 3 := by omega
 have aw := awake35_run
 have h64 := pow6 hn6
 have hvl : (vocN n).length < 1000000000 := by rw [vocN_len]; omega
 have hvs : ∀ s ∈ vocN n, s.length < 9223372036854775808 := fun s hs => by rw [vocN_short s hs]; omega
 have hall := all3_run (vocN n) hvl hvs
 have oR : Ord (vocN n) (2 ^ n) (normS rs) := ⟨some_ok hn6 hrs, by have := rk_norm rs; rw [hrs] at this; exact this⟩
 generalize normS rs = R at *
 have hrl : R.length < 1000000000 := by rw [oR.rk.1]; omega
 have hmd : ∀ f ∈ fs, f.size < 1000000000 ∧ modelsE (vocN n) f = 0 ∧ F.allF nameB f = true := fun f hf => by
  obtain ⟨f1, f2, f3, f4, f5, f6⟩ := made_models hn6 (Nat.le_refl 3) (hfs f hf)
  exact ⟨by omega, f5, good_nameB f1⟩
 have hck : ckE (vocN n) R k = 0 := by unfold ckE; rw [if_neg (by simp [oR.ok]), if_neg (by simp; omega)]
 have t1 := togP_run (vocN n) R k fs hvl hrl (by omega) (fun f hf => (hmd f hf).1)
 have t2 := togP_run (vocN n) R k fs.reverse hvl hrl (by rw [List.length_reverse]; omega) (fun f hf => (hmd f (List.mem_reverse.1 hf)).1)
 unfold togE at t1 t2
 rw [if_pos hck, togT_ok _ _ _ _ _ fun f hf => (hmd f hf).2.1, togT] at t1
 rw [if_pos hck, togT_ok _ _ _ _ _ fun f hf => (hmd f (List.mem_reverse.1 hf)).2.1, togS_rev, togT] at t2
 have sub : ∀ w, has (togS (vocN n) (allS (vocN n)) fs) w → w < 2 ^ n := fun w hw => by
  have := ((togS_has _ _ _ _).1 hw).1
  unfold allS at this
  rw [if_pos (vocN_ok hn6), vocN_len] at this
  exact ((has_bits h64).1 this).1
 have th := theoryS_run hn6 sub
 refine run_ir (x := ir0) rfl ?_
 simp (disch := omega) only [ir0, stepQ, stepL, eq_self, aBin, reduceIte, Int.reduceEq, Int.reduceLT, Int.reduceLE, Int.reduceGT, Int.reduceGE, bvQ, wu, shl_norm, shr_norm, and1_norm, hn, hr, h3, hfr, hk, hall]
 refine loop_k (σ := Unit) fs.length (fun _ _ => True) (fun i _ => [.sl (F.encs (fs.take i).reverse), bvD (togS (vocN n) (allS (vocN n)) (fs.take i)), .int .i64 i]) (fun _ _ => [.bool true]) ?_ ?_ 0 () (Nat.zero_le _) trivial
 · rintro i _ M hi _ hM
   have hnext := hM () trivial
   have htk : fs.take (i + 1) = fs.take i ++ [fs[i]] := by rw [List.take_add_one, List.getElem?_eq_getElem hi]; rfl
   have hst : togS (vocN n) (allS (vocN n)) (fs.take i ++ [fs[i]]) = togS (vocN n) (allS (vocN n)) (fs.take i) &&& modelsS (vocN n) fs[i] := by unfold togS; rw [List.foldl_append]; rfl
   rw [htk, hst, List.reverse_append] at hnext
   obtain ⟨f1, f2, f3⟩ := hmd fs[i] (List.getElem_mem hi)
   have hm := modelsR_run (vocN n) fs[i] hvl hvs f1 f3
   have hrow := row_F hi
   generalize fs[i] = f at *
   have hmk : PO.eval (.mk 3 1) [.int .i64 f.op, .str f.name, .sl (F.encs f.args)] = some [.sl (F.encs [f])] := by simp [PO.eval, chunks, F.encs, F.enc_eq]
   have happ := app_FF (l := [f]) (g := (fs.take i).reverse) (by simp; omega)
   have hnext : _ = some [D.bool true] := hnext
   simp only [List.reverse_cons, List.reverse_nil, List.nil_append] at hnext
   simp only [rowF] at hm
   generalize togS (vocN n) (allS (vocN n)) (fs.take i) = A at *
   simp (disch := omega) only [ir0p0, stepQ, stepL, eq_self, aBin, reduceIte, Int.reduceEq, Int.reduceLT, Int.reduceLE, Int.reduceGT, Int.reduceGE, bvQ, wu, shl_norm, shr_norm, and1_norm, len_F, hi, hrow, hmk, happ, hm, wr, natS, hnext]
 · rintro _ M _
   rw [List.take_length]
   by_cases hz : togS (vocN n) (allS (vocN n)) fs = 0#64
   · rw [if_pos hz] at t1 t2
     have hnx := nextP_run (vocN n) R (thy (vocN n) (togS (vocN n) (allS (vocN n)) fs)) k hvl hrl (thy_small hn6 _).1
     have hm := thy_models (vocN_ok hn6) (togS (vocN n) (allS (vocN n)) fs)
     rw [and_all hn6 sub, hz] at hm
     rw [hz] at hnx th
     have he : itE (vocN n) R (thy (vocN n) 0#64) k = 9 := by
      unfold itE
      rw [if_neg (by simp [oR.ok]), if_neg (by simp; omega), if_neg (by simp [hm.1]), hm.2, if_pos rfl]
     rw [he, if_neg (by decide)] at hnx
     rw [hz]
     generalize thy (vocN n) 0#64 = g at *
     simp (disch := omega) only [ir0p0, stepQ, stepL, eq_self, aBin, reduceIte, Int.reduceEq, Int.reduceLT, Int.reduceLE, Int.reduceGT, Int.reduceGE, bvQ, wu, shl_norm, shr_norm, and1_norm, len_F, Nat.lt_irrefl, t1, t2, th, hnx, callQ_tvi, aw]
   · rw [if_neg hz] at t1 t2
     have hnx := nextT_run hn6 oR.ok hk3 sub hz
     have oX : Rk (2 ^ n) (nextS (vocN n) k R (togS (vocN n) (allS (vocN n)) fs)) := next_rk oR.rk _ _ _
     have hsm := sameR_run (vocN n) hvl _ (show (nextS (vocN n) k R (togS (vocN n) (allS (vocN n)) fs)).length < 1000000000 by rw [oX.1]; omega)
     generalize togS (vocN n) (allS (vocN n)) fs = A at *
     generalize thy (vocN n) A = g at *
     generalize nextS (vocN n) k R A = X at *
     simp (disch := omega) only [ir0p0, stepQ, stepL, eq_self, aBin, reduceIte, Int.reduceEq, Int.reduceLT, Int.reduceLE, Int.reduceGT, Int.reduceGE, bvQ, wu, shl_norm, shr_norm, and1_norm, len_F, Nat.lt_irrefl, t1, t2, th, hnx, hz, hsm, callQ_tvi, aw]
end Go.Proofs.YtojkhlijbpmgpaaGreat
