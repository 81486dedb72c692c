/- What functions of the program compute: lemmas. -/
import Derived.Test.YtmjnhmeckloanaaGreatDoorMg
import Derived.Test.YtmjnhmeckloanaaGreatDoorCh
import Derived.Test.YtmjnhmeckloanaaGreatDoorAm6
set_option linter.unusedSimpArgs false
set_option linter.unusedVariables false
set_option linter.unusedSectionVars false
namespace Go.Proofs.YtmjnhmeckloanaaGreatDoor
open Go Am
set_option maxRecDepth 100000
theorem topleast_run (l0 : List Int) : run tb 0 [numsD l0] = some [.bool true] := by
 have aw := awake37_run
 obtain ⟨l, hl, hn⟩ := new_run l0
 obtain ⟨r, p, r1, r2, hp, hr⟩ := range_run 1 3 l 0 hl (by omega) (by omega) (by omega) (by omega)
 obtain ⟨n, rfl⟩ := Int.eq_ofNat_of_zero_le (show 0 ≤ r by omega)
 have hr : run tb 2 [.int .i64 1, .int .i64 3, numsD l, .int .i64 0] = some [.int .i64 n, numsD l, .int .i64 p] := hr
 have hn6 : n ≤ 6 := by omega
 have hvo := voc_run n (by omega)
 obtain ⟨rs, q, hrs, h2, h3⟩ := some_run n hn6 l p hl hp
 obtain ⟨f, q3, hq3, hf, hgr⟩ := formula_run n (by omega) (by omega) l hl 3 (by omega) q h2
 have hgr : run tb 5 [.int .i64 n, .int .i64 3, numsD l, .int .i64 q] = some [.int .i64 f.op, .str f.name, .sl (F.encs f.args), numsD l, .int .i64 q3] := hgr
 obtain ⟨gm1, gm2, _, _, gm5, gm6⟩ := made_models hn6 (Nat.le_refl 3) hf
 have hv := vocN_ok hn6
 have hvl : (vocN n).length < 1000000000 := by rw [vocN_len]; omega
 have hmd := modelsW_run (vocN n) f hvl (by omega)
 simp only [rowF] at hmd
 rw [gm5] at hmd
 have h64 := pow6 hn6
 have oR : Ord (vocN n) (2 ^ n) (normS rs) := ⟨some_ok hn6 hrs, by have := rk_norm rs; rw [hrs] at this; exact this⟩
 generalize normS rs = R at *
 have hlR : R.length = 2 ^ n := oR.rk.1
 have hsub : ∀ w, has (modelsS (vocN n) f) w → w < 2 ^ n := fun w hw => by
  rw [gm6] at hw
  have := (has_modN (voc := vocN n) (f := f) (w := w) (by rw [vocN_len]; exact hn6))
  rw [vocN_len] at this
  exact (this.1 hw).1
 have hrv := revise_run (vocN n) R f hvl (by omega) (by omega)
 have hch : chE (vocN n) R f = 0 := by unfold chE; rw [if_neg (by simp [oR.ok]), gm5]
 rw [hch, if_pos rfl] at hrv
 simp only [rowF] at hrv
 have hls := fun (T : List Int) (hT : T.length < 1000000000) => leastO_run (vocN n) T hvl hT (modelsS (vocN n) f)
 have hlsR := hls R (by omega)
 have rest : ∀ (q : Nat), q ≤ l.length → ∃ (w : Nat) (q1 q2 : Nat) (kind : Int), w < 2 ^ n ∧ (kind = 1 ∨ kind = 2 ∨ kind = 3) ∧
  run tb 11 [.int .i64 ((2 ^ n : Nat) : Int), numsD l, .int .i64 q] = some [.int .i64 w, numsD l, .int .i64 q1] ∧
  run tb 2 [.int .i64 1, .int .i64 3, numsD l, .int .i64 q1] = some [.int .i64 kind, numsD l, .int .i64 q2] := fun q hq => by
  obtain ⟨w, q1, w0, w1, hq1, hw⟩ := n_run ((2 ^ n : Nat) : Int) l q hl hq (by have := Nat.two_pow_pos n; omega) (by omega)
  obtain ⟨w, rfl⟩ := Int.eq_ofNat_of_zero_le w0
  obtain ⟨k, q2, k1, k2, hq2, hk⟩ := range_run 1 3 l q1 hl hq1 (by omega) (by omega) (by omega)
  exact ⟨w, q1, q2, k, by omega, by omega, hw, hk⟩
 have fin : ∀ (w : Nat) (kind : Int), w < 2 ^ n → (kind = 1 ∨ kind = 2 ∨ kind = 3) →
  ∃ (a b c : D) (rk : List Int), run tb 12 [.int .i64 n, bvD (1#64 <<< w)] = some [a, b, c, .bool true] ∧ rk.length < 1000000000 ∧
   (∀ (ls : D), PO.eval (.mk 3 1) [a, b, c] = some [ls] → run tb 13 [strsD (vocN n), ls, .int .i64 kind] = some [strsD (vocN n), numsD rk, .int .i64 0] ∧
    run tb 14 [strsD (vocN n), ls, .int .i64 f.op, .str f.name, .sl (F.encs f.args), .int .i64 kind] = some [bvD (leastS (vocN n) rk (modelsS (vocN n) f)), .int .i64 0]) ∧
   (∃ ls, PO.eval (.mk 3 1) [a, b, c] = some [ls]) ∧
   leastS (vocN n) rk (modelsS (vocN n) f) = nearS (2 ^ n) w (modelsS (vocN n) f) 1 ∧
   run tb 15 [strsD (vocN n), bvD (1#64 <<< w), .int .i64 f.op, .str f.name, .sl (F.encs f.args), .int .i64 1] = some [bvD (nearS (2 ^ n) w (modelsS (vocN n) f) 1), .int .i64 0] ∧
   run tb 16 [strsD (vocN n), .int .i64 w, bvD (modelsS (vocN n) f), .int .i64 1] = some [bvD (nearS (2 ^ n) w (modelsS (vocN n) f) 1), .int .i64 0] := fun w kind hw hk => by
  have hX : ∀ z, has (1#64 <<< w) z → z < 2 ^ n := fun z hz => by have := (has_one (by omega)).1 hz; omega
  have hX0 : (1#64 <<< w : BitVec 64) ≠ 0#64 := fun h => by
   have : has (1#64 <<< w) w := (has_one (by omega)).2 rfl
   rw [h] at this
   simp [has] at this
  have ho := over_run hn6 (1#64 <<< w)
  have hm := thy_models hv (1#64 <<< w)
  rw [and_all hn6 hX] at hm
  have hsm := thy_small hn6 (1#64 <<< w)
  generalize thy (vocN n) (1#64 <<< w) = t at *
  have hmap : [t].map (modelsS (vocN n)) = [1#64 <<< w] := by simp [hm.2]
  have hfe : firstE (vocN n) [t] = 0 := firstE_all.2 fun f hf => by rw [List.mem_singleton.1 hf]; exact hm.1
  have hp : prE (vocN n) [t] kind = 0 := by
   unfold prE
   rw [if_neg (by simp [hv]), if_neg (by omega), if_neg (by simp), if_neg (by simp [hfe]), if_neg]
   rw [hmap]
   intro hc
   have := List.contains_iff_mem.1 hc
   simp only [List.mem_cons, List.not_mem_nil, or_false] at this
   exact hX0 this.symm
  have hmo := morder_run (vocN n) hvl [t] (fun f hf => by rw [List.mem_singleton.1 hf]; exact hsm.1) (by simp) kind
  rw [hp, if_pos rfl, hmap, vocN_len] at hmo
  have hmm := mmerge_run (vocN n) hvl [t] (fun f hf => by rw [List.mem_singleton.1 hf]; exact hsm.1) (by simp) f (by omega) kind
  have he : mgE (vocN n) [t] f kind = 0 := by unfold mgE; rw [if_neg (by simp [hp]), gm5]
  unfold mgA at hmm
  rw [he, if_pos rfl, hmap, vocN_len] at hmm
  have hup := updateF_run hn6 (1#64 <<< w) gm2 gm5 1 rfl
  rw [union_one h64 hw] at hup
  have hne := nearestA_run (vocN n) (by rw [vocN_len]; omega) w (modelsS (vocN n) f) 1
  have hE : nearE (vocN n) w 1 = 0 := by
   unfold nearE
   rw [vocN_len, if_neg, if_neg (by decide)]
   rintro (h | h | h)
   · rw [hv] at h; cases h
   · omega
   · omega
  unfold nearA at hne
  rw [hE, if_pos rfl, vocN_len] at hne
  have hls1 : PO.eval (.mk 3 1) [.int .i64 t.op, .str t.name, .sl (F.encs t.args)] = some [.sl (F.encs [t])] := by simp [PO.eval, chunks, F.encs, F.enc_eq]
  refine ⟨_, _, _, mrgR (2 ^ n) [1#64 <<< w] kind, ho, by rw [(mrg_ord hn6 [1#64 <<< w] kind).rk.1]; omega, fun ls h => ?_, ⟨_, hls1⟩, mrg_one hn6 hw hk _, hup, hne⟩
  rw [hls1] at h
  cases h
  exact ⟨hmo, hmm⟩
 refine run_ir (x := ir0) rfl ?_
 by_cases c3 : modelsS (vocN n) f = 0#64
 · obtain ⟨w, q1, q2, kind, hw, hk, hN, hK⟩ := rest q3 hq3
   obtain ⟨a, b, c, rk, ho, hrk, hmg, ⟨ls, hls1⟩, hmx, hup, hne⟩ := fin w kind hw hk
   obtain ⟨g1, g2⟩ := hmg ls hls1
   have hls2 := hls rk hrk
   rw [hmx] at g2 hls2
   generalize modelsS (vocN n) f = m at *
   subst c3
   simp (disch := omega) only [ir0, ir0p2, ir0p1, ir0p0, stepQ, stepL, eq_self, aBin, reduceIte, Int.reduceEq, Int.reduceLT, Int.reduceLE, Int.reduceGT, Int.reduceGE, bvQ, wu, shl_norm, shr_norm, and1_norm, hn, hr, hvo, h3, hgr, hmd, hrv, hlsR, ibne, hN, ho, hK, hls1, g1, g2, hls2, hup, hne, aw, callQ_tvi]
 · obtain ⟨k2, q4, z1, z2, hq4, hk2⟩ := range_run 1 3 l q3 hl hq3 (by omega) (by omega) (by omega)
   have hkk : k2 = 1 ∨ k2 = 2 ∨ k2 = 3 := by omega
   have hex : ∃ u, u < 2 ^ n ∧ has (modelsS (vocN n) f) u := by
    refine Classical.byContradiction fun hno => c3 (set_zero.2 fun u hu => hno ⟨u, hsub u hu, hu⟩)
   have oX : Ord (vocN n) (2 ^ n) (nextS (vocN n) k2 R (modelsS (vocN n) f)) := ⟨some_ok hn6 (by simp [nxtPL, hlR]), next_rk oR.rk _ _ _⟩
   have hnx := nextP_run (vocN n) R f k2 hvl (by omega) (by omega)
   rw [if_pos (by unfold itE; rw [if_neg (by simp [oR.ok]), if_neg (by simp; omega), if_neg (by simp [gm5]), if_neg c3])] at hnx
   have hbl := beliefsO_run (vocN n) (nextS (vocN n) k2 R (modelsS (vocN n) f)) hvl (by rw [oX.rk.1]; omega)
   rw [show beliefsS (vocN n) (nextS (vocN n) k2 R (modelsS (vocN n) f)) = leastS (vocN n) R (modelsS (vocN n) f) from next_bel oR hkk oX hex] at hbl
   obtain ⟨w, q1, q2, kind, hw, hk, hN, hK⟩ := rest q4 hq4
   obtain ⟨a, b, c, rk, ho, hrk, hmg, ⟨ls, hls1⟩, hmx, hup, hne⟩ := fin w kind hw hk
   obtain ⟨g1, g2⟩ := hmg ls hls1
   have hls2 := hls rk hrk
   rw [hmx] at g2 hls2
   generalize nextS (vocN n) k2 R (modelsS (vocN n) f) = X at *
   generalize modelsS (vocN n) f = m at *
   simp (disch := omega) only [ir0, ir0p2, ir0p1, ir0p0, stepQ, stepL, eq_self, aBin, reduceIte, Int.reduceEq, Int.reduceLT, Int.reduceLE, Int.reduceGT, Int.reduceGE, bvQ, wu, shl_norm, shr_norm, and1_norm, hn, hr, hvo, h3, hgr, hmd, hrv, hlsR, ibne, c3, hk2, hnx, hbl, hN, ho, hK, hls1, g1, g2, hls2, hup, hne, aw, callQ_tvi]
end Go.Proofs.YtmjnhmeckloanaaGreatDoor
