/- What functions of the program compute: lemmas. -/
import Derived.Test.YtojkhlijbpmgpaaGreatSn1
import Derived.Test.YtojkhlijbpmgpaaGreatAm6
set_option linter.unusedSimpArgs false
set_option linter.unusedVariables false
set_option linter.unusedSectionVars false
namespace Go.Proofs.YtojkhlijbpmgpaaGreat
open Go Am
set_option maxRecDepth 100000
theorem up_has {names : List (List UInt8)} {N : Nat} {o : List Int} (h : Ord names N o) (k : Int) (w : Nat) : has (upS o k) w ↔ w < N ∧ o.getD w 0 ≤ k := by
 have hN : o.length = N := h.rk.1
 have h64 : o.length ≤ 64 := (orderE_len h.ok).1
 unfold has upS whereS
 rw [bitsTo_get _ _ _ h64, ← hN]
 by_cases hw : w < o.length
 · have g : o.getD w (-1) = o.getD w 0 := by simp [hw]
   have := (rk_get h.rk (w := w) (by omega)).1
   have h0 : o.getD w 0 ≥ 0 := this
   rw [g]
   simp only [hw, decide_true, Bool.true_and, Bool.and_eq_true, decide_eq_true_eq, true_and]
   exact ⟨fun x => x.2, fun x => ⟨h0, x⟩⟩
 · simp [hw]
theorem from_has {names : List (List UInt8)} {N : Nat} {o : List Int} (h : Ord names N o) (k : Int) (w : Nat) : has (fromS o k) w ↔ w < N ∧ k ≤ o.getD w 0 := by
 have hN : o.length = N := h.rk.1
 have h64 : o.length ≤ 64 := (orderE_len h.ok).1
 unfold has fromS whereS
 rw [bitsTo_get _ _ _ h64, ← hN]
 by_cases hw : w < o.length
 · have g : o.getD w (-1) = o.getD w 0 := by simp [hw]
   have hm : o.getD w 0 ≤ maxR o := by rw [gd hw]; exact maxF_mem o 0 _ (List.getElem_mem _)
   rw [g]
   simp only [hw, decide_true, Bool.true_and, Bool.and_eq_true, decide_eq_true_eq, true_and]
   omega
 · simp [hw]
theorem lev_has {names : List (List UInt8)} {N : Nat} {o : List Int} (h : Ord names N o) (k : Nat) (w : Nat) : has (levS o k o.length) w ↔ w < N ∧ o.getD w 0 = k := by
 have hN : o.length = N := h.rk.1
 have h64 : o.length ≤ 64 := (orderE_len h.ok).1
 unfold has levS
 rw [bitsTo_get _ _ _ h64, ← hN]
 by_cases hw : w < o.length
 · have g : o.getD w (-1) = o.getD w 0 := by simp [hw]
   rw [g]; simp [hw]
 · simp [hw]
theorem thy_full {n : Nat} (hn : n ≤ 6) {X : BitVec 64} (hX : ∀ w, has X w → w < 2 ^ n) : modelsE (vocN n) (thy (vocN n) X) = 0 ∧ modelsS (vocN n) (thy (vocN n) X) = X := by
 have := thy_models (vocN_ok hn) X
 rw [and_all hn hX] at this
 exact this
theorem rk_asc {n : Nat} (hn : n ≤ 6) {o : List Int} (h : Ord (vocN n) (2 ^ n) o) {w : Nat} (hw : w < 2 ^ n) : ∀ k : Nat, rkB (msO (vocN n) (ascS (vocN n) o k).reverse) w = if o.getD w 0 ≤ k then o.getD w 0 else k := by
 intro k
 induction k with
 | zero =>
  have := (rk_get h.rk hw).1
  simp only [ascS, List.range_zero, List.map_nil, List.reverse_nil, msO, rkB_nil]
  split <;> omega
 | succ k ih =>
  rw [ascS_succ, List.reverse_append]
  simp only [List.reverse_cons, List.reverse_nil, List.nil_append, List.cons_append, msO, List.map_cons]
  rw [rkB_cons, (thy_full hn fun v hv => ((up_has h _ _).1 hv).1).2]
  have hu := up_has h (k : Int) w
  unfold has at hu
  have ih : rkB ((ascS (vocN n) o k).reverse.map (modelsS (vocN n))) w = if o.getD w 0 ≤ k then o.getD w 0 else k := ih
  by_cases c : o.getD w 0 ≤ (k : Int)
  · rw [if_pos (hu.2 ⟨hw, c⟩), ih, if_pos c, if_pos (by omega)]
  · rw [if_neg (fun x => c (hu.1 x).2), List.length_map, List.length_reverse, ascS_len]
    split <;> omega
theorem maxR_n {n : Nat} (hn : n ≤ 6) {o : List Int} (h : Ord (vocN n) (2 ^ n) o) : maxR o < ((2 ^ n : Nat) : Int) := by
 have hN : o.length = 2 ^ n := h.rk.1
 have := maxR_lt (rkOk_in (orderE_zero h.ok).2.2) (orderE_len h.ok).2
 rw [hN] at this
 exact this
theorem rkR_self {n : Nat} (hn : n ≤ 6) {o : List Int} (h : Ord (vocN n) (2 ^ n) o) : rkR (vocN n) o = [strsD (vocN n), numsD o, .int .i64 0] := by
 have hN : o.length = 2 ^ n := h.rk.1
 obtain ⟨hv, hl, hr⟩ := orderE_zero h.ok
 unfold rkR
 have : normE (vocN n) o = true := by unfold normE; rw [hv, hl]; simp
 rw [if_pos this, norm_valid hr]
theorem back_strata {n : Nat} (hn : n ≤ 4) {o : List Int} (h : Ord (vocN n) (2 ^ n) o) : rankR (vocN n) (stS (vocN n) o) = [strsD (vocN n), numsD o, .int .i64 0] := by
 have hn6 : n ≤ 6 := by omega
 have hp : 2 ^ n ≤ 2 ^ 4 := Nat.pow_le_pow_right (by omega) hn
 have hmx := maxR_n hn6 h
 have hge := maxR_ge o
 have hN : o.length = 2 ^ n := h.rk.1
 have hsl : (stS (vocN n) o).length = (maxR o).toNat := by unfold stS; rw [List.length_reverse, ascS_len]
 have he : strE (vocN n) (stS (vocN n) o) = 0 := by
  unfold strE
  rw [vocN_ok hn6, if_neg (by simp), if_neg (by rw [hsl]; omega), fstE_zero]
  intro f hf
  unfold stS ascS at hf
  rw [List.mem_reverse, List.mem_map] at hf
  obtain ⟨j, _, rfl⟩ := hf
  exact (thy_full hn6 fun v hv => ((up_has h _ _).1 hv).1).1
 unfold rankR
 rw [if_pos he]
 have hl : rkL (msO (vocN n) (stS (vocN n) o)) (2 ^ (vocN n).length) = o := by
  rw [vocN_len]
  refine List.ext_getElem (by rw [rkL_len, hN]) fun w h1 h2 => ?_
  have hw : w < 2 ^ n := by omega
  have := rk_asc hn6 h hw (maxR o).toNat
  have hm : o.getD w 0 ≤ maxR o := by rw [gd h2]; exact maxF_mem o 0 _ (List.getElem_mem _)
  rw [if_pos (by omega)] at this
  simp only [rkL, List.getElem_map, List.getElem_range]
  rw [← gd h2]
  exact this
 rw [hl, rkR_self hn6 h]
def outK (M k : Nat) : List Int := (List.range M).map fun i => if i < k then (i : Int) else -1
theorem outK_get {M k i : Nat} (h : i < M) : (outK M k).getD i 0 = if i < k then (i : Int) else -1 := by
 rw [List.getD_eq_getElem?_getD]; simp [outK, List.getElem?_map, List.getElem?_range h]
def prK (o : List Int) (M : Nat) : List PP := (List.range M).map fun k => (levS o k o.length, fromS o ((k + 1 : Nat) : Int))
theorem prK_len (o : List Int) (M : Nat) : (prK o M).length = M := by simp [prK]
theorem prK_get {o : List Int} {M i : Nat} (h : i < M) : (prK o M).getD i (0#64, 0#64) = (levS o i o.length, fromS o ((i + 1 : Nat) : Int)) := by
 rw [List.getD_eq_getElem?_getD]; simp [prK, List.getElem?_map, List.getElem?_range h]
theorem prs_cds {n : Nat} (hn : n ≤ 6) {o : List Int} (h : Ord (vocN n) (2 ^ n) o) (M : Nat) : prsS (vocN n) (cdS (vocN n) o M) = prK o M := by
 unfold prsS cdS prK
 rw [List.map_map]
 refine List.map_congr_left fun k _ => ?_
 show prS (vocN n) (cdF (vocN n) o k) = _
 unfold prS cdF
 have a1 := (thy_full hn (X := fromS o (k : Int)) fun v hv => ((from_has h _ _).1 hv).1).2
 have a2 := (thy_full hn (X := levS o k o.length) fun v hv => ((lev_has h _ _).1 hv).1).2
 simp only
 rw [a1, a2]
 refine Prod.ext (set_eq fun w => ?_) (fromS_step o (orderE_len h.ok).1 k)
 rw [has_and, from_has h, lev_has h]
 constructor
 · exact fun x => x.2
 · exact fun x => ⟨⟨x.1, by omega⟩, x⟩
theorem bad_K {names : List (List UInt8)} {N : Nat} {o : List Int} (h : Ord names N o) {M k : Nat} (hk : k < M) : ∀ i, i ≤ M → badF (prK o M) (outK M k) i = if i ≤ k then 0#64 else fromS o ((k + 1 : Nat) : Int)
 | 0, _ => by rw [if_pos (by omega)]; rfl
 | i + 1, hi => by
  rw [badF_succ, outK_get (by omega), prK_get (by omega), bad_K h hk i (by omega)]
  by_cases c : i < k
  · rw [if_pos c, if_neg (by omega), if_pos (by omega), if_pos (by omega)]
  · rw [if_neg c, if_pos (by omega), if_neg (by omega : ¬ i + 1 ≤ k)]
    refine set_eq fun w => ?_
    rw [has_or]
    simp only [from_has h]
    by_cases e : i = k
    · subst e
      rw [if_pos (Nat.le_refl _)]
      simp [has]
    · rw [if_neg (by omega), from_has h]
      constructor
      · rintro (x | x)
        · exact x
        · exact ⟨x.1, by have := x.2; omega⟩
      · exact fun x => .inl x
theorem lev_ex {names : List (List UInt8)} {N : Nat} {o : List Int} (h : Ord names N o) {k : Nat} (hk : (k : Int) < maxR o) : ∃ w, w < N ∧ o.getD w 0 = k := by
 obtain ⟨_, _, hr⟩ := orderE_zero h.ok
 unfold rkOk at hr
 rw [Bool.and_eq_true] at hr
 have := List.all_eq_true.1 hr.2 k (List.mem_range.2 (by omega))
 have hm : (k : Int) ∈ o := by simpa using this
 obtain ⟨w, hw, he⟩ := List.getElem_of_mem hm
 exact ⟨w, by rw [← h.rk.1]; exact hw, by rw [gd hw]; exact he⟩
theorem ly_K {names : List (List UInt8)} {N : Nat} {o : List Int} (h : Ord names N o) {M k v : Nat} (hM : (M : Int) = maxR o) (hk : k < M) (hv : v < M) : lyAt (prK o M) (outK M k) (fromS o ((k + 1 : Nat) : Int)) v ↔ v = k := by
 unfold lyAt
 rw [outK_get hv, prK_get hv]
 constructor
 · rintro ⟨h1, h2⟩
   by_cases c : v < k
   · rw [if_pos c] at h1; omega
   · refine Classical.byContradiction fun hne => h2 (set_zero.2 fun w hw => ?_)
     rw [has_diff, lev_has h, from_has h] at hw
     exact hw.2 ⟨hw.1.1, by omega⟩
 · rintro rfl
   refine ⟨by rw [if_neg (by omega)]; decide, fun hz => ?_⟩
   obtain ⟨w, hw, he⟩ := lev_ex h (k := v) (by omega)
   refine set_zero.1 hz w (has_diff.2 ⟨(lev_has h _ _).2 ⟨hw, he⟩, fun hf => ?_⟩)
   have := ((from_has h _ _).1 hf).2
   omega
theorem fnd_at {p : List PP} {out : List Int} {bad : BitVec 64} {k : Nat} (hk : lyAt p out bad k) : ∀ n, k < n → fndF p out bad n = true
 | 0, h => by omega
 | n + 1, h => by
  rw [fndF_succ]
  by_cases c : lyAt p out bad n
  · rw [if_pos c]
  · rw [if_neg c]
    exact fnd_at hk n (by have : k ≠ n := fun e => c (e ▸ hk); omega)
theorem lay_K {names : List (List UInt8)} {N : Nat} {o : List Int} (h : Ord names N o) {M : Nat} (hM : (M : Int) = maxR o) : ∀ n k, n + k = M + 1 → 0 < n → layF (prK o M) n k (outK M k) = some (outK M M)
 | 0, k, _, h0 => by omega
 | n + 1, k, hn, _ => by
  rw [layF_succ, prK_len]
  by_cases hk : k = M
  · subst hk
    rw [if_pos]
    refine (doneF_iff _ _).2 fun i hi => ?_
    rw [outK_get hi, if_pos hi]; omega
  · have hkM : k < M := by omega
    rw [if_neg (fun hd => by
     have := (doneF_iff _ _).1 hd k hkM
     rw [outK_get hkM, if_neg (by omega)] at this
     omega), bad_K h hkM M (Nat.le_refl _), if_neg (by omega : ¬ M ≤ k)]
    rw [if_pos (fnd_at ((ly_K h hM hkM hkM).2 rfl) M hkM)]
    have hmk : mkS (prK o M) (outK M k) (fromS o ((k + 1 : Nat) : Int)) k = outK M (k + 1) := by
     unfold mkS outK
     rw [prK_len]
     refine List.map_congr_left fun v hv => ?_
     have hv := List.mem_range.1 hv
     show mkF (prK o M) (outK M k) (fromS o ((k + 1 : Nat) : Int)) k v = _
     unfold mkF
     by_cases e : v = k
     · rw [if_pos ((ly_K h hM hkM hv).2 e), if_pos (by omega), e]
     · rw [if_neg (fun x => e ((ly_K h hM hkM hv).1 x)), outK_get hv]
       by_cases c : v < k
       · rw [if_pos c, if_pos (by omega)]
       · rw [if_neg c, if_neg (by omega)]
    rw [hmk]
    exact lay_K h hM n (k + 1) (by omega) (by omega)
theorem z_K {names : List (List UInt8)} {N : Nat} {o : List Int} (h : Ord names N o) {M w : Nat} (hw : w < N) : ∀ i, i ≤ M → zF (prK o M) (outK M M) w i = if o.getD w 0 ≤ i then o.getD w 0 else i
 | 0, _ => by
  have := (rk_get h.rk hw).1
  show (0 : Int) = _
  split <;> omega
 | i + 1, hi => by
  have hat : (if i < M then (i : Int) else -1) = i := if_pos (by omega)
  rw [zF_succ, prK_get (by omega), outK_get (by omega), hat, z_K h hw i (by omega)]
  simp only
  have hf := from_has h ((i + 1 : Nat) : Int) w
  unfold has at hf
  by_cases c : ((i + 1 : Nat) : Int) ≤ o.getD w 0
  · rw [if_pos (hf.2 ⟨hw, c⟩), if_neg (by omega : ¬ o.getD w 0 ≤ (i : Int))]
    unfold max1
    rw [if_pos (by omega)]
    split <;> omega
  · rw [if_neg (fun x => c (hf.1 x).2), if_pos (by omega : o.getD w 0 ≤ (i : Int)), if_pos (by omega : o.getD w 0 ≤ ((i + 1 : Nat) : Int))]
theorem cE_zero {names : List (List UInt8)} : ∀ {l : List CF}, (∀ c ∈ l, fstE names [c.1, c.2] = 0) → cE names l = 0
 | [], _ => rfl
 | c :: l, h => by rw [cE_cons, if_pos (h c (by simp)), cE_zero fun c hc => h c (by simp [hc])]
theorem back_conds {n : Nat} (hn : n ≤ 4) {o : List Int} (h : Ord (vocN n) (2 ^ n) o) : zR (vocN n) (cdS (vocN n) o (maxR o).toNat) = [strsD (vocN n), numsD o, .int .i64 0] := by
 have hn6 : n ≤ 6 := by omega
 have hp : 2 ^ n ≤ 2 ^ 4 := Nat.pow_le_pow_right (by omega) hn
 have hmx := maxR_n hn6 h
 have hge := maxR_ge o
 have hN : o.length = 2 ^ n := h.rk.1
 obtain ⟨M, hM⟩ := Int.eq_ofNat_of_zero_le hge
 have hMt : (maxR o).toNat = M := by omega
 rw [hMt]
 have he : prE (vocN n) (cdS (vocN n) o M) = 0 := by
  unfold prE
  rw [vocN_ok hn6, if_neg (by simp), if_neg (by rw [cdS_len]; omega)]
  refine cE_zero fun c hc => ?_
  unfold cdS at hc
  obtain ⟨k, _, rfl⟩ := List.mem_map.1 hc
  rw [fstE_zero]
  intro f hf
  unfold cdF at hf
  simp only [List.mem_cons, List.not_mem_nil, or_false] at hf
  rcases hf with rfl | rfl
  · exact (thy_full hn6 fun v hv => ((from_has h _ _).1 hv).1).1
  · exact (thy_full hn6 fun v hv => ((lev_has h _ _).1 hv).1).1
 have hl : layS (prK o M) = some (outK M M) := by
  unfold layS
  rw [prK_len]
  have : List.replicate M (-1 : Int) = outK M 0 := List.ext_getElem (by simp [outK]) fun i h1 h2 => by simp [outK]
  rw [this]
  exact lay_K h hM.symm (M + 1) 0 (by omega) (by omega)
 unfold zR
 rw [if_pos he, prs_cds hn6 h, hl]
 simp only
 have hz : zL (prK o M) (outK M M) (2 ^ (vocN n).length) = o := by
  rw [vocN_len]
  refine List.ext_getElem (by rw [zL_len, hN]) fun w h1 h2 => ?_
  have hw : w < 2 ^ n := by omega
  have hm : o.getD w 0 ≤ maxR o := by rw [gd h2]; exact maxF_mem o 0 _ (List.getElem_mem _)
  have := z_K h hw M (Nat.le_refl _)
  rw [if_pos (by omega)] at this
  simp only [zL, List.getElem_map, List.getElem_range, prK_len]
  rw [← gd h2]
  exact this
 rw [hz, rkR_self hn6 h]
theorem deg_one {n : Nat} {o : List Int} (h : Ord (vocN n) (2 ^ n) o) {w : Nat} (hw : w < 2 ^ n) {X : BitVec 64} (hX : ∀ v, has X v ↔ v < 2 ^ n ∧ v ≠ w) : degS o X = o.getD w 0 := by
 have hN : o.length = 2 ^ n := h.rk.1
 have hm : o.getD w 0 ≤ maxR o := by rw [gd (by omega)]; exact maxF_mem o 0 _ (List.getElem_mem _)
 refine deg_ext fun x => ⟨fun hx => ⟨by omega, fun v hv hn => ?_⟩, fun hx => hx.2 w (by omega) fun c => ((hX w).1 c).2 rfl⟩
 have : v = w := Classical.byContradiction fun e => hn ((hX v).2 ⟨by omega, e⟩)
 rw [this]; exact hx
end Go.Proofs.YtojkhlijbpmgpaaGreat

namespace Go.Proofs.YtojkhlijbpmgpaaGreat
open Go Am
set_option maxRecDepth 100000
theorem back32_run (l0 : List Int) : run tb 4 [numsD l0] = some [.bool true] := by
 have aw := awake32_run
 obtain ⟨l, hl, hn⟩ := new_run l0
 obtain ⟨r, p, r1, r2, hp, hr⟩ := range_run 0 4 l 0 hl (by omega) (by omega) (by omega) (by omega)
 obtain ⟨n, rfl⟩ := Int.eq_ofNat_of_zero_le (show 0 ≤ r by omega)
 have hr : run tb 6 [.int .i64 0, .int .i64 4, numsD l, .int .i64 0] = some [.int .i64 n, numsD l, .int .i64 p] := hr
 have hn4 : n ≤ 4 := by omega
 have hn6 : n ≤ 6 := by omega
 obtain ⟨rs, p1, hrs, hp1, hso⟩ := some_run n hn6 l p hl hp
 have hv := vocN_ok hn6
 have hvl : (vocN n).length < 1000000000 := by rw [vocN_len]; omega
 have hvs : ∀ s ∈ vocN n, s.length < 9223372036854775808 := fun s hs => by rw [vocN_short s hs]; omega
 have h64 := pow6 hn6
 have oR : Ord (vocN n) (2 ^ n) (normS rs) := ⟨some_ok hn6 hrs, by have := rk_norm rs; rw [hrs] at this; exact this⟩
 generalize normS rs = o at *
 have hlo : o.length = 2 ^ n := oR.rk.1
 have b1 := strataP_run (vocN n) o hvl (by omega)
 unfold stR at b1
 rw [if_pos oR.ok] at b1
 have hfs : ∀ f ∈ stS (vocN n) o, f.size < 1000000000 := fun f hf => by
  unfold stS ascS at hf
  rw [List.mem_reverse, List.mem_map] at hf
  obtain ⟨j, _, rfl⟩ := hf
  exact (thy_small hn6 _).1
 have hmx := maxR_n hn6 oR
 have hge := maxR_ge o
 have b2 := rankP_run (vocN n) hvl (stS (vocN n) o) hfs (by unfold stS; rw [List.length_reverse, ascS_len]; omega)
 rw [back_strata hn4 oR] at b2
 have b3 := condsP_run (vocN n) o hvl (by omega)
 unfold cdR at b3
 rw [if_pos oR.ok] at b3
 have hcs : ∀ c ∈ cdS (vocN n) o (maxR o).toNat, c.1.size < 1000000000 ∧ c.2.size < 1000000000 := fun c hc => by
  unfold cdS at hc
  obtain ⟨k, _, rfl⟩ := List.mem_map.1 hc
  exact ⟨(thy_small hn6 _).1, (thy_small hn6 _).1⟩
 have b4 := zP_run (vocN n) hvl (cdS (vocN n) o (maxR o).toNat) hcs (by rw [cdS_len]; omega)
 rw [back_conds hn4 oR] at b4
 have hsm := sameR_run (vocN n) hvl o (by omega)
 have hal := all3_run (vocN n) hvl hvs
 refine run_ir (x := ir4) rfl ?_
 simp (disch := omega) only [ir4, ir4p2, stepQ, stepL, eq_self, aBin, reduceIte, Int.reduceEq, Int.reduceLT, Int.reduceLE, Int.reduceGT, Int.reduceGE, hn, hr, hso, b1, b2, b3, b4, ibne, hsm, callQ_tb]
 refine loop_k (σ := Unit) o.length (fun _ _ => True) (fun i _ => [.int .i64 i]) (fun _ _ => [.bool true]) ?_ ?_ 0 () (Nat.zero_le _) trivial
 · rintro w _ L hw _ hL
   have hnext := hL () trivial
   have hth := theoryR_run (vocN n) hvl hvs (allS (vocN n) &&& ~~~(1#64 <<< w))
   have hX : ∀ v, has (allS (vocN n) &&& ~~~(1#64 <<< w)) v ↔ v < 2 ^ n ∧ v ≠ w := fun v => by
    rw [has_diff]
    unfold allS
    have h1 : has (1#64 <<< w) v ↔ v = w := by rw [has, one_shl_get _ _ (by omega), decide_eq_true_eq]
    rw [if_pos hv, has_bits (pow6 (vocOk_len hv)), vocN_len, h1]
    simp
   have hd := deg_one oR (w := w) (by omega) hX
   have htf := thy_full hn6 (X := allS (vocN n) &&& ~~~(1#64 <<< w)) fun v hv => ((hX v).1 hv).1
   unfold thyE at hth
   rw [if_pos hv] at hth
   have hts := thy_small hn6 (allS (vocN n) &&& ~~~(1#64 <<< w))
   generalize thy (vocN n) (allS (vocN n) &&& ~~~(1#64 <<< w)) = x at *
   simp only [rowF, List.cons_append, List.nil_append] at hth
   have hdg := degree_run (vocN n) o x hvl (by omega) hts.1
   rw [if_pos (by unfold degE; rw [if_neg (by simp [oR.ok]), htf.1]), htf.2, hd, gd hw] at hdg
   simp (disch := omega) only [ir4p1, ir4p0, stepQ, stepL, eq_self, aBin, reduceIte, Int.reduceEq, Int.reduceLT, Int.reduceLE, Int.reduceGT, Int.reduceGE, bvQ, wu, shl_norm, shr_norm, and1_norm, len_N, hw, hal, hth, hdg, row_N, ibne, wr, natS, hnext]
 · rintro _ L _
   simp (disch := omega) only [ir4p1, stepQ, stepL, eq_self, aBin, reduceIte, Int.reduceEq, Int.reduceLT, Int.reduceLE, Int.reduceGT, Int.reduceGE, len_N, Nat.lt_irrefl, aw, callQ_tb]
end Go.Proofs.YtojkhlijbpmgpaaGreat
