/- What functions of the program compute: lemmas. -/
import Derived.Test.YtojkhlijbpmgpaaGreatSr7
import Derived.Test.YtojkhlijbpmgpaaGreatAm6
import Derived.Test.YtojkhlijbpmgpaaGreatSt
set_option linter.unusedSimpArgs false
set_option linter.unusedVariables false
set_option linter.unusedSectionVars false
namespace Go.Proofs.YtojkhlijbpmgpaaGreat
open Go Am
set_option maxRecDepth 100000
end Go.Proofs.YtojkhlijbpmgpaaGreat

namespace Go.Proofs.YtojkhlijbpmgpaaGreat
open Go Am
set_option maxRecDepth 100000
theorem cE_zero {names : List (List UInt8)} : ∀ {l : List CF}, (∀ c ∈ l, fstE names [c.1, c.2] = 0) → cE names l = 0
 | [], _ => rfl
 | c :: l, h => by rw [cE_cons, if_pos (h c (by simp)), cE_zero fun c hc => h c (by simp [hc])]
end Go.Proofs.YtojkhlijbpmgpaaGreat

namespace Go.Proofs.YtojkhlijbpmgpaaGreat
open Go Am
set_option maxRecDepth 100000
def MadeC (n : Nat) (c : CF) : Prop := Made n 2 c.1 ∧ Made n 2 c.2
theorem condsC_run (most n : Nat) (hm : most < 1000) (h1 : 1 ≤ n) (h2 : n ≤ 26) (l : List Int) (hl : l.length ≤ 2000) (p : Nat) (hp : p ≤ l.length) :
 ∃ (cs : List CF) (b : Nat), b ≤ l.length ∧ cs.length ≤ most ∧ (∀ c ∈ cs, MadeC n c) ∧ run tb 3 [.int .i64 most, .int .i64 n, numsD l, .int .i64 p] = some [condsD cs, numsD l, .int .i64 b] := by
 obtain ⟨c, b0, c0, c1, hb0, hc⟩ := n_run ((most + 1 : Nat) : Int) l p hl hp (by omega) (by omega)
 obtain ⟨c, rfl⟩ := Int.eq_ofNat_of_zero_le c0
 have key := loop_kx (run := run tb) (body := ir3p0) (e := [.int .i64 most, .int .i64 n, numsD l, .int .i64 p, .int .i64 ((most + 1 : Nat) : Int), .int .i64 c, numsD l, .int .i64 b0]) (J := []) (σ := Nat × List CF) c
  (fun j s => s.1 ≤ l.length ∧ s.2.length = j ∧ ∀ f ∈ s.2, MadeC n f) (fun j s => [.int .i64 ((c - j : Nat) : Int), numsD l, .int .i64 s.1, condsD s.2]) (fun r => ∃ (fs : List CF) (b : Nat), b ≤ l.length ∧ fs.length ≤ most ∧ (∀ f ∈ fs, MadeC n f) ∧ r = [condsD fs, numsD l, .int .i64 b])
  (by
   rintro j ⟨q, fs⟩ L hj ⟨hq, hfl, hfs⟩ hL
   simp only at hq hfl hfs
   obtain ⟨f, q', hq', hf, hr⟩ := formula_run n h1 h2 l hl 2 (by omega) q hq
   have hr : run tb 12 [.int .i64 n, .int .i64 2, numsD l, .int .i64 q] = some [.int .i64 f.op, .str f.name, .sl (F.encs f.args), numsD l, .int .i64 q'] := hr
   obtain ⟨g, q2, hq2, hg, hr2⟩ := formula_run n h1 h2 l hl 2 (by omega) q' hq'
   have hr2 : run tb 12 [.int .i64 n, .int .i64 2, numsD l, .int .i64 q'] = some [.int .i64 g.op, .str g.name, .sl (F.encs g.args), numsD l, .int .i64 q2] := hr2
   obtain ⟨r, hr1, hpost⟩ := hL (q2, fs ++ [(f, g)]) ⟨hq2, by simp [hfl], fun x hx => by
    rcases List.mem_append.1 hx with hx | hx
    · exact hfs x hx
    · rw [List.mem_singleton.1 hx]; exact ⟨hf, hg⟩⟩
   refine ⟨r, ?_, hpost⟩
   simp only at hr1
   have hgt : ((c - j : Nat) : Int) > 0 := by omega
   have hsub : IntKind.i64.wrap (((c - j : Nat) : Int) - 1) = ((c - (j + 1) : Nat) : Int) := by rw [wr (by omega) (by omega)]; omega
   have hap := app_C (l := fs) (c := (f, g)) (by omega)
   unfold rowC at hap
   simp only at hap
   simp (disch := omega) only [ir3p0, stepQ, stepL, eq_self, aBin, reduceIte, Int.reduceEq, Int.reduceLT, Int.reduceLE, Int.reduceGT, Int.reduceGE, hgt, hr, hr2, ev_mk61, hap, hsub, hr1])
  (by
   rintro ⟨q, fs⟩ L ⟨hq, hfl, hfs⟩
   simp only at hq hfl hfs
   refine ⟨_, ?_, fs, q, hq, by omega, hfs, rfl⟩
   have hgt : ¬ ((c - c : Nat) : Int) > 0 := by omega
   simp (disch := omega) only [ir3p0, stepQ, stepL, eq_self, aBin, reduceIte, Int.reduceEq, Int.reduceLT, Int.reduceLE, Int.reduceGT, Int.reduceGE, hgt])
 obtain ⟨r, hr, fs, b, k1, k2, k3, rfl⟩ := key 0 (b0, []) (Nat.zero_le _) ⟨hb0, rfl, by simp⟩
 refine ⟨fs, b, k1, k2, k3, run_ir (x := ir3) rfl ?_⟩
 simp only [Nat.sub_zero] at hr
 simp (disch := omega) only [ir3, stepQ, stepL, eq_self, aBin, reduceIte, Int.reduceEq, Int.reduceLT, Int.reduceLE, Int.reduceGT, Int.reduceGE, wr, natS, hc]
 exact hr
def allB (f : Nat → Bool) : Nat → Bool
 | 0 => true
 | i + 1 => allB f i && f i
theorem allB_iff (f : Nat → Bool) : ∀ n, allB f n = true ↔ ∀ i, i < n → f i = true
 | 0 => by simp [allB]
 | n + 1 => by
  simp only [allB, Bool.and_eq_true, allB_iff f n]
  constructor
  · rintro ⟨h1, h2⟩ i hi
    by_cases e : i = n
    · subst e; exact h2
    · exact h1 i (by omega)
  · exact fun h => ⟨fun i hi => h i (by omega), h n (by omega)⟩
theorem madeC_ok {n : Nat} (hn : n ≤ 6) {c : CF} (h : MadeC n c) : (modelsE (vocN n) c.1 = 0 ∧ modelsE (vocN n) c.2 = 0) ∧ (c.1.size < 1000000000 ∧ c.2.size < 1000000000) ∧ (F.allF nameB c.1 = true ∧ F.allF nameB c.2 = true) ∧ ∀ w, has (modelsS (vocN n) c.1) w → w < 2 ^ n := by
 obtain ⟨a1, a2, _, _, a5, a6⟩ := made_models hn (by omega) h.1
 obtain ⟨b1, b2, _, _, b5, b6⟩ := made_models hn (by omega) h.2
 refine ⟨⟨a5, b5⟩, ⟨by omega, by omega⟩, ⟨good_nameB a1, good_nameB b1⟩, fun w hw => ?_⟩
 rw [a6] at hw
 have := (has_modN (voc := vocN n) (f := c.1) (w := w) (by rw [vocN_len]; exact hn))
 rw [vocN_len] at this
 exact (this.1 hw).1
theorem prE_made {n : Nat} (hn : n ≤ 6) {cs : List CF} (h : ∀ c ∈ cs, MadeC n c) (hl : cs.length ≤ 64) : prE (vocN n) cs = 0 := by
 unfold prE
 rw [vocN_ok hn, if_neg (by simp), if_neg (by omega)]
 refine cE_zero fun c hc => ?_
 have := (madeC_ok hn (h c hc)).1
 rw [fstE_two, if_pos this.1, this.2]
theorem prs_get {names : List (List UInt8)} {cs : List CF} {i : Nat} (h : i < cs.length) : (prsS names cs).getD i (0#64, 0#64) = prS names cs[i] := by
 rw [List.getD_eq_getElem?_getD]; simp [prsS, h]
theorem z_accepts {n : Nat} (hn : n ≤ 6) {cs : List CF} (h : ∀ c ∈ cs, MadeC n c) {o : List Int} (hl : layS (prsS (vocN n) cs) = some o) {z : List Int} (hz : z = normS (zL (prsS (vocN n) cs) o (2 ^ n))) (hO : Ord (vocN n) (2 ^ n) z) {i : Nat} (hi : i < cs.length) : accS (vocN n) z cs[i].1 cs[i].2 = true := by
 unfold accS
 rw [decide_eq_true_eq, set_sub]
 intro w hw
 obtain ⟨h1, h2, h3⟩ := (hO.least _ w).1 hw
 refine Classical.byContradiction fun hb => ?_
 have hpl : (prsS (vocN n) cs).length = cs.length := by simp [prsS]
 obtain ⟨v, hv, hy, hlt⟩ := z_acc hl (fun j hj v hv => by
  have hj' : j < cs.length := by omega
  unfold yesP at hv
  rw [prs_get hj'] at hv
  exact (madeC_ok hn (h _ (List.getElem_mem hj'))).2.2.2 v (has_and.1 hv).1) i (by omega)
 unfold yesP at hy
 rw [prs_get hi] at hy
 have hf := hlt w (by
  unfold noP
  rw [prs_get hi]
  exact has_diff.2 ⟨h2, hb⟩)
 have hzl := zL_len (prsS (vocN n) cs) o (2 ^ n)
 have := (norm_lt (l := zL (prsS (vocN n) cs) o (2 ^ n)) (v := v) (w := w) (by omega) (by omega)).2 (by simpa [zL] using hf)
 refine h3 v hv (has_and.1 hy).1 ?_
 rw [hz, gd (by rw [norm_len]; omega), gd (by rw [norm_len]; omega)]
 exact this
theorem acc_of {n : Nat} {cs : List CF} {T : List Int} (hT : Ord (vocN n) (2 ^ n) T) (hacc : ∀ i (hi : i < cs.length), accS (vocN n) T cs[i].1 cs[i].2 = true) : Acc (prsS (vocN n) cs) (2 ^ n) T := by
 intro i hi w hw hf
 have hi' : i < cs.length := by simpa [prsS] using hi
 unfold noP at hf
 rw [prs_get hi'] at hf
 have ha := hacc i hi'
 unfold accS at ha
 rw [decide_eq_true_eq] at ha
 obtain ⟨v, h1, h2, h3, h4⟩ := acc_ex hT ha hw (has_diff.1 hf).1 (has_diff.1 hf).2
 refine ⟨v, h1, ?_, h4⟩
 unfold yesP
 rw [prs_get hi']
 exact has_and.2 ⟨h2, h3⟩
theorem z_least {n : Nat} {cs : List CF} {o T : List Int} (hl : layS (prsS (vocN n) cs) = some o) (hT : Ord (vocN n) (2 ^ n) T) (hacc : ∀ i (hi : i < cs.length), accS (vocN n) T cs[i].1 cs[i].2 = true) {w : Nat} (hw : w < 2 ^ n) : (normS (zL (prsS (vocN n) cs) o (2 ^ n))).getD w 0 ≤ T.getD w 0 := by
 have hzl := zL_len (prsS (vocN n) cs) o (2 ^ n)
 have hu := z_under (fun w hw => (rk_get hT.rk hw).1) (acc_of hT hacc) hl hw
 rw [gd (by rw [norm_len]; omega), norm_get (by omega)]
 have h0 : ∀ x ∈ zL (prsS (vocN n) cs) o (2 ^ n), 0 ≤ x := fun x hx => by
  unfold zL at hx
  obtain ⟨v, _, rfl⟩ := List.mem_map.1 hx
  exact ((z_le _).1 (Int.le_refl _)).1
 have := norm_under h0 (r := (zL (prsS (vocN n) cs) o (2 ^ n))[w]'(by omega)) (h0 _ (List.getElem_mem _))
 have e : (zL (prsS (vocN n) cs) o (2 ^ n))[w]'(by omega) = zF (prsS (vocN n) cs) o w (prsS (vocN n) cs).length := by simp [zL]
 rw [e] at this ⊢
 omega
theorem z_none {n : Nat} {cs : List CF} {T : List Int} (hl : layS (prsS (vocN n) cs) = none) (hT : Ord (vocN n) (2 ^ n) T) (hacc : ∀ i (hi : i < cs.length), accS (vocN n) T cs[i].1 cs[i].2 = true) (hs : ∀ i (hi : i < cs.length), ∃ v, v < 2 ^ n ∧ has (modelsS (vocN n) cs[i].1) v) : False := by
 refine no_acc (fun w hw => (rk_get hT.rk hw).1) (acc_of hT hacc) hl fun i hi => ?_
 have hi' : i < cs.length := by simpa [prsS] using hi
 obtain ⟨v, hv, ha⟩ := hs i hi'
 have hc := hacc i hi'
 unfold accS at hc
 rw [decide_eq_true_eq] at hc
 obtain ⟨u, hu⟩ := hT.ex hv ha
 obtain ⟨h1, h2, _⟩ := (hT.least _ u).1 hu
 refine ⟨u, h1, ?_⟩
 unfold yesP
 rw [prs_get hi']
 exact has_and.2 ⟨h2, set_sub.1 hc u hu⟩
end Go.Proofs.YtojkhlijbpmgpaaGreat

namespace Go.Proofs.YtojkhlijbpmgpaaGreat
open Go Am
set_option maxRecDepth 100000
theorem least32_run (l0 : List Int) : run tb 0 [numsD l0] = some [.bool true] := by
 have aw := awake32_run
 obtain ⟨l, hl, hn⟩ := new_run l0
 obtain ⟨r, p, r1, r2, hp, hr⟩ := range_run 1 3 l 0 hl (by omega) (by omega) (by omega) (by omega)
 obtain ⟨n, rfl⟩ := Int.eq_ofNat_of_zero_le (show 0 ≤ r by omega)
 have hr : run tb 2 [.int .i64 1, .int .i64 3, numsD l, .int .i64 0] = some [.int .i64 n, numsD l, .int .i64 p] := hr
 have hn6 : n ≤ 6 := by omega
 obtain ⟨cs, p1, hp1, hcl, hcs, hcr⟩ := condsC_run 3 n (by omega) (by omega) (by omega) l hl p hp
 have hcr : run tb 3 [.int .i64 3, .int .i64 n, numsD l, .int .i64 p] = some [condsD cs, numsD l, .int .i64 p1] := hcr
 obtain ⟨rs, p2, hrs, hp2, hso⟩ := some_run n hn6 l p1 hl hp1
 have hv := vocN_ok hn6
 have hvl : (vocN n).length < 1000000000 := by rw [vocN_len]; omega
 have hvs : ∀ s ∈ vocN n, s.length < 9223372036854775808 := fun s hs => by rw [vocN_short s hs]; omega
 have h64 := pow6 hn6
 have oR : Ord (vocN n) (2 ^ n) (normS rs) := ⟨some_ok hn6 hrs, by have := rk_norm rs; rw [hrs] at this; exact this⟩
 generalize normS rs = T at *
 have hlT : T.length = 2 ^ n := oR.rk.1
 have hvo := voc_run n (by omega)
 have hcz : ∀ c ∈ cs, c.1.size < 1000000000 ∧ c.2.size < 1000000000 := fun c hc => (madeC_ok hn6 (hcs c hc)).2.1
 have hz := zP_run (vocN n) hvl cs hcz (by omega)
 have hpe := prE_made hn6 hcs (by omega)
 unfold zR at hz
 rw [if_pos hpe, vocN_len] at hz
 obtain ⟨fa, hfa⟩ : ∃ fa : Nat → Bool, fa = fun i => if h : i < cs.length then accS (vocN n) T cs[i].1 cs[i].2 else true := ⟨_, rfl⟩
 obtain ⟨fs, hfs⟩ : ∃ fs : Nat → Bool, fs = fun i => if h : i < cs.length then decide (modelsS (vocN n) cs[i].1 ≠ 0#64) else true := ⟨_, rfl⟩
 have hacc : allB fa cs.length = true → ∀ i (hi : i < cs.length), accS (vocN n) T cs[i].1 cs[i].2 = true := fun h i hi => by
  have := (allB_iff _ _).1 h i hi
  rw [hfa] at this
  simpa [hi] using this
 have hsnd : allB fs cs.length = true → ∀ i (hi : i < cs.length), ∃ v, v < 2 ^ n ∧ has (modelsS (vocN n) cs[i].1) v := fun h i hi => by
  have := (allB_iff _ _).1 h i hi
  rw [hfs] at this
  simp only [hi, dite_true, ne_eq, decide_eq_true_eq] at this
  obtain ⟨v, hv⟩ : ∃ v, has (modelsS (vocN n) cs[i].1) v := Classical.byContradiction fun hc => this (set_zero.2 fun v hv => hc ⟨v, hv⟩)
  exact ⟨v, (madeC_ok hn6 (hcs _ (List.getElem_mem hi))).2.2.2 v hv, hv⟩
 have hci : ∀ i (hi : i < cs.length), fa i = accS (vocN n) T cs[i].1 cs[i].2 ∧ fs i = decide (modelsS (vocN n) cs[i].1 ≠ 0#64) := fun i hi => by rw [hfa, hfs]; simp [hi]
 have hae : ∀ (U : List Int), Ord (vocN n) (2 ^ n) U → ∀ i (hi : i < cs.length), accE (vocN n) U cs[i].1 cs[i].2 = 0 := fun U hU i hi => by
  have := (madeC_ok hn6 (hcs _ (List.getElem_mem hi))).1
  unfold accE
  rw [if_neg (by simp [hU.ok]), fstE_two, if_pos this.1, this.2]
 have hac : ∀ i (hi : i < cs.length), run tb 7 [strsD (vocN n), numsD T, .int .i64 cs[i].1.op, .str cs[i].1.name, .sl (F.encs cs[i].1.args), .int .i64 cs[i].2.op, .str cs[i].2.name, .sl (F.encs cs[i].2.args)] = some [.bool (fa i), .int .i64 0] := fun i hi => by
  obtain ⟨_, h2, h3, _⟩ := madeC_ok hn6 (hcs _ (List.getElem_mem hi))
  have := accepts32_run (vocN n) T cs[i].1 cs[i].2 hvl hvs (by omega) h2.1 h2.2 h3.1 h3.2
  rw [if_pos (hae T oR i hi)] at this
  rw [this, (hci i hi).1]
 have hmd : ∀ i (hi : i < cs.length), run tb 8 [strsD (vocN n), .int .i64 cs[i].1.op, .str cs[i].1.name, .sl (F.encs cs[i].1.args)] = some [bvD (modelsS (vocN n) cs[i].1), .int .i64 0] := fun i hi => by
  obtain ⟨h1, h2, h3, _⟩ := madeC_ok hn6 (hcs _ (List.getElem_mem hi))
  have := modelsR_run (vocN n) cs[i].1 hvl hvs h2.1 h3.1
  rw [h1.1] at this
  exact this
 have hrow : ∀ i (hi : i < cs.length), PO.eval (.row 6) [condsD cs, .int .i64 i] = some [.int .i64 cs[i].1.op, .str cs[i].1.name, .sl (F.encs cs[i].1.args), .int .i64 cs[i].2.op, .str cs[i].2.name, .sl (F.encs cs[i].2.args)] := fun i hi => row_C hi
 have hvo : run tb 4 [.int .i64 n] = some [strsD (vocN n)] := hvo
 have c1 : ∀ k e J xs, callQ (run tb) 1 false [0] k e J (some [strsD xs]) = den (run tb) k (e ++ [strsD xs]) J := fun k e J xs => rfl
 refine run_ir (x := ir0) rfl ?_
 cases hly : layS (prsS (vocN n) cs) with
 | none =>
  rw [hly] at hz
  simp only at hz
  have hno : ¬ (allB fa cs.length = true ∧ allB fs cs.length = true) := fun h => z_none hly oR (hacc h.1) (hsnd h.2)
  simp (disch := omega) only [ir0, ir0p6, stepQ, stepL, eq_self, aBin, reduceIte, Int.reduceEq, Int.reduceLT, Int.reduceLE, Int.reduceGT, Int.reduceGE, hn, hr, hcr, hvo, hz, ibne, hso, Int.reduceNe, callQ_S]
  rw [show [D.bool true, .bool true, .int .i64 0] = [D.bool (allB fa 0), .bool (allB fs 0), .int .i64 ((0 : Nat) : Int)] from rfl]
  refine loop_k (σ := Unit) cs.length (fun _ _ => True) (fun i _ => [.bool (allB fa i), .bool (allB fs i), .int .i64 i]) (fun _ _ => [.bool true]) ?_ ?_ 0 () (Nat.zero_le _) trivial
  · rintro i _ L hi _ hL
    have hnext := hL () trivial
    have h1 := hac i hi
    have h2 := hmd i hi
    have h3 := hrow i hi
    have h4 := (hci i hi).2
    simp only [allB] at hnext
    rw [h4] at hnext
    by_cases cz : modelsS (vocN n) cs[i].1 = 0#64
    · rw [decide_eq_false (by simp [cz])] at hnext
      cases hA : allB fa i <;> cases hS : allB fs i <;> rw [hA, hS] at hnext <;> simp only [Bool.true_and, Bool.false_and, Bool.and_false] at hnext <;> simp (disch := omega) only [ir0p5, ir0p2, ir0p0, stepQ, stepL, eq_self, aBin, reduceIte, Int.reduceEq, Int.reduceLT, Int.reduceLE, Int.reduceGT, Int.reduceGE, bvQ, wu, shl_norm, shr_norm, and1_norm, len_C, hi, h1, h2, h3, cz, wr, natS, hnext]
    · rw [decide_eq_true cz] at hnext
      cases hA : allB fa i <;> cases hS : allB fs i <;> rw [hA, hS] at hnext <;> simp only [Bool.true_and, Bool.false_and, Bool.and_true] at hnext <;> simp (disch := omega) only [ir0p5, ir0p2, ir0p0, stepQ, stepL, eq_self, aBin, reduceIte, Int.reduceEq, Int.reduceLT, Int.reduceLE, Int.reduceGT, Int.reduceGE, bvQ, wu, shl_norm, shr_norm, and1_norm, len_C, hi, h1, h2, h3, cz, wr, natS, hnext]
  · rintro _ L _
    cases hA : allB fa cs.length <;> cases hS : allB fs cs.length
    · simp (disch := omega) only [ir0p5, stepQ, stepL, eq_self, aBin, reduceIte, Int.reduceEq, Int.reduceLT, Int.reduceLE, Int.reduceGT, Int.reduceGE, len_C, Nat.lt_irrefl, aw, callQ_tb]
    · simp (disch := omega) only [ir0p5, stepQ, stepL, eq_self, aBin, reduceIte, Int.reduceEq, Int.reduceLT, Int.reduceLE, Int.reduceGT, Int.reduceGE, len_C, Nat.lt_irrefl, aw, callQ_tb]
    · simp (disch := omega) only [ir0p5, stepQ, stepL, eq_self, aBin, reduceIte, Int.reduceEq, Int.reduceLT, Int.reduceLE, Int.reduceGT, Int.reduceGE, len_C, Nat.lt_irrefl, aw, callQ_tb]
    · exact absurd ⟨hA, hS⟩ hno
 | some o =>
  rw [hly] at hz
  simp only at hz
  have hzl := zL_len (prsS (vocN n) cs) o (2 ^ n)
  have hZ : Ord (vocN n) (2 ^ n) (normS (zL (prsS (vocN n) cs) o (2 ^ n))) := ⟨some_ok hn6 hzl, by have := rk_norm (zL (prsS (vocN n) cs) o (2 ^ n)); rw [hzl] at this; exact this⟩
  have hne : normE (vocN n) (zL (prsS (vocN n) cs) o (2 ^ n)) = true := by unfold normE; rw [hv, hzl, vocN_len]; simp
  unfold rkR at hz
  rw [if_pos hne] at hz
  have hzacc : ∀ i (hi : i < cs.length), run tb 9 [strsD (vocN n), numsD (normS (zL (prsS (vocN n) cs) o (2 ^ n))), .int .i64 cs[i].1.op, .str cs[i].1.name, .sl (F.encs cs[i].1.args), .int .i64 cs[i].2.op, .str cs[i].2.name, .sl (F.encs cs[i].2.args)] = some [.bool true, .int .i64 0] := fun i hi => by
   obtain ⟨_, h2, h3, _⟩ := madeC_ok hn6 (hcs _ (List.getElem_mem hi))
   have := accepts_run (vocN n) (normS (zL (prsS (vocN n) cs) o (2 ^ n))) cs[i].1 cs[i].2 hvl (by rw [norm_len, hzl]; omega) h2.1 h2.2
   rw [if_pos (hae _ hZ i hi), z_accepts hn6 hcs hly rfl hZ hi] at this
   exact this
  have hzT : allB fa cs.length = true → ∀ w, w < 2 ^ n → (normS (zL (prsS (vocN n) cs) o (2 ^ n))).getD w 0 ≤ T.getD w 0 := fun h w hw => z_least hly oR (hacc h) hw
  have hlZ : (normS (zL (prsS (vocN n) cs) o (2 ^ n))).length = 2 ^ n := hZ.rk.1
  generalize normS (zL (prsS (vocN n) cs) o (2 ^ n)) = Z at *
  simp (disch := omega) only [ir0, ir0p6, stepQ, stepL, eq_self, aBin, reduceIte, Int.reduceEq, Int.reduceLT, Int.reduceLE, Int.reduceGT, Int.reduceGE, hn, hr, hcr, hvo, hz, ibne, hso, callQ_S]
  rw [show [D.bool true, .bool true, .int .i64 0] = [D.bool (allB fa 0), .bool (allB fs 0), .int .i64 ((0 : Nat) : Int)] from rfl]
  refine loop_k (σ := Unit) cs.length (fun _ _ => True) (fun i _ => [.bool (allB fa i), .bool (allB fs i), .int .i64 i]) (fun _ _ => [.bool true]) ?_ ?_ 0 () (Nat.zero_le _) trivial
  · rintro i _ L hi _ hL
    have hnext := hL () trivial
    have h1 := hac i hi
    have h2 := hmd i hi
    have h3 := hrow i hi
    have h4 := (hci i hi).2
    have h5 := hzacc i hi
    simp only [allB] at hnext
    rw [h4] at hnext
    by_cases cz : modelsS (vocN n) cs[i].1 = 0#64
    · rw [decide_eq_false (by simp [cz])] at hnext
      cases hA : allB fa i <;> cases hS : allB fs i <;> rw [hA, hS] at hnext <;> simp only [Bool.true_and, Bool.false_and, Bool.and_false] at hnext <;> simp (disch := omega) only [ir0p5, ir0p2, ir0p1, ir0p0, stepQ, stepL, eq_self, aBin, reduceIte, Int.reduceEq, Int.reduceLT, Int.reduceLE, Int.reduceGT, Int.reduceGE, bvQ, wu, shl_norm, shr_norm, and1_norm, len_C, hi, h1, h2, h3, h5, ibne, cz, wr, natS, hnext]
    · rw [decide_eq_true cz] at hnext
      cases hA : allB fa i <;> cases hS : allB fs i <;> rw [hA, hS] at hnext <;> simp only [Bool.true_and, Bool.false_and, Bool.and_true] at hnext <;> simp (disch := omega) only [ir0p5, ir0p2, ir0p1, ir0p0, stepQ, stepL, eq_self, aBin, reduceIte, Int.reduceEq, Int.reduceLT, Int.reduceLE, Int.reduceGT, Int.reduceGE, bvQ, wu, shl_norm, shr_norm, and1_norm, len_C, hi, h1, h2, h3, h5, ibne, cz, wr, natS, hnext]
  · rintro _ L _
    have e1 : PO.eval .lenL [numsD Z] = some [.int .i64 T.length] := by rw [len_N, hlZ, hlT]
    simp (disch := omega) only [ir0p5, stepQ, stepL, eq_self, aBin, reduceIte, Int.reduceEq, Int.reduceLT, Int.reduceLE, Int.reduceGT, Int.reduceGE, len_C, Nat.lt_irrefl, len_N, e1, ibne]
    refine loop_k (σ := Unit) T.length (fun _ _ => True) (fun w _ => [.int .i64 w]) (fun _ _ => [.bool true]) ?_ ?_ 0 () (Nat.zero_le _) trivial
    · rintro w _ L2 hw _ hL2
      have hnext := hL2 () trivial
      cases hA : allB fa cs.length with
      | false => simp (disch := omega) only [ir0p4, ir0p3, stepQ, stepL, eq_self, aBin, reduceIte, Int.reduceEq, Int.reduceLT, Int.reduceLE, Int.reduceGT, Int.reduceGE, len_N, hw, aw, callQ_tb]
      | true =>
       have hle := hzT hA w (by omega)
       have hwZ : w < Z.length := by omega
       rw [gd hw, gd hwZ] at hle
       have hlt : ¬ T[w] < Z[w] := by omega
       have q1 := row_N hw
       have q2 := row_N hwZ
       simp (disch := omega) only [ir0p4, ir0p3, stepQ, stepL, eq_self, aBin, reduceIte, Int.reduceEq, Int.reduceLT, Int.reduceLE, Int.reduceGT, Int.reduceGE, len_N, hw, q1, q2, hlt, wr, natS, hnext]
    · rintro _ L2 _
      simp (disch := omega) only [ir0p4, ir0p3, stepQ, stepL, eq_self, aBin, reduceIte, Int.reduceEq, Int.reduceLT, Int.reduceLE, Int.reduceGT, Int.reduceGE, len_N, Nat.lt_irrefl, aw, callQ_tb]
end Go.Proofs.YtojkhlijbpmgpaaGreat
