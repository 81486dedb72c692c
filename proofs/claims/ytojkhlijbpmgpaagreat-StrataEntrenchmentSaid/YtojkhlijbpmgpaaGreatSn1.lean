/- What functions of the program compute: lemmas. -/
import Derived.Test.YtojkhlijbpmgpaaGreatSr7
import Derived.Test.YtojkhlijbpmgpaaGreatAm6
import Derived.Test.YtojkhlijbpmgpaaGreatSt
set_option linter.unusedSimpArgs false
set_option linter.unusedVariables false
set_option linter.unusedSectionVars false
namespace Go.Proofs.YtojkhlijbpmgpaaGreat
open Go Am
set_option maxRecDepth 100000
theorem ent32_run (voc : List (List UInt8)) (f g : F) (hv : voc.length < 1000000000) (hs : ∀ s ∈ voc, s.length < 9223372036854775808) (hf : f.size < 1000000000) (hg : g.size < 1000000000) (bf : F.allF nameB f = true) (bg : F.allF nameB g = true) (c1 : modelsE voc f = 0) (c2 : modelsE voc g = 0) :
 run tb 13 [strsD voc, .int .i64 f.op, .str f.name, .sl (F.encs f.args), .int .i64 g.op, .str g.name, .sl (F.encs g.args)] = some [.bool (decide (modelsS voc f &&& ~~~modelsS voc g = 0#64)), .int .i64 0] := by
 refine run_ir (x := ir13) rfl ?_
 have h1 := modelsR_run voc f hv hs hf bf
 have h2 := modelsR_run voc g hv hs hg bg
 simp only [rowF] at h1 h2
 rw [c1] at h1
 rw [c2] at h2
 simp (disch := omega) only [ir13, stepQ, stepL, eq_self, aBin, reduceIte, Int.reduceEq, Int.reduceLT, Int.reduceLE, Int.reduceGT, Int.reduceGE, bvQ, wu, shl_norm, shr_norm, and1_norm, h1, h2, ibne]
theorem and32_run (f g : F) : run tb 10 [.int .i64 f.op, .str f.name, .sl (F.encs f.args), .int .i64 g.op, .str g.name, .sl (F.encs g.args)] = some [.int .i64 5, .str [], .sl (F.encs [f, g])] := by
 refine run_ir (x := ir10) rfl ?_
 have hmk : PO.eval (.mk 3 2) [.int .i64 f.op, .str f.name, .sl (F.encs f.args), .int .i64 g.op, .str g.name, .sl (F.encs g.args)] = some [.sl (F.encs [f, g])] := by rw [ev_mk32]; simp [F.encs, F.enc_eq]
 simp only [ir10, stepQ, stepL, eq_self, aBin, reduceIte, Int.reduceEq, Int.reduceLT, Int.reduceLE, Int.reduceGT, Int.reduceGE, hmk]
theorem or32_run (f g : F) : run tb 11 [.int .i64 f.op, .str f.name, .sl (F.encs f.args), .int .i64 g.op, .str g.name, .sl (F.encs g.args)] = some [.int .i64 6, .str [], .sl (F.encs [f, g])] := by
 refine run_ir (x := ir11) rfl ?_
 have hmk : PO.eval (.mk 3 2) [.int .i64 f.op, .str f.name, .sl (F.encs f.args), .int .i64 g.op, .str g.name, .sl (F.encs g.args)] = some [.sl (F.encs [f, g])] := by rw [ev_mk32]; simp [F.encs, F.enc_eq]
 simp only [ir11, stepQ, stepL, eq_self, aBin, reduceIte, Int.reduceEq, Int.reduceLT, Int.reduceLE, Int.reduceGT, Int.reduceGE, hmk]
theorem entrench_run (l0 : List Int) : run tb 0 [numsD l0] = some [.bool true] := by
 have aw := awake32_run
 obtain ⟨l, hl, hn⟩ := new_run l0
 obtain ⟨r, p, r1, r2, hp, hr⟩ := range_run 1 3 l 0 hl (by omega) (by omega) (by omega) (by omega)
 obtain ⟨n, rfl⟩ := Int.eq_ofNat_of_zero_le (show 0 ≤ r by omega)
 have hr : run tb 6 [.int .i64 1, .int .i64 3, numsD l, .int .i64 0] = some [.int .i64 n, numsD l, .int .i64 p] := hr
 have hn6 : n ≤ 6 := by omega
 obtain ⟨rs, p1, hrs, hp1, hso⟩ := some_run n hn6 l p hl hp
 obtain ⟨f, p2, hp2, hf, hfr⟩ := formula_run n (by omega) (by omega) l hl 3 (by omega) p1 hp1
 obtain ⟨g, p3, hp3, hg, hgr⟩ := formula_run n (by omega) (by omega) l hl 3 (by omega) p2 hp2
 have hfr : run tb 8 [.int .i64 n, .int .i64 3, numsD l, .int .i64 p1] = some [.int .i64 f.op, .str f.name, .sl (F.encs f.args), numsD l, .int .i64 p2] := hfr
 have hgr : run tb 8 [.int .i64 n, .int .i64 3, numsD l, .int .i64 p2] = some [.int .i64 g.op, .str g.name, .sl (F.encs g.args), numsD l, .int .i64 p3] := hgr
 have hv := vocN_ok hn6
 have hvl : (vocN n).length < 1000000000 := by rw [vocN_len]; omega
 have hvs : ∀ s ∈ vocN n, s.length < 9223372036854775808 := fun s hs => by rw [vocN_short s hs]; omega
 have h64 := pow6 hn6
 have oR : Ord (vocN n) (2 ^ n) (normS rs) := ⟨some_ok hn6 hrs, by have := rk_norm rs; rw [hrs] at this; exact this⟩
 obtain ⟨f1, f2, f3, f4, f5, f6⟩ := made_models hn6 (Nat.le_refl 3) hf
 obtain ⟨g1, g2, g3, g4, g5, g6⟩ := made_models hn6 (Nat.le_refl 3) hg
 generalize normS rs = o at *
 have hlo : o.length = 2 ^ n := oR.rk.1
 have sz : ∀ o : Int, (pr o f g).size = 1 + (f.size + g.size) := fun o => by simp [pr, F.size, F.sizes]
 obtain ⟨a1, a2⟩ := pr5_models hv f1 g1 f2 g2 f3 g3 f4 g4
 obtain ⟨b1, b2⟩ := pr6_models hv f1 g1 f2 g2 f3 g3 f4 g4
 rw [vocN_len, ← f6, ← g6] at a2 b2
 have dg : ∀ x : F, modelsE (vocN n) x = 0 → degE (vocN n) o x = 0 := fun x hx => by unfold degE; rw [if_neg (by simp [oR.ok]), hx]
 have d1 := degree_run (vocN n) o f hvl (by omega) (by omega)
 have d2 := degree_run (vocN n) o g hvl (by omega) (by omega)
 have d3 := degree_run (vocN n) o (pr 5 f g) hvl (by omega) (by rw [sz]; omega)
 have d4 := degree_run (vocN n) o (pr 6 f g) hvl (by omega) (by rw [sz]; omega)
 rw [if_pos (dg _ f5)] at d1
 rw [if_pos (dg _ g5)] at d2
 rw [if_pos (dg _ a1), a2, deg_and] at d3
 rw [if_pos (dg _ b1), b2] at d4
 simp only [pr, F.op_mk, F.name_mk, F.args_mk] at d3 d4
 have ha := and32_run f g
 have ho := or32_run f g
 have hmf := modelsR_run (vocN n) f hvl hvs (by omega) (good_nameB f1)
 simp only [rowF] at hmf
 rw [f5] at hmf
 have hen := ent32_run (vocN n) f g hvl hvs (by omega) (by omega) (good_nameB f1) (good_nameB g1) f5 g5
 have hbe := believes3_run (vocN n) o f hvl (by omega) (by omega) hvs (good_nameB f1)
 have hbel : belE (vocN n) o f = (decide (beliefsS (vocN n) o &&& ~~~modelsS (vocN n) f = 0#64), 0) := by unfold belE; rw [if_pos oR.ok, if_pos f5]
 rw [hbel] at hbe
 simp only at hbe
 have hpos := deg_pos oR (modelsS (vocN n) f)
 replace hpos : degS o (modelsS (vocN n) f) > 0 ↔ beliefsS (vocN n) o &&& ~~~modelsS (vocN n) f = 0#64 := hpos
 have hmo := most_run (strsD (vocN n)) o (by omega)
 have hal := all3_run (vocN n) hvl hvs
 have htop := deg_top oR (a := modelsS (vocN n) f) (fun w hw => by
  rw [f6] at hw
  have := (has_modN (voc := vocN n) (f := f) (w := w) (by rw [vocN_len]; exact hn6))
  rw [vocN_len] at this
  exact (this.1 hw).1)
 have hor := deg_or o (modelsS (vocN n) f) (modelsS (vocN n) g)
 have hmon : modelsS (vocN n) f &&& ~~~modelsS (vocN n) g = 0#64 → degS o (modelsS (vocN n) f) ≤ degS o (modelsS (vocN n) g) := fun h => deg_mono o (set_sub.1 h)
 have hmr := maxR_ge o
 have hlen := orderE_len oR.ok
 have hmlt := maxR_lt (rkOk_in (orderE_zero oR.ok).2.2) hlen.2
 have hw1 : IntKind.i64.wrap (maxR o + 1) = maxR o + 1 := wr (by omega) (by omega)
 generalize modelsS (vocN n) f &&& ~~~modelsS (vocN n) g = X at *
 generalize beliefsS (vocN n) o &&& ~~~modelsS (vocN n) f = Y at *
 generalize degS o (modelsS (vocN n) f ||| modelsS (vocN n) g) = C at *
 generalize degS o (modelsS (vocN n) f) = A at *
 generalize degS o (modelsS (vocN n) g) = B at *
 generalize modelsS (vocN n) f = mf at *
 generalize allS (vocN n) = al at *
 generalize maxR o = M at *
 unfold max1 at hor
 unfold min1 at d3
 refine run_ir (x := ir0) rfl ?_
 have t1 : decide (A = M + 1) = decide (mf = al) := decide_eq_decide.2 htop
 have t2 : decide (A > 0) = decide (Y = 0#64) := decide_eq_decide.2 hpos
 have hor := eq_true hor
 have ebb : ∀ a b : Bool, PO.eval (.bin .eql true) [.bool a, .bool b] = some [.bool (decide (a = b))] := fun a b => by cases a <;> cases b <;> rfl
 have bb1 : (false = false) = True := eq_true rfl
 have bb2 : (true = true) = True := eq_true rfl
 generalize htm : decide (mf = al) = m at *
 generalize hty : decide (Y = 0#64) = y at *
 by_cases hX : X = 0#64
 · have hAB := eq_true (hmon hX)
   rw [decide_eq_true hX] at hen
   cases m <;> cases y <;> simp (disch := omega) only [ir0, ir0p0, stepQ, stepL, eq_self, aBin, reduceIte, Int.reduceEq, Int.reduceLT, Int.reduceLE, Int.reduceGT, Int.reduceGE, bvQ, wu, shl_norm, shr_norm, and1_norm, hn, hr, hso, hfr, hgr, d1, d2, d3, d4, ha, ho, hmf, hen, hbe, hmo, hal, hw1, ibne, hor, hAB, t1, t2, htm, ebb, bb1, bb2, aw, callQ_tbi, callQ_tb]
 · rw [decide_eq_false hX] at hen
   cases m <;> cases y <;> simp (disch := omega) only [ir0, ir0p0, stepQ, stepL, eq_self, aBin, reduceIte, Int.reduceEq, Int.reduceLT, Int.reduceLE, Int.reduceGT, Int.reduceGE, bvQ, wu, shl_norm, shr_norm, and1_norm, hn, hr, hso, hfr, hgr, d1, d2, d3, d4, ha, ho, hmf, hen, hbe, hmo, hal, hw1, ibne, hor, t1, t2, htm, ebb, bb1, bb2, aw, callQ_tbi, callQ_tb]
end Go.Proofs.YtojkhlijbpmgpaaGreat
