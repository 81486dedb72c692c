/- What functions of the program compute: lemmas. -/
import Derived.Test.YtmjnhmeckloanaaGreatIt
import Derived.Test.YtmjnhmeckloanaaGreatBr
import Derived.Test.YtmjnhmeckloanaaGreatAm6
set_option linter.unusedSimpArgs false
set_option linter.unusedVariables false
set_option linter.unusedSectionVars false
namespace Go.Proofs.YtmjnhmeckloanaaGreat
open Go Am
set_option maxRecDepth 100000
theorem iterTop_run (l0 : List Int) : run tb 0 [numsD l0] = some [.bool true] := by
 have aw := awake37_run
 obtain ⟨l, hl, hn⟩ := new_run l0
 obtain ⟨r, p, r1, r2, hp, hr⟩ := range_run 1 3 l 0 hl (by omega) (by omega) (by omega) (by omega)
 obtain ⟨n, rfl⟩ := Int.eq_ofNat_of_zero_le (show 0 ≤ r by omega)
 have hr : run tb 2 [.int .i64 1, .int .i64 3, numsD l, .int .i64 0] = some [.int .i64 n, numsD l, .int .i64 p] := hr
 have hn6 : n ≤ 6 := by omega
 have hvo := voc_run n (by omega)
 obtain ⟨k, p1, k1, k2, hp1, hkr⟩ := range_run 1 3 l p hl hp (by omega) (by omega) (by omega)
 have hk : k = 1 ∨ k = 2 ∨ k = 3 := by omega
 obtain ⟨rs, q, hrs, h2, h3⟩ := some_run n hn6 l p1 hl hp1
 obtain ⟨c, p2, z1, z2, hp2, hcr⟩ := range_run 1 5 l q hl h2 (by omega) (by omega) (by omega)
 obtain ⟨c, rfl⟩ := Int.eq_ofNat_of_zero_le (show 0 ≤ c by omega)
 have hv := vocN_ok hn6
 have hvl : (vocN n).length < 1000000000 := by rw [vocN_len]; omega
 have h64 := pow6 hn6
 have oR : Ord (vocN n) (2 ^ n) (normS rs) := ⟨some_ok hn6 hrs, by have := rk_norm rs; rw [hrs] at this; exact this⟩
 have oN : ∀ {T : List Int} {k : Int} {X : BitVec 64}, Ord (vocN n) (2 ^ n) T → Ord (vocN n) (2 ^ n) (nextS (vocN n) k T X) := fun {T k X} hT =>
  ⟨some_ok hn6 (by simp [nxtPL, hT.rk.1]), next_rk hT.rk _ _ _⟩
 have hsub : ∀ {f : F} {d : Nat}, d ≤ 3 → Made n d f → ∀ w, has (modelsS (vocN n) f) w → w < 2 ^ n := fun {f d} hd hf w hw => by
  obtain ⟨_, _, _, _, _, gm6⟩ := made_models hn6 hd hf
  rw [gm6] at hw
  have := (has_modN (voc := vocN n) (f := f) (w := w) (by rw [vocN_len]; exact hn6))
  rw [vocN_len] at this
  exact (this.1 hw).1
 refine run_ir (x := ir0) rfl ?_
 simp (disch := omega) only [ir0, stepQ, stepL, eq_self, aBin, reduceIte, Int.reduceEq, Int.reduceLT, Int.reduceLE, Int.reduceGT, Int.reduceGE, hn, hr, hvo, hkr, h3, hcr]
 rw [show D.int .i64 (c : Int) = .int .i64 ((c - 0 : Nat) : Int) by simp]
 refine loop_k (σ := Nat × List Int) c (fun _ s => s.1 ≤ l.length ∧ Ord (vocN n) (2 ^ n) s.2) (fun i s => [.int .i64 ((c - i : Nat) : Int), numsD l, .int .i64 s.1, strsD (vocN n), numsD s.2]) (fun _ _ => [.bool true]) ?_ ?_ 0 (p2, normS rs) (Nat.zero_le _) ⟨hp2, oR⟩
 · rintro i ⟨q, T⟩ L hi ⟨hq, oT⟩ hL
   simp only at hq oT
   obtain ⟨f, q3, hq3, hf, hgr⟩ := formula_run n (by omega) (by omega) l hl 3 (by omega) q hq
   have hgr : run tb 5 [.int .i64 n, .int .i64 3, numsD l, .int .i64 q] = some [.int .i64 f.op, .str f.name, .sl (F.encs f.args), numsD l, .int .i64 q3] := hgr
   obtain ⟨gm1, gm2, _, _, gm5, gm6⟩ := made_models hn6 (Nat.le_refl 3) hf
   have hfs := hsub (Nat.le_refl 3) hf
   have hmd := modelsW_run (vocN n) f hvl (by omega)
   simp only [rowF] at hmd
   rw [gm5] at hmd
   have hov := over_run hn6 (modelsS (vocN n) f)
   have hth := thy_models hv (modelsS (vocN n) f)
   rw [and_all hn6 hfs] at hth
   have hts := thy_small hn6 (modelsS (vocN n) f)
   generalize thy (vocN n) (modelsS (vocN n) f) = g at *
   have hlT : T.length = 2 ^ n := oT.rk.1
   have n1 := nextP_run (vocN n) T f k hvl (by omega) (by omega)
   have n2 := nextP_run (vocN n) T g k hvl (by omega) hts.1
   have hi1 : itE (vocN n) T f k = if modelsS (vocN n) f = 0#64 then 9 else 0 := by unfold itE; rw [if_neg (by simp [oT.ok]), if_neg (by simp; omega), if_neg (by simp [gm5])]
   have hi2 : itE (vocN n) T g k = if modelsS (vocN n) f = 0#64 then 9 else 0 := by unfold itE; rw [if_neg (by simp [oT.ok]), if_neg (by simp; omega), if_neg (by simp [hth.1]), hth.2]
   rw [hi1] at n1
   rw [hi2, hth.2] at n2
   have hgt : ((c - i : Nat) : Int) > 0 := by omega
   have hdec : IntKind.i64.wrap (((c - i : Nat) : Int) - 1) = ((c - (i + 1) : Nat) : Int) := by rw [wr (by omega) (by omega)]; omega
   by_cases c3 : modelsS (vocN n) f = 0#64
   · rw [if_pos c3, if_neg (by decide)] at n1 n2
     have hnext := hL (q3, T) ⟨hq3, oT⟩
     simp only at hnext
     generalize modelsS (vocN n) f = m at *
     subst c3
     simp (disch := omega) only [ir0p5, ir0p4, ir0p0, stepQ, stepL, eq_self, aBin, reduceIte, Int.reduceEq, Int.reduceLT, Int.reduceLE, Int.reduceGT, Int.reduceGE, bvQ, wu, shl_norm, shr_norm, and1_norm, hgt, hgr, hmd, hov, n1, n2, ibne, hdec, hnext]
   · rw [if_neg c3, if_pos rfl] at n1 n2
     have hex : ∃ u, u < 2 ^ n ∧ has (modelsS (vocN n) f) u := by
      refine Classical.byContradiction fun hno => c3 (set_zero.2 fun u hu => hno ⟨u, hfs u hu, hu⟩)
     have oX : Ord (vocN n) (2 ^ n) (nextS (vocN n) k T (modelsS (vocN n) f)) := oN oT
     have hlX := oX.rk.1
     have hbr := breachesP_run (vocN n) (vocN n) T (nextS (vocN n) k T (modelsS (vocN n) f)) f hvl (by omega) hvl (by omega) (by omega)
     have hb0 : brE (vocN n) T (vocN n) (nextS (vocN n) k T (modelsS (vocN n) f)) f = 0 := by unfold brE; rw [if_neg (by simp [oT.ok]), if_neg (by simp [oX.ok]), if_neg (by simp), if_neg (by simp [gm5]), if_neg c3]
     unfold breD at hbr
     rw [if_pos hb0] at hbr
     have hbk := fun i hi => next_keeps oT hk oX hex (i := i) hi
     have hbl : (brS (vocN n) T (nextS (vocN n) k T (modelsS (vocN n) f)) (modelsS (vocN n) f)).length ≤ 8 := brO_len _ 8
     generalize brS (vocN n) T (nextS (vocN n) k T (modelsS (vocN n) f)) (modelsS (vocN n) f) = b at *
     have hsm := sameO_run (vocN n) (vocN n) (nextS (vocN n) k T (modelsS (vocN n) f)) (nextS (vocN n) k T (modelsS (vocN n) f)) hvl (by omega)
     rw [decide_eq_true rfl, decide_eq_true rfl] at hsm
     have hnext := hL (q3, nextS (vocN n) k T (modelsS (vocN n) f)) ⟨hq3, oX⟩
     simp only at hnext
     generalize nextS (vocN n) k T (modelsS (vocN n) f) = X at *
     generalize modelsS (vocN n) f = m at *
     simp (disch := omega) only [ir0p5, ir0p4, ir0p3, stepQ, stepL, eq_self, aBin, reduceIte, Int.reduceEq, Int.reduceLT, Int.reduceLE, Int.reduceGT, Int.reduceGE, bvQ, wu, shl_norm, shr_norm, and1_norm, hgt, hgr, hmd, hov, n1, n2, ibne, c3, hbr, hsm, len_N, Bool.and_self]
     refine loop_k (σ := Unit) b.length (fun _ _ => True) (fun i _ => [.int .i64 i]) (fun _ _ => [.bool true]) ?_ ?_ 0 () (Nat.zero_le _) trivial
     · rintro j _ N hj _ hN
       have hN := hN () trivial
       have hrw := row_N hj
       have hbj := hbk b[j] (List.getElem_mem hj)
       generalize b[j] = x at *
       have x1 : ¬ x ≤ 4 := by omega
       have x2 : ¬ x = 8 := by omega
       simp (disch := omega) only [ir0p2, ir0p1, stepQ, stepL, eq_self, aBin, reduceIte, Int.reduceEq, Int.reduceLT, Int.reduceLE, Int.reduceGT, Int.reduceGE, hj, hrw, ibne, x1, x2, wr, natS, hN]
     · rintro _ N _
       simp (disch := omega) only [ir0p2, ir0p0, stepQ, stepL, eq_self, aBin, reduceIte, Int.reduceEq, Int.reduceLT, Int.reduceLE, Int.reduceGT, Int.reduceGE, Nat.lt_irrefl, hdec, hnext]
 · rintro ⟨q, T⟩ L ⟨hq, oT⟩
   simp only at hq oT
   have hgt : ¬ ((c - c : Nat) : Int) > 0 := by omega
   obtain ⟨f, q3, hq3, hf, hgr⟩ := formula_run n (by omega) (by omega) l hl 2 (by omega) q hq
   have hgr : run tb 5 [.int .i64 n, .int .i64 2, numsD l, .int .i64 q] = some [.int .i64 f.op, .str f.name, .sl (F.encs f.args), numsD l, .int .i64 q3] := hgr
   obtain ⟨g, q4, hq4, hg, hgr2⟩ := formula_run n (by omega) (by omega) l hl 2 (by omega) q3 hq3
   have hgr2 : run tb 5 [.int .i64 n, .int .i64 2, numsD l, .int .i64 q3] = some [.int .i64 g.op, .str g.name, .sl (F.encs g.args), numsD l, .int .i64 q4] := hgr2
   obtain ⟨f1, f2, f3, f4, f5, f6⟩ := made_models hn6 (by omega) hf
   obtain ⟨g1, g2, _, _, g5, g6⟩ := made_models hn6 (by omega) hg
   have hlT : T.length = 2 ^ n := oT.rk.1
   have hrv := revise_run (vocN n) T f hvl (by omega) (by omega)
   have hch : chE (vocN n) T f = 0 := by unfold chE; rw [if_neg (by simp [oT.ok]), f5]
   rw [hch, if_pos rfl] at hrv
   simp only [rowF] at hrv
   have hmd := modelsW_run (vocN n) g hvl (by omega)
   simp only [rowF] at hmd
   rw [g5] at hmd
   have hac := accepts_run (vocN n) T f g hvl (by omega) (by omega) (by omega)
   have hae : accE (vocN n) T f g = 0 := by unfold accE; rw [if_neg (by simp [oT.ok]), fstE_cons, if_pos f5, fstE_cons, if_pos g5, fstE_nil]
   rw [hae, if_pos rfl] at hac
   unfold accS at hac
   have hng := ng_models hv f1 f2 f3 f4
   have hsz : (ng f).size < 1000000000 := by have : (ng f).size = 1 + f.size := by simp [ng, F.size, F.sizes]
                                             omega
   have hdg := degree_run (vocN n) T (ng f) hvl (by omega) hsz
   have hbl := believes_run (vocN n) T (ng f) hvl (by omega) hsz
   have hde : degE (vocN n) T (ng f) = 0 := by unfold degE; rw [if_neg (by simp [oT.ok]), hng.1]
   rw [hde, if_pos rfl] at hdg
   have hbe : belE (vocN n) T (ng f) = (decide (beliefsS (vocN n) T &&& ~~~modelsS (vocN n) (ng f) = 0#64), 0) := by unfold belE; rw [if_pos oT.ok, if_pos hng.1]
   rw [hbe] at hbl
   simp only at hbl
   have hdp := deg_pos oT (modelsS (vocN n) (ng f))
   rw [show leastS (vocN n) T (BitVec.allOnes 64) = beliefsS (vocN n) T from rfl] at hdp
   have hdp' : decide (beliefsS (vocN n) T &&& ~~~modelsS (vocN n) (ng f) = 0#64) = decide (degS T (modelsS (vocN n) (ng f)) > 0) := decide_eq_decide.2 hdp.symm
   rw [hdp'] at hbl
   have hmkF : PO.eval (.mk 3 1) [.int .i64 f.op, .str f.name, .sl (F.encs f.args)] = some [.sl (F.encs [f])] := by simp [PO.eval, chunks, F.encs, F.enc_eq]
   rw [show (ng f).op = 4 from rfl, show (ng f).name = [] from rfl, show (ng f).args = [f] from rfl] at hdg hbl
   clear hdp hdp' hbe hde
   generalize degS T (modelsS (vocN n) (ng f)) = d at *
   have hz : PO.eval (.bin .andNot false) [bvD (leastS (vocN n) T (modelsS (vocN n) f)), bvD (modelsS (vocN n) g)] = some [bvD (leastS (vocN n) T (modelsS (vocN n) f) &&& ~~~modelsS (vocN n) g)] := bv_andNot _ _ _
   generalize leastS (vocN n) T (modelsS (vocN n) f) &&& ~~~modelsS (vocN n) g = z at *
   have eqb : ∀ b : Bool, PO.eval (.bin .eql true) [.bool b, .bool b] = some [.bool true] := fun b => by cases b <;> rfl
   have hz0 : PO.eval (.bin .eql false) [bvD z, .int .u64 0] = some [.bool (decide (z = 0#64))] := bv_eq false z 0#64
   have e0 : PO.eval (.bin .eql false) [bvD 0#64, .int .u64 0] = some [.bool true] := rfl
   by_cases cd : d > 0 <;> by_cases cz : z = 0#64 <;> simp (disch := omega) only [cd, cz] at hbl hac <;>
    simp (disch := omega) only [ir0p5, stepQ, stepL, eq_self, aBin, reduceIte, Int.reduceEq, Int.reduceLT, Int.reduceLE, Int.reduceGT, Int.reduceGE, hgt, hgr, hgr2, hrv, hmd, hac, hmkF, hdg, hbl, hz, hz0, e0, cz, cd, eqb, aw, callQ_tbi, callQ_tvi, callQ_tii]
end Go.Proofs.YtmjnhmeckloanaaGreat
