/- Plain programs of the functions of the program and lemmas about what they compute. -/
import Derived.Test.YtjedjjooidohhaaGreatCh
import Derived.Test.YtjedjjooidohhaaGreatOd
set_option linter.unusedSimpArgs false
set_option linter.unusedVariables false
set_option linter.unusedSectionVars false
namespace Go.Proofs.YtjedjjooidohhaaGreat
open Go Am
set_option maxRecDepth 100000
set_option linter.unusedSimpArgs false
set_option linter.unusedVariables false
/-! # the statement about the answers of change -/
theorem canswers_run (nr : List (List UInt8)) (rr l0 : List Int) (f : F) (hnr : ∀ s ∈ nr, s.length < 9223372036854775808) :
    run tb 0 [strsD nr, numsD rr, .int .i64 f.op, .str f.name, .sl (F.encs f.args), numsD l0] = some [.bool true] := by
  have aw := awake33_run
  have sf := small_run f
  simp only [rowF] at sf
  refine run_ir (x := ir0) rfl ?_
  by_cases c1 : nr.length ≤ 10
  · have g1 : ((nr.length : Int) > 10) = False := by simp; omega
    by_cases c2 : rr.length ≤ 100
    · have g2 : ((rr.length : Int) > 100) = False := by simp; omega
      cases c3 : smallF f with
      | true =>
        rw [c3] at sf
        obtain ⟨fs1, fs2, fs3⟩ := small_size c3
        obtain ⟨l, hl, hn⟩ := new_run l0
        obtain ⟨r, p, r1, r2, hp, hr⟩ := range_run 0 3 l 0 hl (by omega) (by omega) (by omega) (by omega)
        obtain ⟨n, rfl⟩ := Int.eq_ofNat_of_zero_le (show 0 ≤ r by omega)
        have hr : run tb 4 [.int .i64 0, .int .i64 3, numsD l, .int .i64 0] = some [.int .i64 n, numsD l, .int .i64 p] := hr
        have hn6 : n ≤ 6 := by omega
        obtain ⟨rs, q, hrs, h2, h3⟩ := some_run n hn6 l p hl hp
        have hR : (normS rs).length = 2 ^ n := by rw [norm_len, hrs]
        have hR6 : 2 ^ n ≤ 64 := pow6 hn6
        have hv := vocN_ok hn6
        have hvl := (short_ok hv).1
        have hvs := (short_ok hv).2
        have hth := fun S => theory33_run (vocN n) (numsD (normS rs)) hv S
        generalize normS rs = R at *
        have hts : ∀ S, (thy (vocN n) (S &&& allS (vocN n))).size < 1000000000 ∧ F.allF nameB (thy (vocN n) (S &&& allS (vocN n))) = true := fun S => by
          have := thy_ok (vocOk_names hv) (S &&& allS (vocN n))
          have h6 := pow6 (vocOk_len hv)
          exact ⟨by have := this.2.1; omega, good_nameB this.1⟩
        generalize vocN n = V at *
        obtain ⟨g, q3, hq3, hg, hgr⟩ := formula_run 3 (by omega) (by omega) l hl 3 (by omega) q h2
        have hgr : run tb 6 [.int .i64 3, .int .i64 3, numsD l, .int .i64 q] = some [.int .i64 g.op, .str g.name, .sl (F.encs g.args), numsD l, .int .i64 q3] := hgr
        obtain ⟨gm1, gm2, _, _, _, _⟩ := made_models (n := 3) (by omega) (Nat.le_refl 3) hg
        obtain ⟨os, hos⟩ : ∃ os : List (List (List UInt8) × List Int), os = [(nr, rr), (V, R)] := ⟨_, rfl⟩
        have hmk : PO.eval (.mk 2 2) [strsD nr, numsD rr, strsD V, numsD R] = some [ordsD os] := by subst hos; rfl
        have hall : ∀ o ∈ os, o.1.length < 1000000000 ∧ (∀ s ∈ o.1, s.length < 9223372036854775808) ∧ o.2.length < 1000000000 := by
          subst hos
          intro o ho
          simp only [List.mem_cons, List.not_mem_nil, or_false] at ho
          rcases ho with rfl | rfl
          · exact ⟨by simp only; omega, hnr, by simp only; omega⟩
          · exact ⟨hvl, hvs, by simp only; omega⟩
        have los : os.length = 2 := by subst hos; rfl
        clear hos
        simp (disch := omega) only [ir0, ir0p7, stepQ, stepL, eq_self, aBin, reduceIte, Int.reduceEq, Int.reduceLT, Int.reduceLE, Int.reduceGT, Int.reduceGE, len_S, len_N, g1, g2, sf, hn, hr, h3, hgr, hmk, len_O]
        refine loop_k (σ := Nat) os.length (fun _ q => q ≤ l.length) (fun i q => [.int .i64 i, numsD l, .int .i64 q]) (fun _ _ => [.bool true]) ?_ ?_ 0 q3 (Nat.zero_le _) hq3
        · rintro i q L hi hq hL
          obtain ⟨S, q', hq', hS⟩ := set_run l q hl hq
          have hnext := hL q' hq'
          obtain ⟨o1, o2, o3⟩ := hall os[i] (List.getElem_mem hi)
          have hget := get_O hi
          have hck := chk_O hi
          generalize os[i].1 = nm at *
          generalize os[i].2 = rk at *
          have ht := hth S
          obtain ⟨t1, t2⟩ := hts S
          generalize thy V (S &&& allS V) = t at *
          obtain ⟨fs, hfs⟩ : ∃ fs : List F, fs = [f, g, t] := ⟨_, rfl⟩
          have hmkF : PO.eval (.mk 3 3) [.int .i64 f.op, .str f.name, .sl (F.encs f.args), .int .i64 g.op, .str g.name, .sl (F.encs g.args), .int .i64 t.op, .str t.name, .sl (F.encs t.args)] = some [.sl (F.encs fs)] := by
            subst hfs
            simp only [F.encs, F.enc_eq]; rfl
          have hfall : ∀ h ∈ fs, h.size < 1000000000 ∧ F.allF nameB h = true := by
            subst hfs
            intro h hh
            simp only [List.mem_cons, List.not_mem_nil, or_false] at hh
            rcases hh with rfl | rfl | rfl
            · exact ⟨by omega, fs3⟩
            · exact ⟨by omega, good_nameB gm1⟩
            · exact ⟨t1, t2⟩
          have lfs : fs.length = 3 := by subst hfs; rfl
          clear hfs
          simp only [rowF] at ht
          simp (disch := omega) only [ir0p6, stepQ, stepL, eq_self, aBin, reduceIte, Int.reduceEq, Int.reduceLT, Int.reduceLE, Int.reduceGT, Int.reduceGE, bvQ, wu, shl_norm, shr_norm, and1_norm, hi, hck, hget, hS, ht, hmkF, len_F]
          refine loop_k (σ := Unit) fs.length (fun _ _ => True) (fun j _ => [.int .i64 j]) (fun _ _ => [.bool true]) ?_ ?_ 0 () (Nat.zero_le _) trivial
          · rintro j _ K hj _ hK
            have hnext3 := hK () trivial
            obtain ⟨z1, z2⟩ := hfall fs[j] (List.getElem_mem hj)
            have a1 := expand_run nm rk fs[j] o1 o3 z1
            have a2 := revise_run nm rk fs[j] o1 o3 z1
            have a3 := contract_run nm rk fs[j] o1 o3 z1
            have a4 := withdraw_run nm rk fs[j] o1 o3 z1
            have a5 := explain_run nm rk fs[j] o1 o3 z1
            have b1 := expand3_run nm rk fs[j] o1 o2 o3 z1 z2
            have b2 := revise3_run nm rk fs[j] o1 o2 o3 z1 z2
            have b3 := contract3_run nm rk fs[j] o1 o2 o3 z1 z2
            have b4 := withdraw3_run nm rk fs[j] o1 o2 o3 z1 z2
            have b5 := explain3_run nm rk fs[j] o1 o2 o3 z1 z2
            have b6 := same33_run (explE nm rk fs[j]).1 (expl_size nm rk fs[j])
            have hgF := get_F hj
            have hcF := chk_F hj
            simp only [rowF] at hgF a1 a2 a3 a4
            generalize (explE nm rk fs[j]).1 = E1 at *
            generalize (explE nm rk fs[j]).2 = E2 at *
            generalize chE nm rk fs[j] = ce at *
            generalize (if ce = 0 then beliefsS nm rk &&& modelsS nm fs[j] else 0#64) = x1 at *
            generalize (if ce = 0 then leastS nm rk (modelsS nm fs[j]) else 0#64) = x2 at *
            generalize (if ce = 0 then beliefsS nm rk ||| leastS nm rk (allS nm &&& ~~~modelsS nm fs[j]) else 0#64) = x3 at *
            generalize (if ce = 0 then withS nm rk (modelsS nm fs[j]) else 0#64) = x4 at *
            simp (disch := omega) only [ir0p5, ir0p4, ir0p3, ir0p2, ir0p1, ir0p0, stepQ, stepL, eq_self, aBin, reduceIte, Int.reduceEq, Int.reduceLT, Int.reduceLE, Int.reduceGT, Int.reduceGE, bvQ, wu, shl_norm, shr_norm, and1_norm, hj, hcF, hgF, a1, a2, a3, a4, a5, b1, b2, b3, b4, b5, b6, callQ_tvi, ibne, wr, natS, hnext3]
          · rintro _ K _
            simp (disch := omega) only [ir0p5, stepQ, stepL, eq_self, aBin, reduceIte, Int.reduceEq, Int.reduceLT, Int.reduceLE, Int.reduceGT, Int.reduceGE, Nat.lt_irrefl, wr, natS, hnext]
        · rintro q L _
          simp (disch := omega) only [ir0p6, stepQ, stepL, eq_self, aBin, reduceIte, Int.reduceEq, Int.reduceLT, Int.reduceLE, Int.reduceGT, Int.reduceGE, Nat.lt_irrefl, aw]
      | false =>
        rw [c3] at sf
        simp (disch := omega) only [ir0, ir0p7, stepQ, stepL, eq_self, aBin, reduceIte, Int.reduceEq, Int.reduceLT, Int.reduceLE, Int.reduceGT, Int.reduceGE, len_S, len_N, g1, g2, sf, aw]
    · have g2 : ((rr.length : Int) > 100) = True := by simp; omega
      simp (disch := omega) only [ir0, ir0p7, stepQ, stepL, eq_self, aBin, reduceIte, Int.reduceEq, Int.reduceLT, Int.reduceLE, Int.reduceGT, Int.reduceGE, len_S, len_N, g1, g2, aw]
  · have g1 : ((nr.length : Int) > 10) = True := by simp; omega
    simp (disch := omega) only [ir0, ir0p7, stepQ, stepL, eq_self, aBin, reduceIte, Int.reduceEq, Int.reduceLT, Int.reduceLE, Int.reduceGT, Int.reduceGE, len_S, len_N, g1, aw]
end Go.Proofs.YtjedjjooidohhaaGreat
