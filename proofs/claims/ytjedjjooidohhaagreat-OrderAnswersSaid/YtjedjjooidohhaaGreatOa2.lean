/- Plain programs of the functions of the program and lemmas about what they compute. -/
import Derived.Test.YtjedjjooidohhaaGreatOa1
set_option linter.unusedSimpArgs false
set_option linter.unusedVariables false
set_option linter.unusedSectionVars false
namespace Go.Proofs.YtjedjjooidohhaaGreat
open Go Am
set_option maxRecDepth 100000
set_option linter.unusedSimpArgs false
set_option linter.unusedVariables false
/-! # the statement about the answers -/
def ordsD (os : List (List (List UInt8) × List Int)) : D := .sl (os.map fun o => [strsD o.1, numsD o.2])
theorem get_O {os : List (List (List UInt8) × List Int)} {i : Nat} (h : i < os.length) : PO.eval (.get 0 2) [ordsD os, .int .i64 i] = some [strsD os[i].1, numsD os[i].2] := by
  simp [PO.eval, ordsD, h]
theorem chk_O {os : List (List (List UInt8) × List Int)} {i : Nat} (h : i < os.length) : PO.eval .chk [ordsD os, .int .i64 i] = some [] := ev_chk (by omega) (by simp; omega)
theorem len_O (os : List (List (List UInt8) × List Int)) : PO.eval .lenL [ordsD os] = some [.int .i64 os.length] := by simp [ordsD, ev_lenL]
theorem nbb (b : Bool) : PO.eval (.bin .neq true) [.bool b, .bool b] = some [.bool false] := by cases b <;> rfl
theorem small_size {f : F} (h : smallF f = true) : f.size ≤ 800 ∧ f.depth ≤ 30 ∧ F.allF nameB f = true := by
  unfold smallF at h
  simp only [Bool.and_eq_true, decide_eq_true_eq] at h
  exact ⟨h.1, h.2.1, allF_mono (fun g hg => by simp only [shortB, nameB, decide_eq_true_eq] at hg ⊢; omega) f h.2.2⟩
theorem app_N0 {l : List Int} (h : l.length < 1000000000000) : PO.eval (.app 1 8) [.sl [], numsD l] = some [numsD l] := by
  have := ev_app (sz := 1) (bt := 8) (xs := []) (ys := l.map numR) (by simp; omega) (by simp; omega) (by simp [numR])
  simpa [numsD, numR] using this
theorem oanswers_run (nr : List (List UInt8)) (rr l0 : List Int) (S : BitVec 64) (f : F) (hnr : ∀ s ∈ nr, s.length < 9223372036854775808) :
    run tb 0 [strsD nr, numsD rr, numsD l0, bvD S, .int .i64 f.op, .str f.name, .sl (F.encs f.args)] = some [.bool true] := by
  have aw := awake31_run
  have sm := small31_run nr rr
  have sf := small_run f
  simp only [rowF] at sf
  refine run_ir (x := ir0) rfl ?_
  by_cases c1 : (decide (nr.length ≤ 10) && decide (rr.length ≤ 100)) = true
  · rw [c1] at sm
    simp only [Bool.and_eq_true, decide_eq_true_eq] at c1
    cases c2 : smallF f with
    | true =>
      rw [c2] at sf
      obtain ⟨fs1, fs2, fs3⟩ := small_size c2
      obtain ⟨l, hl, hn⟩ := new_run l0
      obtain ⟨r, p, r1, r2, hp, hr⟩ := range_run 0 3 l 0 hl (by omega) (by omega) (by omega) (by omega)
      obtain ⟨n, rfl⟩ := Int.eq_ofNat_of_zero_le (show 0 ≤ r by omega)
      have hr : run tb 5 [.int .i64 0, .int .i64 3, numsD l, .int .i64 0] = some [.int .i64 n, numsD l, .int .i64 p] := hr
      have hn6 : n ≤ 6 := by omega
      obtain ⟨rs, q, hrs, h2, h3⟩ := some_run n hn6 l p hl hp
      have hR : (normS rs).length = 2 ^ n := by rw [norm_len, hrs]
      have hR0 : 0 < 2 ^ n := Nat.two_pow_pos n
      have hR6 : 2 ^ n ≤ 64 := pow6 hn6
      have hv := vocN_ok hn6
      have hvl := (short_voc hv).1
      have hvs := (short_voc hv).2
      generalize normS rs = R at *
      generalize vocN n = V at *
      obtain ⟨k, q1, k0, k1, hq1, hk⟩ := n_run (R.length : Int) l q hl h2 (by omega) (by omega)
      obtain ⟨k, rfl⟩ := Int.eq_ofNat_of_zero_le k0
      obtain ⟨x, q2, x1, x2, hq2, hx⟩ := range_run (-1) 9 l q1 hl hq1 (by omega) (by omega) (by omega)
      obtain ⟨g, q3, hq3, hg, hgr⟩ := formula_run 3 (by omega) (by omega) l hl 3 (by omega) q2 hq2
      have hgr : run tb 8 [.int .i64 3, .int .i64 3, numsD l, .int .i64 q2] = some [.int .i64 g.op, .str g.name, .sl (F.encs g.args), numsD l, .int .i64 q3] := hgr
      obtain ⟨gm1, gm2, _, _, _, _⟩ := made_models (n := 3) (by omega) (Nat.le_refl 3) hg
      have hkR : k < R.length := by omega
      have hc := chk_N hkR
      have hst := set_N hkR x
      obtain ⟨os, hos⟩ : ∃ os : List (List (List UInt8) × List Int), os = [(nr, rr), (V, R), (V, R.set k x)] := ⟨_, rfl⟩
      have hmk : PO.eval (.mk 2 3) [strsD nr, numsD rr, strsD V, numsD R, strsD V, numsD (R.set k x)] = some [ordsD os] := by subst hos; rfl
      have hall : ∀ o ∈ os, o.1.length < 1000000000 ∧ (∀ s ∈ o.1, s.length < 9223372036854775808) ∧ o.2.length < 1000000000 := by
        subst hos
        intro o ho
        simp only [List.mem_cons, List.not_mem_nil, or_false] at ho
        rcases ho with rfl | rfl | rfl
        · exact ⟨by simp only; omega, hnr, by simp only; omega⟩
        · exact ⟨hvl, hvs, by simp only; omega⟩
        · exact ⟨hvl, hvs, by simp only [List.length_set]; omega⟩
      obtain ⟨fs, hfs⟩ : ∃ fs : List F, fs = [f, g] := ⟨_, rfl⟩
      have hmkF : PO.eval (.mk 3 2) [.int .i64 f.op, .str f.name, .sl (F.encs f.args), .int .i64 g.op, .str g.name, .sl (F.encs g.args)] = some [.sl (F.encs fs)] := by subst hfs; rw [ev_mk32]; simp [F.encs, F.enc_eq]
      have hfall : ∀ h ∈ fs, h.size < 1000000000 ∧ F.allF nameB h = true := by
        subst hfs
        intro h hh
        simp only [List.mem_cons, List.not_mem_nil, or_false] at hh
        rcases hh with rfl | rfl
        · exact ⟨by omega, fs3⟩
        · exact ⟨by omega, good_nameB gm1⟩
      have los : os.length = 3 := by subst hos; rfl
      have lfs : fs.length = 2 := by subst hfs; rfl
      clear hos hfs
      have happ := app_N0 (l := R) (by omega)
      simp (disch := omega) only [ir0, ir0p5, stepQ, List.map_cons, List.map_nil, List.cons_append, List.nil_append, List.append_nil, List.length_map, List.getElem?_cons_zero, List.getElem?_cons_succ, eq_self, aBin, aUn_not, aUn_neg, reduceIte, Int.reduceEq, Int.reduceLT, Int.reduceLE, Int.reduceGT, Int.reduceGE, sm, sf, hn, hr, h3, happ, len_N, hk, hx, hc, hst, hgr, hmk, len_O]
      refine loop_k (σ := Nat) os.length (fun _ q => q ≤ l.length) (fun i q => [.int .i64 i, numsD l, .int .i64 q]) (fun _ _ => [.bool true]) ?_ ?_ 0 q3 (Nat.zero_le _) hq3
      · rintro i q L hi hq hL
        obtain ⟨T, q', hq', hT⟩ := set_run l q hl hq
        have hnext := hL q' hq'
        obtain ⟨o1, o2, o3⟩ := hall os[i] (List.getElem_mem hi)
        have hget := get_O hi
        have hck := chk_O hi
        generalize os[i].1 = nm at *
        generalize os[i].2 = rk at *
        have le := fun S => leastO_run nm rk o1 o3 S
        have le3 := fun S => least3_run nm rk o1 o2 o3 S
        obtain ⟨ts, hts⟩ : ∃ ts : List (BitVec 64), ts = [S, T] := ⟨_, rfl⟩
        have hmkV : PO.eval (.mk 1 2) [bvD S, bvD T] = some [bvsD ts] := by subst hts; rfl
        have lts : ts.length = 2 := by subst hts; rfl
        clear hts
        simp (disch := omega) only [ir0p4, stepQ, List.map_cons, List.map_nil, List.cons_append, List.nil_append, List.append_nil, List.length_map, List.getElem?_cons_zero, List.getElem?_cons_succ, eq_self, aBin, aUn_not, aUn_neg, reduceIte, Int.reduceEq, Int.reduceLT, Int.reduceLE, Int.reduceGT, Int.reduceGE, bvQ, wu, shl_norm, shr_norm, and1_norm, hi, hck, hget, hT, hmkV, len_V]
        refine loop_k (σ := Unit) ts.length (fun _ _ => True) (fun j _ => [.int .i64 j]) (fun _ _ => [.bool true]) ?_ ?_ 0 () (Nat.zero_le _) trivial
        · rintro j _ M hj _ hM
          have hnext2 := hM () trivial
          simp (disch := omega) only [ir0p3, stepQ, List.map_cons, List.map_nil, List.cons_append, List.nil_append, List.append_nil, List.length_map, List.getElem?_cons_zero, List.getElem?_cons_succ, eq_self, aBin, aUn_not, aUn_neg, reduceIte, Int.reduceEq, Int.reduceLT, Int.reduceLE, Int.reduceGT, Int.reduceGE, bvQ, wu, shl_norm, shr_norm, and1_norm, hj, chk_V, get_V, le, le3, wr, natS, hnext2]
        · rintro _ M _
          simp (disch := omega) only [ir0p3, stepQ, List.map_cons, List.map_nil, List.cons_append, List.nil_append, List.append_nil, List.length_map, List.getElem?_cons_zero, List.getElem?_cons_succ, eq_self, aBin, aUn_not, aUn_neg, reduceIte, Int.reduceEq, Int.reduceLT, Int.reduceLE, Int.reduceGT, Int.reduceGE, Nat.lt_irrefl, hmkF, len_F]
          refine loop_k (σ := Unit) fs.length (fun _ _ => True) (fun j _ => [.int .i64 j]) (fun _ _ => [.bool true]) ?_ ?_ 0 () (Nat.zero_le _) trivial
          · rintro j _ K hj _ hK
            have hnext3 := hK () trivial
            obtain ⟨z1, z2⟩ := hfall fs[j] (List.getElem_mem hj)
            have hb1 := believes_run nm rk fs[j] o1 o3 z1
            have hb3 := believes3_run nm rk fs[j] o1 o3 z1 o2 z2
            have hgF := get_F hj
            have hcF := chk_F hj
            simp only [rowF] at hgF
            generalize (belE nm rk fs[j]).1 = B at *
            generalize (belE nm rk fs[j]).2 = E at *
            simp (disch := omega) only [ir0p2, ir0p0, stepQ, List.map_cons, List.map_nil, List.cons_append, List.nil_append, List.append_nil, List.length_map, List.getElem?_cons_zero, List.getElem?_cons_succ, eq_self, aBin, aUn_not, aUn_neg, reduceIte, Int.reduceEq, Int.reduceLT, Int.reduceLE, Int.reduceGT, Int.reduceGE, hj, hcF, hgF, hb1, hb3, callQ_tvi, nbb, ibne, wr, natS, hnext3]
          · rintro _ K _
            have v1 := validateO_run nm rk o1 o3
            have v3 := validateO3_run nm rk o1 o2 o3
            have w1 := levelsO_run nm rk o1 o3
            have w3 := levels3_run nm rk o1 o2 o3
            have w4 := sets_run (levelsO nm rk) (by
              unfold levelsO
              split
              · rename_i h
                have h1 := orderE_len h
                have h2 := maxR_lt (rkOk_in (orderE_zero h).2.2) h1.2
                simp only [levelsS, List.length_map, List.length_range]; omega
              · simp)
            have b1 := beliefsO_run nm rk o1 o3
            have b3 := beliefs3_run nm rk o1 o2 o3
            have s1 := sameO_run nm V rk R o1 o3
            have s3 := sameO3_run nm V rk R o1 o3
            have s2 := sameO_run nm nm rk rk o1 o3
            rw [decide_eq_true rfl, decide_eq_true rfl, Bool.and_self] at s2
            generalize (decide (nm = V) && decide (rk = R)) = sb at *
            generalize orderE nm rk = oe at *
            generalize levelsO nm rk = lv at *
            generalize beliefsS nm rk = bs at *
            simp (disch := omega) only [ir0p2, ir0p1, stepQ, List.map_cons, List.map_nil, List.cons_append, List.nil_append, List.append_nil, List.length_map, List.getElem?_cons_zero, List.getElem?_cons_succ, eq_self, aBin, aUn_not, aUn_neg, reduceIte, Int.reduceEq, Int.reduceLT, Int.reduceLE, Int.reduceGT, Int.reduceGE, bvQ, wu, shl_norm, shr_norm, and1_norm, Nat.lt_irrefl, v1, v3, w1, w3, w4, b1, b3, s1, s3, s2, nbb, ibne, wr, natS, hnext]
      · rintro q L _
        simp (disch := omega) only [ir0p4, stepQ, List.map_cons, List.map_nil, List.cons_append, List.nil_append, List.append_nil, List.length_map, List.getElem?_cons_zero, List.getElem?_cons_succ, eq_self, aBin, aUn_not, aUn_neg, reduceIte, Int.reduceEq, Int.reduceLT, Int.reduceLE, Int.reduceGT, Int.reduceGE, Nat.lt_irrefl, aw]
    | false =>
      rw [c2] at sf
      simp (disch := omega) only [ir0, ir0p5, stepQ, List.map_cons, List.map_nil, List.cons_append, List.nil_append, List.append_nil, List.length_map, List.getElem?_cons_zero, List.getElem?_cons_succ, eq_self, aBin, aUn_not, aUn_neg, reduceIte, Int.reduceEq, Int.reduceLT, Int.reduceLE, Int.reduceGT, Int.reduceGE, sm, sf, aw]
  · rw [Bool.eq_false_iff.2 c1] at sm
    simp (disch := omega) only [ir0, ir0p5, stepQ, List.map_cons, List.map_nil, List.cons_append, List.nil_append, List.append_nil, List.length_map, List.getElem?_cons_zero, List.getElem?_cons_succ, eq_self, aBin, aUn_not, aUn_neg, reduceIte, Int.reduceEq, Int.reduceLT, Int.reduceLE, Int.reduceGT, Int.reduceGE, sm, aw]
end Go.Proofs.YtjedjjooidohhaaGreat
