/- What functions of the program compute: lemmas. -/
import Derived.Test.YtojkhlijbpmgpaaGreatBr
import Derived.Test.YtojkhlijbpmgpaaGreatIt
set_option linter.unusedSimpArgs false
set_option linter.unusedVariables false
set_option linter.unusedSectionVars false
namespace Go.Proofs.YtojkhlijbpmgpaaGreat
open Go Am
set_option maxRecDepth 100000
abbrev OO := List (List UInt8) × List Int
def prsD (os : List (OO × OO)) : D := .sl (os.map fun o => [strsD o.1.1, numsD o.1.2, strsD o.2.1, numsD o.2.2])
theorem get_P {os : List (OO × OO)} {i : Nat} (h : i < os.length) : PO.eval (.get 0 4) [prsD os, .int .i64 i] = some [strsD os[i].1.1, numsD os[i].1.2, strsD os[i].2.1, numsD os[i].2.2] := by
 simp [PO.eval, prsD, h]
theorem chk_P {os : List (OO × OO)} {i : Nat} (h : i < os.length) : PO.eval .chk [prsD os, .int .i64 i] = some [] := ev_chk (by omega) (by simp; omega)
theorem len_P (os : List (OO × OO)) : PO.eval .lenL [prsD os] = some [.int .i64 os.length] := by simp [prsD, ev_lenL]
theorem breD_same (n1 n2 : List (List UInt8)) (A B : List Int) (f : F) : ∃ (l : List Int) (e : Int), l.length ≤ 8 ∧ breD n1 A n2 B f = [numsD l, .int .i64 e] := by
 unfold breD
 split
 · exact ⟨_, _, brO_len _ 8, rfl⟩
 · exact ⟨[], _, by simp, rfl⟩
def GoodO (o : OO) : Prop := o.1.length < 1000000000 ∧ (∀ s ∈ o.1, s.length < 9223372036854775808) ∧ o.2.length < 1000000000
theorem ibreach_run (nr no : List (List UInt8)) (rr ro l0 : List Int) (f : F) (hnr : ∀ s ∈ nr, s.length < 9223372036854775808) (hno : ∀ s ∈ no, s.length < 9223372036854775808) :
 run tb 0 [strsD nr, numsD rr, strsD no, numsD ro, .int .i64 f.op, .str f.name, .sl (F.encs f.args), numsD l0] = some [.bool true] := by
 have aw := awake35_run
 have sm := small35_run nr rr
 have sm2 := small35_run no ro
 have sf := small_run f
 simp only [rowF] at sf
 refine run_ir (x := ir0) rfl ?_
 by_cases c1 : (decide (nr.length ≤ 10) && decide (rr.length ≤ 100)) = true
 · rw [c1] at sm
   simp only [Bool.and_eq_true, decide_eq_true_eq] at c1
   by_cases c1' : (decide (no.length ≤ 10) && decide (ro.length ≤ 100)) = true
   · rw [c1'] at sm2
     simp only [Bool.and_eq_true, decide_eq_true_eq] at c1'
     cases c2 : smallF f with
     | true =>
      rw [c2] at sf
      obtain ⟨fs1, fs2, fs3⟩ := small_size c2
      obtain ⟨l, hl, hn⟩ := new_run l0
      obtain ⟨r, p, r1, r2, hp, hr⟩ := range_run 1 3 l 0 hl (by omega) (by omega) (by omega) (by omega)
      obtain ⟨n, rfl⟩ := Int.eq_ofNat_of_zero_le (show 0 ≤ r by omega)
      have hr : run tb 6 [.int .i64 1, .int .i64 3, numsD l, .int .i64 0] = some [.int .i64 n, numsD l, .int .i64 p] := hr
      have hn6 : n ≤ 6 := by omega
      obtain ⟨rs, q, hrs, h2, h3⟩ := some_run n hn6 l p hl hp
      obtain ⟨rs', q1, hrs', h2', h3'⟩ := some_run n hn6 l q hl h2
      obtain ⟨g, q3, hq3, hg, hgr⟩ := formula_run n (by omega) (by omega) l hl 3 (by omega) q1 h2'
      have hgr : run tb 8 [.int .i64 n, .int .i64 3, numsD l, .int .i64 q1] = some [.int .i64 g.op, .str g.name, .sl (F.encs g.args), numsD l, .int .i64 q3] := hgr
      obtain ⟨gm1, gm2, _, _, _, _⟩ := made_models hn6 (Nat.le_refl 3) hg
      obtain ⟨k, q4, k1, k2, hq4, hk⟩ := range_run 1 3 l q3 hl hq3 (by omega) (by omega) (by omega)
      have hR : (normS rs).length = 2 ^ n := by rw [norm_len, hrs]
      have hR' : (normS rs').length = 2 ^ n := by rw [norm_len, hrs']
      have hR6 : 2 ^ n ≤ 64 := pow6 hn6
      have hv := vocN_ok hn6
      have hvl := (short_vocI hv).1
      have hvs := (short_vocI hv).2
      generalize normS rs = R at *
      generalize normS rs' = R' at *
      have hnx := nextR_run (vocN n) R g k hvl (by omega) (by omega) hvs (good_nameB gm1)
      obtain ⟨m, q5, m1, m2, hq5, hm⟩ := range_run 1 3 l q4 hl hq4 (by omega) (by omega) (by omega)
      obtain ⟨n2, rfl⟩ := Int.eq_ofNat_of_zero_le (show 0 ≤ m by omega)
      have hm : run tb 6 [.int .i64 1, .int .i64 3, numsD l, .int .i64 q4] = some [.int .i64 n2, numsD l, .int .i64 q5] := hm
      obtain ⟨rs2, q6, hrs2, h6, h7⟩ := some_run n2 (by omega) l q5 hl hq5
      have hR2 : (normS rs2).length = 2 ^ n2 := by rw [norm_len, hrs2]
      have hR26 : 2 ^ n2 ≤ 64 := pow6 (by omega)
      have hv2 := vocN_ok (n := n2) (by omega)
      generalize normS rs2 = R2 at *
      have gA : GoodO (vocN n, R) := ⟨hvl, hvs, by simp only; omega⟩
      have gB : GoodO (vocN n, R') := ⟨hvl, hvs, by simp only; omega⟩
      have gD : GoodO (vocN n2, R2) := ⟨(short_vocI hv2).1, (short_vocI hv2).2, by simp only; omega⟩
      have gRaw : GoodO (nr, rr) := ⟨by simp only; omega, hnr, by simp only; omega⟩
      have gOth : GoodO (no, ro) := ⟨by simp only; omega, hno, by simp only; omega⟩
      have fin : ∀ (c : OO), GoodO c → ∀ (os : List (OO × OO)), os = [((vocN n, R), (vocN n, R')), ((vocN n, R), c), (c, (vocN n, R)), ((nr, rr), (vocN n, R)), ((vocN n, R), (nr, rr)), ((nr, rr), (no, ro)), ((vocN n, R), (vocN n2, R2))] →
       os.length = 7 ∧ ∀ o ∈ os, GoodO o.1 ∧ GoodO o.2 := by
       rintro c hc os rfl
       refine ⟨rfl, fun o ho => ?_⟩
       simp only [List.mem_cons, List.not_mem_nil, or_false] at ho
       rcases ho with rfl | rfl | rfl | rfl | rfl | rfl | rfl
       · exact ⟨gA, gB⟩
       · exact ⟨gA, hc⟩
       · exact ⟨hc, gA⟩
       · exact ⟨gRaw, gA⟩
       · exact ⟨gA, gRaw⟩
       · exact ⟨gRaw, gOth⟩
       · exact ⟨gA, gD⟩
      have hmkF : PO.eval (.mk 3 2) [.int .i64 f.op, .str f.name, .sl (F.encs f.args), .int .i64 g.op, .str g.name, .sl (F.encs g.args)] = some [.sl (F.encs [f, g])] := by rw [ev_mk32]; simp [F.encs, F.enc_eq]
      have hga : ∀ x ∈ [f, g], x.size < 1000000000 ∧ F.allF nameB x = true := fun x hx => by
       simp only [List.mem_cons, List.not_mem_nil, or_false] at hx
       rcases hx with rfl | rfl
       · exact ⟨by omega, fs3⟩
       · exact ⟨by omega, good_nameB gm1⟩
      have hgal : [f, g].length = 2 := rfl
      obtain ⟨c, e, hc, hce⟩ : ∃ (c : OO) (e : Int), (e = 0 → GoodO c) ∧ run tb 9 [strsD (vocN n), numsD R, .int .i64 g.op, .str g.name, .sl (F.encs g.args), .int .i64 k] = some [strsD c.1, numsD c.2, .int .i64 e] := by
       rw [hnx]
       split
       · exact ⟨(vocN n, nextS (vocN n) k R (modelsS (vocN n) g)), 0, fun _ => ⟨hvl, hvs, by simp only [nextS_len]; omega⟩, rfl⟩
       · rename_i h
         exact ⟨([], []), _, fun e => absurd e h, rfl⟩
      generalize vocN n = V at *
      generalize vocN n2 = V2 at *
      obtain ⟨d, hd, hsel⟩ : ∃ d : OO, GoodO d ∧ ((e = 0 ∧ c = d) ∨ (e ≠ 0 ∧ (V, R') = d)) := by
       by_cases he : e = 0
       · exact ⟨c, hc he, .inl ⟨he, rfl⟩⟩
       · exact ⟨(V, R'), gB, .inr ⟨he, rfl⟩⟩
      obtain ⟨os, hos⟩ : ∃ os : List (OO × OO), os = [((V, R), (V, R')), ((V, R), d), (d, (V, R)), ((nr, rr), (V, R)), ((V, R), (nr, rr)), ((nr, rr), (no, ro)), ((V, R), (V2, R2))] := ⟨_, rfl⟩
      have hmk : PO.eval (.mk 4 7) [strsD V, numsD R, strsD V, numsD R', strsD V, numsD R, strsD d.1, numsD d.2, strsD d.1, numsD d.2, strsD V, numsD R, strsD nr, numsD rr, strsD V, numsD R, strsD V, numsD R, strsD nr, numsD rr, strsD nr, numsD rr, strsD no, numsD ro, strsD V, numsD R, strsD V2, numsD R2] = some [prsD os] := by rw [hos]; rfl
      obtain ⟨hol, hog⟩ := fin d hd os hos
      clear hos fin
      rcases hsel with ⟨he, rfl⟩ | ⟨he, rfl⟩ <;> (try simp only at hmk) <;>
       simp (disch := omega) only [ir0, ir0p4, ir0p3, stepQ, stepL, eq_self, aBin, reduceIte, Int.reduceEq, Int.reduceLT, Int.reduceLE, Int.reduceGT, Int.reduceGE, sm, sm2, sf, hn, hr, h3, h3', hgr, hk, hce, he, ibne, hm, h7, hmk, len_P]
      all_goals
       refine loop_k (σ := Unit) os.length (fun _ _ => True) (fun i _ => [.int .i64 i]) (fun _ _ => [.bool true]) ?_ ?_ 0 () (Nat.zero_le _) trivial
       · rintro i _ M hi _ hM
         have hM := hM () trivial
         have hgP := get_P hi
         have hcP := chk_P hi
         obtain ⟨⟨o1, o2, o3⟩, o4, o5, o6⟩ := hog os[i] (List.getElem_mem hi)
         generalize os[i].1.1 = nA at *
         generalize os[i].1.2 = rA at *
         generalize os[i].2.1 = nB at *
         generalize os[i].2.2 = rB at *
         generalize [f, g] = gs at *
         simp (disch := omega) only [ir0p2, stepQ, stepL, eq_self, aBin, reduceIte, Int.reduceEq, Int.reduceLT, Int.reduceLE, Int.reduceGT, Int.reduceGE, hi, hcP, hgP, hmkF, len_F]
         refine loop_k (σ := Unit) gs.length (fun _ _ => True) (fun j _ => [.int .i64 j]) (fun _ _ => [.bool true]) ?_ ?_ 0 () (Nat.zero_le _) trivial
         · rintro j _ N hj _ hN
           have hN := hN () trivial
           obtain ⟨z1, z2⟩ := hga gs[j] (List.getElem_mem hj)
           have n1 := breachesP_run nA nB rA rB gs[j] o1 o3 o4 o6 z1
           have n2 := breachesR_run nA nB rA rB gs[j] o1 o3 o4 o6 z1 o2 o5 z2
           obtain ⟨a, x, ha, hx⟩ := breD_same nA nB rA rB gs[j]
           rw [hx] at n1 n2
           have hint := ints_run a a (by omega)
           rw [decide_eq_true rfl] at hint
           have hgF := get_F hj
           have hcF := chk_F hj
           simp only [rowF] at hgF
           generalize gs[j] = y at *
           simp (disch := omega) only [ir0p1, ir0p0, stepQ, stepL, eq_self, aBin, reduceIte, Int.reduceEq, Int.reduceLT, Int.reduceLE, Int.reduceGT, Int.reduceGE, hj, hcF, hgF, n1, n2, ibne, hint, wr, natS, hN]
         · rintro _ N _
           simp (disch := omega) only [ir0p1, stepQ, stepL, eq_self, aBin, reduceIte, Int.reduceEq, Int.reduceLT, Int.reduceLE, Int.reduceGT, Int.reduceGE, Nat.lt_irrefl, wr, natS, hM]
       · rintro _ M _
         simp (disch := omega) only [ir0p2, stepQ, stepL, eq_self, aBin, reduceIte, Int.reduceEq, Int.reduceLT, Int.reduceLE, Int.reduceGT, Int.reduceGE, Nat.lt_irrefl, aw]
     | false =>
      rw [c2] at sf
      simp (disch := omega) only [ir0, ir0p4, stepQ, stepL, eq_self, aBin, reduceIte, Int.reduceEq, Int.reduceLT, Int.reduceLE, Int.reduceGT, Int.reduceGE, sm, sm2, sf, aw]
   · rw [Bool.not_eq_true] at c1'
     rw [c1'] at sm2
     simp (disch := omega) only [ir0, ir0p4, stepQ, stepL, eq_self, aBin, reduceIte, Int.reduceEq, Int.reduceLT, Int.reduceLE, Int.reduceGT, Int.reduceGE, sm, sm2, aw]
 · rw [Bool.not_eq_true] at c1
   rw [c1] at sm
   simp (disch := omega) only [ir0, ir0p4, stepQ, stepL, eq_self, aBin, reduceIte, Int.reduceEq, Int.reduceLT, Int.reduceLE, Int.reduceGT, Int.reduceGE, sm, aw]
end Go.Proofs.YtojkhlijbpmgpaaGreat
