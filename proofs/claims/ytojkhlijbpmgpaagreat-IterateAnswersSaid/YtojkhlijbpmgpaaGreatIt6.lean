/- Plain programs of the functions of the program and lemmas about what they compute. -/
import Derived.Test.YtojkhlijbpmgpaaGreatIt5
import Derived.Test.YtojkhlijbpmgpaaGreatOh
set_option linter.unusedSimpArgs false
set_option linter.unusedVariables false
set_option linter.unusedSectionVars false
namespace Go.Proofs.YtojkhlijbpmgpaaGreat
open Go Am
set_option maxRecDepth 100000
set_option linter.unusedSimpArgs false
set_option linter.unusedVariables false
def seqT (names : List (List UInt8)) (k : Int) : Nat → List Int → List F → List D
 | i, R, [] => [strsD names, numsD R, .int .i64 i, .int .i64 0]
 | i, R, f :: fs => if itE names R f k = 0 then seqT names k (i + 1) (nextS names k R (modelsS names f)) fs else [.sl [], .sl [], .int .i64 i, .int .i64 (itE names R f k)]
def seqE (names : List (List UInt8)) (ranks : List Int) (k : Int) (fs : List F) : List D := if ckE names ranks k = 0 then seqT names k 0 ranks fs else [.sl [], .sl [], .int .i64 0, .int .i64 (ckE names ranks k)]
theorem nextS_len (names : List (List UInt8)) (k : Int) (R : List Int) (m : BitVec 64) : (nextS names k R m).length = R.length := by simp [nextS, norm_len, nxtPL]
theorem seqP_run (names : List (List UInt8)) (ranks : List Int) (k : Int) (fs : List F) (hn : names.length < 1000000000) (hl : ranks.length < 1000000000) (hfl : fs.length < 1000000000) (hf : ∀ f ∈ fs, f.size < 1000000000) :
 run tb 17 [strsD names, numsD ranks, .sl (F.encs fs), .int .i64 k] = some (seqE names ranks k fs) := by
 refine run_ir (x := ir17) rfl ?_
 have h1 := check_run names ranks k hn hl
 unfold seqE
 by_cases c : ckE names ranks k = 0
 · obtain ⟨z1, z2⟩ := ck_zero c
   obtain ⟨y1, y2, y3⟩ := orderE_zero z1
   rw [c] at h1
   rw [if_pos c]
   have hno := normal_run names ranks hn hl
   rw [if_pos (by simp [normE, y1, y2]), norm_valid y3] at hno
   simp (disch := omega) only [ir17, stepQ, stepL, eq_self, aBin, reduceIte, Int.reduceEq, Int.reduceLT, Int.reduceLE, Int.reduceGT, Int.reduceGE, h1, ibne, hno, callQ_tvi, len_F]
   show _ = some (seqT names k 0 ranks (fs.drop 0))
   refine loop_k (σ := List Int) fs.length (fun _ R => R.length = ranks.length) (fun i R => [.int .i64 i, strsD names, numsD R]) (fun i R => seqT names k i R (fs.drop i)) ?_ ?_ 0 ranks (Nat.zero_le _) rfl
   · rintro i R M hi hR hM
     have hnext := hM (nextS names k R (modelsS names fs[i])) (by rw [nextS_len, hR])
     have hr := nextP_run names R fs[i] k hn (by omega) (hf _ (List.getElem_mem hi))
     rw [drop_s hi, seqT]
     by_cases hm : itE names R fs[i] k = 0
     · rw [if_pos hm] at hr
       rw [if_pos hm]
       generalize nextS names k R (modelsS names fs[i]) = X at *
       simp (disch := omega) only [ir17p0, rowF, stepQ, stepL, eq_self, aBin, reduceIte, Int.reduceEq, Int.reduceLT, Int.reduceLE, Int.reduceGT, Int.reduceGE, hi, row_F, hr, callQ_tvi, ibne, wr, natS, hnext]
     · rw [if_neg hm] at hr
       rw [if_neg hm]
       generalize itE names R fs[i] k = E at *
       simp (disch := omega) only [ir17p0, rowF, stepQ, stepL, eq_self, aBin, reduceIte, Int.reduceEq, Int.reduceLT, Int.reduceLE, Int.reduceGT, Int.reduceGE, hi, row_F, hr, callQ_tvi, ibne, hm]
   · rintro R M _
     rw [drop_e, seqT]
     simp (disch := omega) only [ir17p0, stepQ, stepL, eq_self, aBin, reduceIte, Int.reduceEq, Int.reduceLT, Int.reduceLE, Int.reduceGT, Int.reduceGE, len_F, Nat.lt_irrefl]
 · rw [if_neg c]
   simp (disch := omega) only [ir17, stepQ, stepL, eq_self, aBin, reduceIte, Int.reduceEq, Int.reduceLT, Int.reduceLE, Int.reduceGT, Int.reduceGE, h1, ibne, c]
theorem seqR_run (names : List (List UInt8)) (ranks : List Int) (k : Int) (fs : List F) (hn : names.length < 1000000000) (hl : ranks.length < 1000000000) (hs : ∀ s ∈ names, s.length < 9223372036854775808) (hfl : fs.length < 1000000000) (hf : ∀ f ∈ fs, f.size < 1000000000 ∧ F.allF nameB f = true) :
 run tb 18 [strsD names, numsD ranks, .sl (F.encs fs), .int .i64 k] = some (seqE names ranks k fs) := by
 refine run_ir (x := ir18) rfl ?_
 have h1 := validateO3_run names ranks hn hs hl
 have h0 := kind_run k
 unfold seqE
 by_cases c0 : orderE names ranks = 0
 · rw [c0] at h1
   by_cases c1 : 1 ≤ k ∧ k ≤ 3
   · rw [decide_eq_true c1] at h0
     have c : ckE names ranks k = 0 := by unfold ckE; rw [if_neg (by simp [c0]), if_neg (by simp [c1])]
     rw [if_pos c]
     simp (disch := omega) only [ir18, stepQ, stepL, eq_self, aBin, reduceIte, Int.reduceEq, Int.reduceLT, Int.reduceLE, Int.reduceGT, Int.reduceGE, h1, h0, ibne]
     show _ = some (seqT names k 0 ranks (fs.drop 0))
     refine loop_k (σ := List Int) fs.length (fun _ R => R.length = ranks.length) (fun i R => [.int .i64 i, strsD names, numsD R]) (fun i R => seqT names k i R (fs.drop i)) ?_ ?_ 0 ranks (Nat.zero_le _) rfl
     · rintro i R M hi hR hM
       have hnext := hM (nextS names k R (modelsS names fs[i])) (by rw [nextS_len, hR])
       obtain ⟨f1, f2⟩ := hf _ (List.getElem_mem hi)
       have hr := nextR_run names R fs[i] k hn (by omega) f1 hs f2
       rw [drop_s hi, seqT]
       by_cases hm : itE names R fs[i] k = 0
       · rw [if_pos hm] at hr
         rw [if_pos hm]
         generalize nextS names k R (modelsS names fs[i]) = X at *
         simp (disch := omega) only [ir18p0, rowF, stepQ, stepL, eq_self, aBin, reduceIte, Int.reduceEq, Int.reduceLT, Int.reduceLE, Int.reduceGT, Int.reduceGE, len_F, hi, row_F, hr, callQ_tvi, ibne, wr, natS, hnext]
       · rw [if_neg hm] at hr
         rw [if_neg hm]
         generalize itE names R fs[i] k = E at *
         simp (disch := omega) only [ir18p0, rowF, stepQ, stepL, eq_self, aBin, reduceIte, Int.reduceEq, Int.reduceLT, Int.reduceLE, Int.reduceGT, Int.reduceGE, len_F, hi, row_F, hr, callQ_tvi, ibne, hm]
     · rintro R M _
       rw [drop_e, seqT]
       simp (disch := omega) only [ir18p0, stepQ, stepL, eq_self, aBin, reduceIte, Int.reduceEq, Int.reduceLT, Int.reduceLE, Int.reduceGT, Int.reduceGE, len_F, Nat.lt_irrefl]
   · rw [decide_eq_false c1] at h0
     have c : ckE names ranks k = 4 := by unfold ckE; rw [if_neg (by simp [c0]), if_pos c1]
     rw [c, if_neg (by decide)]
     simp (disch := omega) only [ir18, stepQ, stepL, eq_self, aBin, reduceIte, Int.reduceEq, Int.reduceLT, Int.reduceLE, Int.reduceGT, Int.reduceGE, h1, h0, ibne]
 · have c : ckE names ranks k = orderE names ranks := by unfold ckE; rw [if_pos c0]
   rw [c, if_neg c0]
   simp (disch := omega) only [ir18, stepQ, stepL, eq_self, aBin, reduceIte, Int.reduceEq, Int.reduceLT, Int.reduceLE, Int.reduceGT, Int.reduceGE, h1, ibne, c0]
theorem small35_run (a : List (List UInt8)) (x : List Int) : run tb 13 [strsD a, numsD x] = some [.bool (decide (a.length ≤ 10) && decide (x.length ≤ 100))] := by
 refine run_ir (x := ir13) rfl ?_
 by_cases h1 : a.length ≤ 10
 · by_cases h2 : x.length ≤ 100
   · simp (disch := omega) only [ir13, stepQ, stepL, eq_self, aBin, reduceIte, Int.reduceEq, Int.reduceLT, Int.reduceLE, Int.reduceGT, Int.reduceGE, len_S, len_N, show ((a.length : Int) ≤ 10) = True by simp; omega, show ((x.length : Int) ≤ 100) = True by simp; omega, h1, h2, decide_true]
   · simp (disch := omega) only [ir13, stepQ, stepL, eq_self, aBin, reduceIte, Int.reduceEq, Int.reduceLT, Int.reduceLE, Int.reduceGT, Int.reduceGE, len_S, len_N, show ((a.length : Int) ≤ 10) = True by simp; omega, show ((x.length : Int) ≤ 100) = False by simp; omega, h1, h2, decide_true, decide_false]
 · simp (disch := omega) only [ir13, stepQ, stepL, eq_self, aBin, reduceIte, Int.reduceEq, Int.reduceLT, Int.reduceLE, Int.reduceGT, Int.reduceGE, len_S, len_N, show ((a.length : Int) ≤ 10) = False by simp; omega, h1, decide_false]
def Ans (names : List (List UInt8)) (ranks : List Int) (a : List (List UInt8)) (b : List Int) : Prop := a.length ≤ names.length ∧ b.length ≤ ranks.length
theorem next_ans (names : List (List UInt8)) (ranks : List Int) (f : F) (k : Int) : ∃ a b e, Ans names ranks a b ∧ (if itE names ranks f k = 0 then [strsD names, numsD (nextS names k ranks (modelsS names f)), .int .i64 0] else [.sl [], .sl [], .int .i64 (itE names ranks f k)]) = [strsD a, numsD b, D.int .i64 e] := by
 by_cases h : itE names ranks f k = 0
 · rw [if_pos h]; exact ⟨_, _, _, ⟨Nat.le_refl _, Nat.le_of_eq (nextS_len ..)⟩, rfl⟩
 · rw [if_neg h]; exact ⟨[], [], _, ⟨by simp, by simp⟩, rfl⟩
theorem tog_ans (names : List (List UInt8)) (ranks : List Int) (k : Int) (fs : List F) : ∃ a b e, Ans names ranks a b ∧ togE names ranks k fs = [strsD a, numsD b, D.int .i64 e] := by
 have key : ∀ (fs : List F) (A : BitVec 64), ∃ a b e, Ans names ranks a b ∧ togT names ranks k A fs = [strsD a, numsD b, D.int .i64 e] := by
  intro fs
  induction fs with
  | nil =>
   intro A
   rw [togT]
   by_cases h : A = 0#64
   · rw [if_pos h]; exact ⟨[], [], _, ⟨by simp, by simp⟩, rfl⟩
   · rw [if_neg h]; exact ⟨_, _, _, ⟨Nat.le_refl _, Nat.le_of_eq (nextS_len ..)⟩, rfl⟩
  | cons f fs ih =>
   intro A
   rw [togT]
   by_cases h : modelsE names f = 0
   · rw [if_pos h]; exact ih _
   · rw [if_neg h]; exact ⟨[], [], _, ⟨by simp, by simp⟩, rfl⟩
 unfold togE
 by_cases h : ckE names ranks k = 0
 · rw [if_pos h]; exact key _ _
 · rw [if_neg h]; exact ⟨[], [], _, ⟨by simp, by simp⟩, rfl⟩
theorem seq_ans (names : List (List UInt8)) (ranks : List Int) (k : Int) (fs : List F) : ∃ a b i e, Ans names ranks a b ∧ seqE names ranks k fs = [strsD a, numsD b, D.int .i64 i, D.int .i64 e] := by
 have key : ∀ (fs : List F) (i : Nat) (R : List Int), R.length = ranks.length → ∃ a b i' e, Ans names ranks a b ∧ seqT names k i R fs = [strsD a, numsD b, D.int .i64 i', D.int .i64 e] := by
  intro fs
  induction fs with
  | nil => intro i R hR; exact ⟨_, _, _, _, ⟨Nat.le_refl _, Nat.le_of_eq hR⟩, rfl⟩
  | cons f fs ih =>
   intro i R hR
   rw [seqT]
   by_cases h : itE names R f k = 0
   · rw [if_pos h]; exact ih _ _ (by rw [nextS_len, hR])
   · rw [if_neg h]; exact ⟨[], [], _, _, ⟨by simp, by simp⟩, rfl⟩
 unfold seqE
 by_cases h : ckE names ranks k = 0
 · rw [if_pos h]; exact key _ _ _ rfl
 · rw [if_neg h]; exact ⟨[], [], _, _, ⟨by simp, by simp⟩, rfl⟩
theorem short_vocI {names : List (List UInt8)} (h : vocOk names = true) : names.length < 1000000000 ∧ ∀ s ∈ names, s.length < 9223372036854775808 :=
 ⟨by have := vocOk_len h; omega, fun s hs => by have := validName_le' ((okNames_asc (vocOk_names h)).2 s hs); omega⟩
def tsD (ts : List (List F)) : D := .sl (ts.map fun t => [.sl (F.encs t)])
theorem get_T {ts : List (List F)} {i : Nat} (h : i < ts.length) : PO.eval (.get 0 1) [tsD ts, .int .i64 i] = some [.sl (F.encs ts[i])] := by simp [PO.eval, tsD, h]
theorem chk_T {ts : List (List F)} {i : Nat} (h : i < ts.length) : PO.eval .chk [tsD ts, .int .i64 i] = some [] := ev_chk (by omega) (by simp; omega)
theorem len_T (ts : List (List F)) : PO.eval .lenL [tsD ts] = some [.int .i64 ts.length] := by simp [tsD, ev_lenL]
theorem ianswers_run (nr : List (List UInt8)) (rr l0 : List Int) (f : F) (k0 : Int) (hnr : ∀ s ∈ nr, s.length < 9223372036854775808) :
 run tb 1 [strsD nr, numsD rr, .int .i64 f.op, .str f.name, .sl (F.encs f.args), numsD l0, .int .i64 k0] = some [.bool true] := by
 have aw := awake35_run
 have sm := small35_run nr rr
 have sf := small_run f
 simp only [rowF] at sf
 refine run_ir (x := ir1) rfl ?_
 by_cases c1 : (decide (nr.length ≤ 10) && decide (rr.length ≤ 100)) = true
 · rw [c1] at sm
   simp only [Bool.and_eq_true, decide_eq_true_eq] at c1
   cases c2 : smallF f with
   | true =>
    rw [c2] at sf
    obtain ⟨fs1, fs2, fs3⟩ := small_size c2
    obtain ⟨l, hl, hn⟩ := new_run l0
    obtain ⟨r, p, r1, r2, hp, hr⟩ := range_run 0 3 l 0 hl (by omega) (by omega) (by omega) (by omega)
    obtain ⟨n, rfl⟩ := Int.eq_ofNat_of_zero_le (show 0 ≤ r by omega)
    have hr : run tb 3 [.int .i64 0, .int .i64 3, numsD l, .int .i64 0] = some [.int .i64 n, numsD l, .int .i64 p] := hr
    have hn6 : n ≤ 6 := by omega
    obtain ⟨rs, q, hrs, h2, h3⟩ := some_run n hn6 l p hl hp
    obtain ⟨gs, q1, hq1, hgl, hgs, hgr⟩ := formulas35g_run 4 n (max n 1) (by omega) (by omega) (by omega) rfl l hl q h2
    have hgr : run tb 5 [.int .i64 4, .int .i64 n, numsD l, .int .i64 q] = some [.sl (F.encs gs), numsD l, .int .i64 q1] := hgr
    have hgm : ∀ g ∈ gs, g.size < 1000000000 ∧ F.allF nameB g = true := fun g hg => by
     obtain ⟨f1, f2, f3, f4, f5, f6⟩ := made_models (n := max n 1) (by omega) (Nat.le_refl 3) (hgs g hg)
     exact ⟨by omega, good_nameB f1⟩
    have hR : (normS rs).length = 2 ^ n := by rw [norm_len, hrs]
    have hR6 : 2 ^ n ≤ 64 := pow6 hn6
    have hv := vocN_ok hn6
    have hvl := (short_vocI hv).1
    have hvs := (short_vocI hv).2
    have hth := fun S => theory35_run n hn6 S
    have hths := fun S => thy_small hn6 S
    generalize normS rs = R at *
    generalize vocN n = V at *
    obtain ⟨os, hos⟩ : ∃ os : List (List (List UInt8) × List Int), os = [(nr, rr), (V, R)] := ⟨_, rfl⟩
    have hmk : PO.eval (.mk 2 2) [strsD nr, numsD rr, strsD V, numsD R] = some [ordsD os] := by subst hos; rfl
    have hall : ∀ o ∈ os, o.1.length < 1000000000 ∧ (∀ s ∈ o.1, s.length < 9223372036854775808) ∧ o.2.length < 1000000000 := by
     subst hos
     intro o ho
     simp only [List.mem_cons, List.not_mem_nil, or_false] at ho
     rcases ho with rfl | rfl
     · exact ⟨by simp only; omega, hnr, by simp only; omega⟩
     · exact ⟨hvl, hvs, by simp only; omega⟩
    have los : os.length = 2 := by subst hos; rfl
    clear hos
    simp (disch := omega) only [ir1, ir1p6, stepQ, stepL, eq_self, aBin, reduceIte, Int.reduceEq, Int.reduceLT, Int.reduceLE, Int.reduceGT, Int.reduceGE, sm, sf, hn, hr, h3, hgr, hmk, len_O]
    refine loop_k (σ := Nat) os.length (fun _ q => q ≤ l.length) (fun i q => [.int .i64 i, numsD l, .int .i64 q]) (fun _ _ => [.bool true]) ?_ ?_ 0 q1 (Nat.zero_le _) hq1
    · rintro i q L hi hq hL
      obtain ⟨y, q', y1, y2, hq', hy⟩ := range_run 1 3 l q hl hq (by omega) (by omega) (by omega)
      have hL := fun q hq => hL q hq
      obtain ⟨o1, o2, o3⟩ := hall os[i] (List.getElem_mem hi)
      have hget := get_O hi
      have hck := chk_O hi
      generalize os[i].1 = nm at *
      generalize os[i].2 = rk at *
      obtain ⟨ys, hys⟩ : ∃ ys : List Int, ys = [k0, y] := ⟨_, rfl⟩
      have hmkY : PO.eval (.mk 1 2) [.int .i64 k0, .int .i64 y] = some [numsD ys] := by subst hys; rfl
      have lys : ys.length = 2 := by subst hys; rfl
      clear hys
      simp (disch := omega) only [ir1p5, stepQ, stepL, eq_self, aBin, reduceIte, Int.reduceEq, Int.reduceLT, Int.reduceLE, Int.reduceGT, Int.reduceGE, hi, hck, hget, hy, hmkY, len_N]
      refine loop_k (σ := Nat) ys.length (fun _ q => q ≤ l.length) (fun i q => [.int .i64 i, numsD l, .int .i64 q]) (fun _ _ => [.bool true]) ?_ ?_ 0 q' (Nat.zero_le _) hq'
      · rintro j q M hj hq hM
        obtain ⟨S, q2, hq2, hS⟩ := set_run l q hl hq
        have hM2 := hM q2 hq2
        have hgY := get_N hj
        have hcY := chk_N hj
        generalize ys[j] = kk at *
        have ht := hth S
        obtain ⟨t1, t2⟩ := hths (S &&& allS V)
        generalize thy V (S &&& allS V) = t at *
        simp only [rowF] at ht
        have hmkF : PO.eval (.mk 3 2) [.int .i64 f.op, .str f.name, .sl (F.encs f.args), .int .i64 t.op, .str t.name, .sl (F.encs t.args)] = some [.sl (F.encs [f, t])] := by rw [ev_mk32]; simp [F.encs, F.enc_eq]
        have happ := app_FF (l := [f, t]) (g := gs) (by simp; omega)
        have hga : ∀ g ∈ [f, t] ++ gs, g.size < 1000000000 ∧ F.allF nameB g = true := fun g hg => by
         simp only [List.cons_append, List.nil_append, List.mem_cons] at hg
         rcases hg with rfl | rfl | hg
         · exact ⟨by omega, fs3⟩
         · exact ⟨t1, t2⟩
         · exact hgm g hg
        have hgal : ([f, t] ++ gs).length < 1000000000 := by simp; omega
        generalize [f, t] ++ gs = ga at *
        simp (disch := omega) only [ir1p4, stepQ, stepL, eq_self, aBin, reduceIte, Int.reduceEq, Int.reduceLT, Int.reduceLE, Int.reduceGT, Int.reduceGE, bvQ, wu, shl_norm, shr_norm, and1_norm, hj, hcY, hgY, hS, ht, hmkF, happ, len_F]
        refine loop_k (σ := Unit) ga.length (fun _ _ => True) (fun j _ => [.int .i64 j]) (fun _ _ => [.bool true]) ?_ ?_ 0 () (Nat.zero_le _) trivial
        · rintro x _ K hx _ hK
          have hnext := hK () trivial
          obtain ⟨z1, z2⟩ := hga ga[x] (List.getElem_mem hx)
          have n1 := nextP_run nm rk ga[x] kk o1 o3 z1
          have n2 := nextR_run nm rk ga[x] kk o1 o3 z1 o2 z2
          obtain ⟨a, b, e, ⟨ab1, ab2⟩, he⟩ := next_ans nm rk ga[x] kk
          rw [he] at n1 n2
          have hsm := sameR_run a (by omega) b (by omega)
          have hgF := get_F hx
          have hcF := chk_F hx
          simp only [rowF] at hgF
          generalize ga[x] = g at *
          simp (disch := omega) only [ir1p3, ir1p0, stepQ, stepL, eq_self, aBin, reduceIte, Int.reduceEq, Int.reduceLT, Int.reduceLE, Int.reduceGT, Int.reduceGE, hx, hcF, hgF, n1, n2, callQ_tvi, ibne, hsm, wr, natS, hnext]
        · rintro _ K _
          obtain ⟨ts, hts⟩ : ∃ ts : List (List F), ts = [gs, f :: gs, []] := ⟨_, rfl⟩
          have hmk1 : PO.eval (.mk 3 1) [.int .i64 f.op, .str f.name, .sl (F.encs f.args)] = some [.sl (F.encs [f])] := by simp [PO.eval, chunks, F.encs, F.enc_eq]
          have happ1 := app_FF (l := [f]) (g := gs) (by simp; omega)
          have hmkT : PO.eval (.mk 1 3) [.sl (F.encs gs), .sl (F.encs ([f] ++ gs)), .sl []] = some [tsD ts] := by subst hts; rfl
          have lts : ts.length = 3 := by subst hts; rfl
          have hta : ∀ t ∈ ts, t.length < 1000000000 ∧ ∀ g ∈ t, g.size < 1000000000 ∧ F.allF nameB g = true := by
           subst hts
           intro t ht
           simp only [List.mem_cons, List.not_mem_nil, or_false] at ht
           rcases ht with rfl | rfl | rfl
           · exact ⟨by omega, hgm⟩
           · refine ⟨by simp; omega, fun g hg => ?_⟩
             rcases List.mem_cons.1 hg with rfl | hg
             · exact ⟨by omega, fs3⟩
             · exact hgm g hg
           · simp
          clear hts
          simp (disch := omega) only [ir1p3, stepQ, stepL, eq_self, aBin, reduceIte, Int.reduceEq, Int.reduceLT, Int.reduceLE, Int.reduceGT, Int.reduceGE, Nat.lt_irrefl, hmk1, happ1, hmkT, len_T]
          refine loop_k (σ := Unit) ts.length (fun _ _ => True) (fun j _ => [.int .i64 j]) (fun _ _ => [.bool true]) ?_ ?_ 0 () (Nat.zero_le _) trivial
          · rintro x _ K2 hx _ hK2
            have hnext := hK2 () trivial
            obtain ⟨z0, z⟩ := hta ts[x] (List.getElem_mem hx)
            have s1 := seqP_run nm rk kk ts[x] o1 o3 z0 fun g hg => (z g hg).1
            have s2 := seqR_run nm rk kk ts[x] o1 o3 o2 z0 z
            have g1 := togP_run nm rk kk ts[x] o1 o3 z0 fun g hg => (z g hg).1
            have g2 := togR_run nm rk kk ts[x] o1 o3 o2 z0 z
            obtain ⟨a, b, i1, e, ⟨ab1, ab2⟩, he⟩ := seq_ans nm rk kk ts[x]
            obtain ⟨a', b', e', ⟨ab1', ab2'⟩, he'⟩ := tog_ans nm rk kk ts[x]
            rw [he] at s1 s2
            rw [he'] at g1 g2
            have hsm := sameR_run a (by omega) b (by omega)
            have hsm' := sameR_run a' (by omega) b' (by omega)
            have hgT := get_T hx
            have hcT := chk_T hx
            generalize ts[x] = t at *
            simp (disch := omega) only [ir1p2, ir1p1, stepQ, stepL, eq_self, aBin, reduceIte, Int.reduceEq, Int.reduceLT, Int.reduceLE, Int.reduceGT, Int.reduceGE, hx, hcT, hgT, s1, s2, g1, g2, callQ_tvi, ibne, hsm, hsm', wr, natS, hnext]
          · rintro _ K2 _
            simp (disch := omega) only [ir1p2, stepQ, stepL, eq_self, aBin, reduceIte, Int.reduceEq, Int.reduceLT, Int.reduceLE, Int.reduceGT, Int.reduceGE, Nat.lt_irrefl, wr, natS, hM2]
      · rintro q M hq
        have hL2 := hL q hq
        simp (disch := omega) only [ir1p4, stepQ, stepL, eq_self, aBin, reduceIte, Int.reduceEq, Int.reduceLT, Int.reduceLE, Int.reduceGT, Int.reduceGE, Nat.lt_irrefl, wr, natS, hL2]
    · rintro q L _
      simp (disch := omega) only [ir1p5, stepQ, stepL, eq_self, aBin, reduceIte, Int.reduceEq, Int.reduceLT, Int.reduceLE, Int.reduceGT, Int.reduceGE, Nat.lt_irrefl, aw]
   | false =>
    rw [c2] at sf
    simp (disch := omega) only [ir1, ir1p6, stepQ, stepL, eq_self, aBin, reduceIte, Int.reduceEq, Int.reduceLT, Int.reduceLE, Int.reduceGT, Int.reduceGE, sm, sf, aw]
 · rw [Bool.eq_false_iff.2 c1] at sm
   simp (disch := omega) only [ir1, ir1p6, stepQ, stepL, eq_self, aBin, reduceIte, Int.reduceEq, Int.reduceLT, Int.reduceLE, Int.reduceGT, Int.reduceGE, sm, aw]
end Go.Proofs.YtojkhlijbpmgpaaGreat
