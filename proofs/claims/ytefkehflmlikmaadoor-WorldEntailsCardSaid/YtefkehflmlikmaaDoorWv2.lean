/- Plain programs of the functions of the program and lemmas about what they compute. -/
import Derived.Test.YtefkehflmlikmaaDoorWv1
import Derived.Test.YtefkehflmlikmaaDoorAm6
set_option linter.unusedSimpArgs false
set_option linter.unusedVariables false
set_option linter.unusedSectionVars false
namespace Go.Proofs.YtefkehflmlikmaaDoor
open Go Am
set_option maxRecDepth 100000
set_option linter.unusedSimpArgs false
set_option linter.unusedVariables false
theorem thyE_small (voc : List (List UInt8)) (S : BitVec 64) : (thyE voc S).1.size < 1000000000 := by
 unfold thyE
 split
 · rename_i hv
   have h1 := (thy_ok (vocOk_names hv) S).2.1
   have h2 := pow6 (vocOk_len hv)
   show (thy voc S).size < _
   omega
 · decide
theorem theories_run (raw : List (List UInt8)) (X : BitVec 64) (l0 : List Int) (hr0 : raw.length ≤ 9223372036854775807) : run tb 0 [strsD raw, bvD X, numsD l0] = some [.bool true] := by
 have sm := short03_run raw hr0
 have aw := awake03_run
 refine run_ir (x := ir0) rfl ?_
 cases c1 : (raw.all (fun s => decide (s.length ≤ 60)) && decide (raw.length ≤ 12)) with
 | false =>
  rw [c1] at sm
  simp (disch := omega) only [ir0, stepQ, stepL, eq_self, aBin, reduceIte, Int.reduceEq, Int.reduceLT, Int.reduceLE, Int.reduceGT, Int.reduceGE, sm]
 | true =>
  rw [c1] at sm
  simp only [Bool.and_eq_true, decide_eq_true_eq, List.all_eq_true] at c1
  obtain ⟨l, hl, hn⟩ := new_run l0
  obtain ⟨r, p, r0, r1, hp, hr⟩ := n_run 7 l 0 hl (by omega) (by omega) (by omega)
  obtain ⟨n, rfl⟩ := Int.eq_ofNat_of_zero_le r0
  have hr : run tb 7 [.int .i64 7, numsD l, .int .i64 0] = some [.int .i64 n, numsD l, .int .i64 p] := hr
  have hvn := voc_run n (by omega)
  have hv6 := voc_run 6 (by omega)
  have hv6 : run tb 8 [.int .i64 6] = some [strsD (vocN 6)] := hv6
  obtain ⟨o, q, ho, hq, hod⟩ := odd_run l p hl hp
  obtain ⟨vs, hvs⟩ : ∃ vs : List (List (List UInt8)), vs = [raw, vocN n, vocN 6, o] := ⟨_, rfl⟩
  have hmk : PO.eval (.mk 1 4) [strsD raw, strsD (vocN n), strsD (vocN 6), strsD o] = some [lsD vs] := by subst hvs; rfl
  have hsh : ∀ v ∈ vs, Short v := by
   subst hvs
   intro v hv
   simp only [List.mem_cons, List.not_mem_nil, or_false] at hv
   rcases hv with rfl | rfl | rfl | rfl
   · exact ⟨by omega, fun s hs => by have := c1.1 s hs; omega⟩
   · exact vocN_sh (by omega)
   · exact vocN_sh (by omega)
   · exact ho
  have lvs : vs.length = 4 := by subst hvs; rfl
  clear hvs
  simp (disch := omega) only [ir0, stepQ, stepL, eq_self, aBin, reduceIte, Int.reduceEq, Int.reduceLT, Int.reduceLE, Int.reduceGT, Int.reduceGE, sm, hn, hr, hvn, hv6, callQ_S, hod, hmk, len_LS]
  refine loop_k (σ := Nat) vs.length (fun _ q => q ≤ l.length) (fun i q => [.int .i64 i, numsD l, .int .i64 q]) (fun _ _ => [.bool true]) ?_ ?_ 0 q (Nat.zero_le _) hq
  · rintro i q L hi hq hL
    obtain ⟨S, q', hq', hS⟩ := set_run l q hl hq
    have hnext := hL q' hq'
    obtain ⟨k1, k2⟩ := hsh vs[i] (List.getElem_mem hi)
    have hg := get_LS hi
    have hc := chk_LS hi
    generalize vs[i] = v at *
    obtain ⟨xs, hxs⟩ : ∃ xs : List (BitVec 64), xs = [X, S] := ⟨_, rfl⟩
    have hmk2 : PO.eval (.mk 1 2) [bvD X, bvD S] = some [bvsD xs] := by subst hxs; rfl
    have lxs : xs.length = 2 := by subst hxs; rfl
    clear hxs
    simp (disch := omega) only [ir0p2, stepQ, stepL, eq_self, aBin, reduceIte, Int.reduceEq, Int.reduceLT, Int.reduceLE, Int.reduceGT, Int.reduceGE, bvQ, wu, shl_norm, shr_norm, and1_norm, hi, hc, hg, hS, hmk2, len_V]
    refine loop_k (σ := Unit) xs.length (fun _ _ => True) (fun j _ => [.int .i64 j]) (fun _ _ => [.bool true]) ?_ ?_ 0 () (Nat.zero_le _) trivial
    · rintro j _ M hj _ hM
      have hnx := hM () trivial
      have gv := get_V hj
      have cv := chk_V hj
      generalize xs[j] = x at *
      have h1 := theoryW_run v (by omega) x
      have h2 := theoryR_run v (by omega) (fun s hs => by have := k2 s hs; omega) x
      have hz := thyE_small v x
      generalize (thyE v x).1 = f at *
      generalize (thyE v x).2 = e at *
      have h3 := same22_run f f hz hz
      rw [F.beq_refl] at h3
      simp only [rowF, List.cons_append, List.nil_append] at h1 h2 h3
      simp (disch := omega) only [ir0p1, ir0p0, stepQ, stepL, eq_self, aBin, reduceIte, Int.reduceEq, Int.reduceLT, Int.reduceLE, Int.reduceGT, Int.reduceGE, bvQ, wu, shl_norm, shr_norm, and1_norm, hj, cv, gv, h1, h2, h3, ibne, wr, natS, hnx]
    · rintro _ M _
      simp (disch := omega) only [ir0p1, stepQ, stepL, eq_self, aBin, reduceIte, Int.reduceEq, Int.reduceLT, Int.reduceLE, Int.reduceGT, Int.reduceGE, Nat.lt_irrefl, wr, natS, hnext]
  · rintro q L _
    simp (disch := omega) only [ir0p2, stepQ, stepL, eq_self, aBin, reduceIte, Int.reduceEq, Int.reduceLT, Int.reduceLE, Int.reduceGT, Int.reduceGE, Nat.lt_irrefl, aw]
theorem gen_run (n d : Nat) (h1 : 1 ≤ n) (hn : n ≤ 6) (hd : d ≤ 3) (l : List Int) (hl : l.length ≤ 2000) (p : Nat) (hp : p ≤ l.length) :
 ∃ (f : F) (b : Nat), b ≤ l.length ∧ good f = true ∧ f.size ≤ 256 ∧ f.depth ≤ 3 ∧ (∀ s ∈ F.atomL f, s ∈ vocN n) ∧ modelsE (vocN n) f = 0 ∧ modelsS (vocN n) f = modN (vocN n) f (2 ^ n) ∧
  run tb 18 [.int .i64 n, .int .i64 d, numsD l, .int .i64 p] = some [.int .i64 f.op, .str f.name, .sl (F.encs f.args), numsD l, .int .i64 b] := by
 obtain ⟨f, b, hb, hm, hr⟩ := formula_run n h1 (by omega) l hl d (by omega) p hp
 obtain ⟨a1, a2, a3, a4, a5, a6⟩ := made_models hn hd hm
 exact ⟨f, b, hb, a1, a2, a3, a4, a5, a6, hr⟩
theorem ebb (b : Bool) : PO.eval (.bin .eql true) [.bool b, .bool b] = some [.bool true] := by cases b <;> rfl
theorem mk31 (f : F) : PO.eval (.mk 3 1) [.int .i64 f.op, .str f.name, .sl (F.encs f.args)] = some [.sl (F.encs [f])] := by simp [PO.eval, chunks, F.encs, F.enc_eq]
theorem mk32 (f g : F) : PO.eval (.mk 3 2) [.int .i64 f.op, .str f.name, .sl (F.encs f.args), .int .i64 g.op, .str g.name, .sl (F.encs g.args)] = some [.sl (F.encs [f, g])] := by rw [ev_mk32]; simp [F.encs, F.enc_eq]
theorem entails03_run (l0 : List Int) : run tb 3 [numsD l0] = some [.bool true] := by
 have aw := awake03_run
 obtain ⟨l, hl, hn⟩ := new_run l0
 obtain ⟨f, p, hp, f1, f2, f3, f4, f5, f6, hf⟩ := gen_run 4 3 (by omega) (by omega) (by omega) l hl 0 (by omega)
 obtain ⟨g, q, hq, g1, g2, g3, g4, g5, g6, hg⟩ := gen_run 4 3 (by omega) (by omega) (by omega) l hl p hp
 obtain ⟨h, q2, hq2, h1, h2, h3, h4, h5, h6, hh⟩ := gen_run 4 2 (by omega) (by omega) (by omega) l hl q hq
 have hf : run tb 18 [.int .i64 4, .int .i64 3, numsD l, .int .i64 0] = some [.int .i64 f.op, .str f.name, .sl (F.encs f.args), numsD l, .int .i64 p] := hf
 have hg : run tb 18 [.int .i64 4, .int .i64 3, numsD l, .int .i64 p] = some [.int .i64 g.op, .str g.name, .sl (F.encs g.args), numsD l, .int .i64 q] := hg
 have hh : run tb 18 [.int .i64 4, .int .i64 2, numsD l, .int .i64 q] = some [.int .i64 h.op, .str h.name, .sl (F.encs h.args), numsD l, .int .i64 q2] := hh
 have hv4 : run tb 8 [.int .i64 4] = some [strsD (vocN 4)] := voc_run 4 (by omega)
 have hvo := vocN_ok (n := 4) (by omega)
 have hlen : (vocN 4).length < 1000000000 := by rw [vocN_len]; omega
 have e1 := entails_run (vocN 4) f g hlen (by omega) (by omega)
 have e2 := entails_run (vocN 4) g h hlen (by omega) (by omega)
 have e3 := entails_run (vocN 4) f h hlen (by omega) (by omega)
 have e4 := entails_run (vocN 4) f f hlen (by omega) (by omega)
 simp only [entE, f5, g5, h5, ne_eq, not_true_eq_false, if_false] at e1 e2 e3 e4
 have hff : modelsS (vocN 4) f &&& ~~~modelsS (vocN 4) f = 0#64 := BitVec.and_not_self _
 rw [hff, decide_eq_true rfl] at e4
 have sng : (ng g).size = 1 + g.size := by simp [ng, F.size, F.sizes]
 have dng : (ng g).depth = 1 + g.depth := by simp [ng, F.depth, F.depths]
 have ang : F.atomL (ng g) = F.atomL g := by simp [ng, F.atomL, F.atomLs]
 have gng : good (ng g) = true := good_nd rfl rfl (by simpa using g1)
 have sm : (F.mk 5 [] [f, ng g]).size = 1 + (f.size + (ng g).size) := by simp [F.size, F.sizes]
 have dm : (F.mk 5 [] [f, ng g]).depth = max (1 + f.depth) (1 + (ng g).depth) := by simp [F.depth, F.depths]
 obtain ⟨m1, m2⟩ := mk_models hvo (o := 5) (by decide) (args := [f, ng g]) (good_pr (.inl rfl) f1 gng) (by omega) (by omega) (fun x hx s hs => by
  simp only [List.mem_cons, List.not_mem_nil, or_false] at hx
  rcases hx with rfl | rfl
  · exact f4 s hs
  · rw [ang] at hs; exact g4 s hs)
 have m3 : modelsS (vocN 4) (F.mk 5 [] [f, ng g]) = modelsS (vocN 4) f &&& ~~~modelsS (vocN 4) g := set_eq fun w => by
  rw [m2, f6, g6, has_diff, show (2 : Nat) ^ 4 = 2 ^ (vocN 4).length by rw [vocN_len], has_N hvo, has_N hvo, has_N hvo, show F.mk 5 [] [f, ng g] = pr 5 f (ng g) from rfl, val_pr5, val_ng]
  cases F.val (yesN (vocN 4) w) f <;> cases F.val (yesN (vocN 4) w) g <;> simp
 have hm := modelsW_run (vocN 4) (F.mk 5 [] [f, ng g]) hlen (by omega)
 rw [m1, m3] at hm
 simp only [rowF, F.op_mk, F.name_mk, F.args_mk] at hm
 have k1 := mk31 g
 have k2 := mk32 f (ng g)
 simp only [ng, F.op_mk, F.name_mk, F.args_mk] at k2 hm
 refine run_ir (x := ir3) rfl ?_
 have trans : modelsS (vocN 4) f &&& ~~~modelsS (vocN 4) g = 0#64 → modelsS (vocN 4) g &&& ~~~modelsS (vocN 4) h = 0#64 → modelsS (vocN 4) f &&& ~~~modelsS (vocN 4) h = 0#64 := fun a b => set_zero.2 fun w hw => by
  rw [has_diff] at hw
  by_cases hgw : has (modelsS (vocN 4) g) w
  · exact set_zero.1 b w (has_diff.2 ⟨hgw, hw.2⟩)
  · exact set_zero.1 a w (has_diff.2 ⟨hw.1, hgw⟩)
 generalize modelsS (vocN 4) f &&& ~~~modelsS (vocN 4) g = A at *
 generalize modelsS (vocN 4) g &&& ~~~modelsS (vocN 4) h = B at *
 generalize modelsS (vocN 4) f &&& ~~~modelsS (vocN 4) h = C at *
 by_cases a : A = 0#64
 · by_cases b : B = 0#64
   · have c := trans a b
     rw [decide_eq_true a] at e1
     rw [decide_eq_true b] at e2
     rw [decide_eq_true c] at e3
     simp (disch := omega) only [ir3, ir3p0, stepQ, stepL, eq_self, aBin, reduceIte, Int.reduceEq, Int.reduceLT, Int.reduceLE, Int.reduceGT, Int.reduceGE, bvQ, wu, shl_norm, shr_norm, and1_norm, hn, hv4, callQ_S, hf, hg, hh, e1, e2, e3, e4, callQ_tbi, callQ_tvi, k1, k2, hm, ibne, a, ebb, aw]
   · rw [decide_eq_true a] at e1
     rw [decide_eq_false b] at e2
     by_cases c : C = 0#64
     · rw [decide_eq_true c] at e3
       simp (disch := omega) only [ir3, ir3p0, stepQ, stepL, eq_self, aBin, reduceIte, Int.reduceEq, Int.reduceLT, Int.reduceLE, Int.reduceGT, Int.reduceGE, bvQ, wu, shl_norm, shr_norm, and1_norm, hn, hv4, callQ_S, hf, hg, hh, e1, e2, e3, e4, callQ_tbi, callQ_tvi, k1, k2, hm, ibne, a, ebb, aw]
     · rw [decide_eq_false c] at e3
       simp (disch := omega) only [ir3, ir3p0, stepQ, stepL, eq_self, aBin, reduceIte, Int.reduceEq, Int.reduceLT, Int.reduceLE, Int.reduceGT, Int.reduceGE, bvQ, wu, shl_norm, shr_norm, and1_norm, hn, hv4, callQ_S, hf, hg, hh, e1, e2, e3, e4, callQ_tbi, callQ_tvi, k1, k2, hm, ibne, a, ebb, aw]
 · rw [decide_eq_false a] at e1
   generalize decide (B = 0#64) = bb at *
   by_cases c : C = 0#64
   · rw [decide_eq_true c] at e3
     cases bb <;> simp (disch := omega) only [ir3, ir3p0, stepQ, stepL, eq_self, aBin, reduceIte, Int.reduceEq, Int.reduceLT, Int.reduceLE, Int.reduceGT, Int.reduceGE, bvQ, wu, shl_norm, shr_norm, and1_norm, hn, hv4, callQ_S, hf, hg, hh, e1, e2, e3, e4, callQ_tbi, callQ_tvi, k1, k2, hm, ibne, a, ebb, aw]
   · rw [decide_eq_false c] at e3
     cases bb <;> simp (disch := omega) only [ir3, ir3p0, stepQ, stepL, eq_self, aBin, reduceIte, Int.reduceEq, Int.reduceLT, Int.reduceLE, Int.reduceGT, Int.reduceGE, bvQ, wu, shl_norm, shr_norm, and1_norm, hn, hv4, callQ_S, hf, hg, hh, e1, e2, e3, e4, callQ_tbi, callQ_tvi, k1, k2, hm, ibne, a, ebb, aw]
end Go.Proofs.YtefkehflmlikmaaDoor
