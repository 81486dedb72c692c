/- Plain programs of the functions of the program and lemmas about what they compute. -/
import Derived.Test.YtgmnlkjoiakoaaaDoorPl5
import Derived.Test.YtgmnlkjoiakoaaaDoorPlAw
import Derived.Test.YtgmnlkjoiakoaaaDoorRw0
import Derived.Test.YtgmnlkjoiakoaaaDoorRw1
set_option linter.unusedSimpArgs false
set_option linter.unusedVariables false
set_option linter.unusedSectionVars false
namespace Go.Proofs.YtgmnlkjoiakoaaaDoor
open Go Am
set_option maxRecDepth 100000
set_option maxHeartbeats 1000000
set_option linter.unusedSimpArgs false
set_option linter.unusedVariables false
/-- small enough for a machine -/
def Fit (f : F) : Prop := f.size ≤ 1000 ∧ f.depth ≤ 100 ∧ F.allF nameB f = true
theorem atoms_run (f : F) (hs : f.size < 10000000000) (hd : f.depth < 1000) : run tb 29 (rowF f) = some [strsD (canon (F.atomL f))] := run_ext rfl (atomsE_run f hs hd)
theorem values_p1 (l0 l : List Int) (raw other goodF sp : F) (name : List UInt8) (yes : List (List UInt8)) (p q : Nat) (fs : List F) (hf4 : fs.length = 4) (hfs : ∀ f ∈ fs, Fit f) (i s t : Nat) (hi : i < 4) (f : F) (hf : Fit f) (L L1 L2 : PF) (hL : L [.int .i64 (i + 1 : Nat), numsD l, .int .i64 t] = some [.bool true]) :
    loopQ (run tb) ir7p1 (rowF raw ++ rowF other ++ [.str name, strsD yes, numsD l0, .bool false, numsD l, .int .i64 0] ++ rowF goodF ++ [numsD l, .int .i64 p] ++ rowF sp ++ [numsD l, .int .i64 q, .sl (F.encs fs), .int .i64 4] ++ [.int .i64 i, numsD l, .int .i64 s, .bool true] ++ rowF f ++ [strsD (canon (F.atomL f)), strsD (canon (F.atomL f)), .bool false, .int .i64 (canon (F.atomL f)).length] ++ [.int .i64 (canon (F.atomL f)).length, .bool false] ++ [.int .i64 3, numsD l, .int .i64 t, .bool false, .int .i64 4]) [L, L1, L2] [.int .i64 0] = some [.bool true] := by
  have key := loop_k (run := run tb) (body := ir7p1) (e := rowF raw ++ rowF other ++ [.str name, strsD yes, numsD l0, .bool false, numsD l, .int .i64 0] ++ rowF goodF ++ [numsD l, .int .i64 p] ++ rowF sp ++ [numsD l, .int .i64 q, .sl (F.encs fs), .int .i64 4] ++ [.int .i64 i, numsD l, .int .i64 s, .bool true] ++ rowF f ++ [strsD (canon (F.atomL f)), strsD (canon (F.atomL f)), .bool false, .int .i64 (canon (F.atomL f)).length] ++ [.int .i64 (canon (F.atomL f)).length, .bool false] ++ [.int .i64 3, numsD l, .int .i64 t, .bool false, .int .i64 4]) (J := [L, L1, L2]) (σ := Unit) 4
    (fun _ _ => True) (fun j _ => [.int .i64 j]) (fun _ _ => [.bool true])
    (by
      rintro j _ M hj _ hM
      have hnext := hM () trivial
      have hj' : j < fs.length := by omega
      have hj4 : (j : Int) < 4 := by omega
      have hg := hfs _ (List.getElem_mem hj')
      have hget := get_F hj'
      have hchk := chk_F hj'
      obtain ⟨f1, f2, f3⟩ := hf
      obtain ⟨g1, g2, g3⟩ := hg
      generalize fs[j] = g at hget g1 g2 g3
      have hm : f.size * g.size ≤ 1000 * 1000 := Nat.mul_le_mul f1 g1
      have s1 := same33_run f g (by omega) (by omega)
      have s2 := same22_run f g (by omega) (by omega)
      have u1 := subst_run name f g (by omega) (by omega)
      have u2 := subst34_run name g (by omega) f (by omega)
      have u3 := subst_run [97] f g (by omega) (by omega)
      have u4 := subst34_run [97] g (by omega) f (by omega)
      have z1 := size_subst name g f
      have z2 := size_subst [97] g f
      have w1 := same22_run (F.subst name g f) (F.subst name g f) (by omega) (by omega)
      have w2 := same22_run (F.subst [97] g f) (F.subst [97] g f) (by omega) (by omega)
      rw [F.beq_refl] at w1 w2
      simp only [rowF, Int.cast_ofNat_Int, nat0, List.cons_append, List.nil_append] at hget s1 s2 u1 u2 u3 u4 w1 w2
      cases hb : F.beq f g <;>
      · rw [hb] at s1 s2
        simp (disch := omega) only [ir7p1, ir7p0, rowF, stepQ, List.map_cons, List.map_nil, List.cons_append, List.nil_append, List.append_nil, List.length_map, List.getElem?_cons_zero, List.getElem?_cons_succ, eq_self, aBin, aUn, reduceIte, Int.reduceEq, Int.reduceLT, Int.reduceLE, Int.reduceGT, Int.reduceGE, hj4, hchk, hget, s1, s2, u1, u2, u3, u4, w1, w2, ev_binB, wr, natS, hnext])
    (by
      rintro _ M _
      simp (disch := omega) only [ir7p1, rowF, stepQ, List.map_cons, List.map_nil, List.cons_append, List.nil_append, List.append_nil, List.length_map, List.getElem?_cons_zero, List.getElem?_cons_succ, eq_self, aBin, aUn, reduceIte, Int.reduceEq, Int.reduceLT, Int.reduceLE, Int.reduceGT, Int.reduceGE, wr, natS, hL])
  have hk := key 0 () (by omega) trivial
  simpa only [nat0] using hk
theorem values_p2 (l0 l : List Int) (raw other goodF sp : F) (name : List UInt8) (yes : List (List UInt8)) (p q : Nat) (fs : List F) (hl : l.length ≤ 2000) (hf4 : fs.length = 4) (hfs : ∀ f ∈ fs, Fit f) (i s : Nat) (hi : i < 4) (hs : s ≤ l.length) (f : F) (hf : Fit f) (L L1 : PF) (hL : ∀ t, t ≤ l.length → L [.int .i64 (i + 1 : Nat), numsD l, .int .i64 t] = some [.bool true]) :
    loopQ (run tb) ir7p2 (rowF raw ++ rowF other ++ [.str name, strsD yes, numsD l0, .bool false, numsD l, .int .i64 0] ++ rowF goodF ++ [numsD l, .int .i64 p] ++ rowF sp ++ [numsD l, .int .i64 q, .sl (F.encs fs), .int .i64 4] ++ [.int .i64 i, numsD l, .int .i64 s, .bool true] ++ rowF f ++ [strsD (canon (F.atomL f)), strsD (canon (F.atomL f)), .bool false, .int .i64 (canon (F.atomL f)).length] ++ [.int .i64 (canon (F.atomL f)).length, .bool false]) [L, L1] [.int .i64 0, numsD l, .int .i64 s] = some [.bool true] := by
  have key := loop_k (run := run tb) (body := ir7p2) (e := rowF raw ++ rowF other ++ [.str name, strsD yes, numsD l0, .bool false, numsD l, .int .i64 0] ++ rowF goodF ++ [numsD l, .int .i64 p] ++ rowF sp ++ [numsD l, .int .i64 q, .sl (F.encs fs), .int .i64 4] ++ [.int .i64 i, numsD l, .int .i64 s, .bool true] ++ rowF f ++ [strsD (canon (F.atomL f)), strsD (canon (F.atomL f)), .bool false, .int .i64 (canon (F.atomL f)).length] ++ [.int .i64 (canon (F.atomL f)).length, .bool false]) (J := [L, L1]) (σ := Nat) 3
    (fun _ t => t ≤ l.length) (fun k t => [.int .i64 k, numsD l, .int .i64 t]) (fun _ _ => [.bool true])
    (by
      rintro k t M hk ht hM
      have hk3 : (k : Int) < 3 := by omega
      obtain ⟨ys, b, hy, hb, hr⟩ := yes_run l t hl ht
      have hnext := hM b hb
      obtain ⟨f1, f2, f3⟩ := hf
      have e1 := eval26_run ys (by omega) f (by omega)
      have e2 := eval32_run ys (by omega) f (by omega) f3
      simp only [rowF, Int.cast_ofNat_Int, nat0, List.cons_append, List.nil_append] at e1 e2
      cases hv : (good f && F.val ys f) <;>
      · rw [hv] at e1 e2
        simp (disch := omega) only [ir7p2, rowF, stepQ, List.map_cons, List.map_nil, List.cons_append, List.nil_append, List.append_nil, List.length_map, List.getElem?_cons_zero, List.getElem?_cons_succ, eq_self, aBin, aUn, reduceIte, Int.reduceEq, Int.reduceLT, Int.reduceLE, Int.reduceGT, Int.reduceGE, hk3, hr, e1, e2, ev_binB, wr, natS, hnext])
    (by
      rintro t M ht
      have h1 := values_p1 l0 l raw other goodF sp name yes p q fs hf4 hfs i s t hi f hf L L1 M (hL t ht)
      simp only [rowF, Int.cast_ofNat_Int, nat0, List.cons_append, List.nil_append] at h1
      have hlen : PO.eval .lenL [.sl (F.encs fs)] = some [.int .i64 4] := by rw [len_F, hf4]; rfl
      simp (disch := omega) only [ir7p2, rowF, stepQ, List.map_cons, List.map_nil, List.cons_append, List.nil_append, List.append_nil, List.length_map, List.getElem?_cons_zero, List.getElem?_cons_succ, eq_self, aBin, aUn, reduceIte, Int.reduceEq, Int.reduceLT, Int.reduceLE, Int.reduceGT, Int.reduceGE, hlen, h1])
  have hk := key 0 s (by omega) hs
  simpa only [nat0] using hk
theorem values_p3 (l0 l : List Int) (raw other goodF sp : F) (name : List UInt8) (yes : List (List UInt8)) (p q : Nat) (fs : List F) (hl : l.length ≤ 2000) (hf4 : fs.length = 4) (hfs : ∀ f ∈ fs, Fit f) (i s : Nat) (hi : i < 4) (hs : s ≤ l.length) (f : F) (hf : Fit f) (L : PF) (hL : ∀ t, t ≤ l.length → L [.int .i64 (i + 1 : Nat), numsD l, .int .i64 t] = some [.bool true]) :
    loopQ (run tb) ir7p3 (rowF raw ++ rowF other ++ [.str name, strsD yes, numsD l0, .bool false, numsD l, .int .i64 0] ++ rowF goodF ++ [numsD l, .int .i64 p] ++ rowF sp ++ [numsD l, .int .i64 q, .sl (F.encs fs), .int .i64 4] ++ [.int .i64 i, numsD l, .int .i64 s, .bool true] ++ rowF f ++ [strsD (canon (F.atomL f)), strsD (canon (F.atomL f)), .bool false, .int .i64 (canon (F.atomL f)).length]) [L] [.int .i64 0] = some [.bool true] := by
  have hbound : (canon (F.atomL f)).length ≤ 1000 := by
    have h1 := compact_len (sortL (F.atomL f))
    have h2 := F.atomL_len f
    rw [sortL_len] at h1
    have := hf.1
    unfold canon; omega
  have key := loop_k (run := run tb) (body := ir7p3) (e := rowF raw ++ rowF other ++ [.str name, strsD yes, numsD l0, .bool false, numsD l, .int .i64 0] ++ rowF goodF ++ [numsD l, .int .i64 p] ++ rowF sp ++ [numsD l, .int .i64 q, .sl (F.encs fs), .int .i64 4] ++ [.int .i64 i, numsD l, .int .i64 s, .bool true] ++ rowF f ++ [strsD (canon (F.atomL f)), strsD (canon (F.atomL f)), .bool false, .int .i64 (canon (F.atomL f)).length]) (J := [L]) (σ := Unit) (canon (F.atomL f)).length
    (fun _ _ => True) (fun j _ => [.int .i64 j]) (fun _ _ => [.bool true])
    (by
      rintro j _ M hj _ hM
      have hnext := hM () trivial
      have hb : ((canon (F.atomL f))[j] == (canon (F.atomL f))[j]) = true := by simp
      simp (disch := omega) only [ir7p3, rowF, stepQ, List.map_cons, List.map_nil, List.cons_append, List.nil_append, List.append_nil, List.length_map, List.getElem?_cons_zero, List.getElem?_cons_succ, eq_self, aBin, aUn, reduceIte, Int.reduceEq, Int.reduceLT, Int.reduceLE, Int.reduceGT, Int.reduceGE, hj, row_S, hb, wr, natS, hnext])
    (by
      rintro _ M _
      have h1 := values_p2 l0 l raw other goodF sp name yes p q fs hl hf4 hfs i s hi hs f hf L M hL
      simp only [rowF, Int.cast_ofNat_Int, nat0, List.cons_append, List.nil_append] at h1
      simp (disch := omega) only [ir7p3, rowF, stepQ, List.map_cons, List.map_nil, List.cons_append, List.nil_append, List.append_nil, List.length_map, List.getElem?_cons_zero, List.getElem?_cons_succ, eq_self, aBin, aUn, reduceIte, Int.reduceEq, Int.reduceLT, Int.reduceLE, Int.reduceGT, Int.reduceGE, Nat.lt_irrefl, h1])
  have hk := key 0 () (by omega) trivial
  simpa only [nat0] using hk
theorem values_p5 (l0 l : List Int) (raw other goodF sp : F) (name : List UInt8) (yes : List (List UInt8)) (p q : Nat) (fs : List F) (aw : run tb 20 [] = some [.bool true]) (hyes : yes.length ≤ 20) (hl : l.length ≤ 2000) (hf4 : fs.length = 4) (hfs : ∀ f ∈ fs, Fit f) (hq : q ≤ l.length) :
    loopQ (run tb) ir7p5 (rowF raw ++ rowF other ++ [.str name, strsD yes, numsD l0, .bool false, numsD l, .int .i64 0] ++ rowF goodF ++ [numsD l, .int .i64 p] ++ rowF sp ++ [numsD l, .int .i64 q, .sl (F.encs fs), .int .i64 4]) [] [.int .i64 0, numsD l, .int .i64 q] = some [.bool true] := by
  have key := loop_k (run := run tb) (body := ir7p5) (e := rowF raw ++ rowF other ++ [.str name, strsD yes, numsD l0, .bool false, numsD l, .int .i64 0] ++ rowF goodF ++ [numsD l, .int .i64 p] ++ rowF sp ++ [numsD l, .int .i64 q, .sl (F.encs fs), .int .i64 4]) (J := []) (σ := Nat) 4
    (fun _ s => s ≤ l.length) (fun i s => [.int .i64 i, numsD l, .int .i64 s]) (fun _ _ => [.bool true])
    (by
      rintro i s L hi hs hL
      have hi' : i < fs.length := by omega
      have hi4 : (i : Int) < 4 := by omega
      have hf := hfs _ (List.getElem_mem hi')
      have hget := get_F hi'
      have hchk := chk_F hi'
      generalize fs[i] = f at hget hf
      have h3 := values_p3 l0 l raw other goodF sp name yes p q fs hl hf4 hfs i s hi hs f hf L (fun t ht => hL t ht)
      obtain ⟨f1, f2, f3⟩ := hf
      have a1 := atoms_run f (by omega) (by omega)
      have a2 := atoms31_run f (by omega)
      have e1 := eval26_run yes (by omega) f (by omega)
      have e2 := eval32_run yes (by omega) f (by omega) f3
      simp only [rowF, Int.cast_ofNat_Int, nat0, List.cons_append, List.nil_append] at hget h3 a1 a2 e1 e2
      cases hv : (good f && F.val yes f) <;>
      · rw [hv] at e1 e2
        simp (disch := omega) only [ir7p5, ir7p4, rowF, stepQ, List.map_cons, List.map_nil, List.cons_append, List.nil_append, List.append_nil, List.length_map, List.getElem?_cons_zero, List.getElem?_cons_succ, eq_self, aBin, aUn, reduceIte, Int.reduceEq, Int.reduceLT, Int.reduceLE, Int.reduceGT, Int.reduceGE, hi4, hchk, hget, a1, a2, len_S, e1, e2, ibne, ev_binB, h3])
    (by
      rintro s L hs
      simp (disch := omega) only [ir7p5, rowF, stepQ, List.map_cons, List.map_nil, List.cons_append, List.nil_append, List.append_nil, List.length_map, List.getElem?_cons_zero, List.getElem?_cons_succ, eq_self, aBin, aUn, reduceIte, Int.reduceEq, Int.reduceLT, Int.reduceLE, Int.reduceGT, Int.reduceGE, aw])
  have hk := key 0 q (by omega) hq
  simpa only [nat0] using hk
theorem encs_4 (a b c d : F) : F.encs [a, b, c, d] = [rowF a, rowF b, rowF c, rowF d] := by simp [F.encs, F.enc_eq]
theorem smallF_fit {f : F} (h : smallF f = true) : Fit f ∧ f.size ≤ 800 := by
  simp only [smallF, Bool.and_eq_true, decide_eq_true_eq] at h
  refine ⟨⟨by omega, by omega, allF_mono (fun g hg => ?_) f h.2.2⟩, h.1⟩
  simp only [shortB, decide_eq_true_eq] at hg
  exact decide_eq_true (by omega)
theorem values_run (l0 : List Int) (raw other : F) (name : List UInt8) (yes : List (List UInt8)) (aw : run tb 20 [] = some [.bool true]) :
    run tb 7 (rowF raw ++ rowF other ++ [.str name, strsD yes, numsD l0]) = some [.bool true] := by
  refine run_ir (x := ir7) rfl ?_
  have r1 := small_run raw
  have r2 := small_run other
  simp only [rowF] at r1 r2
  -- what is too large
  by_cases c1 : smallF raw = true
  case neg =>
    have c1' : smallF raw = false := by simpa using c1
    rw [c1'] at r1
    simp (disch := omega) only [ir7, ir7p6, rowF, stepQ, List.map_cons, List.map_nil, List.cons_append, List.nil_append, List.append_nil, List.length_map, List.getElem?_cons_zero, List.getElem?_cons_succ, eq_self, aBin, aUn, reduceIte, Int.reduceEq, Int.reduceLT, Int.reduceLE, Int.reduceGT, Int.reduceGE, r1]
  by_cases c2 : smallF other = true
  case neg =>
    have c2' : smallF other = false := by simpa using c2
    rw [c1] at r1
    rw [c2'] at r2
    simp (disch := omega) only [ir7, ir7p6, rowF, stepQ, List.map_cons, List.map_nil, List.cons_append, List.nil_append, List.append_nil, List.length_map, List.getElem?_cons_zero, List.getElem?_cons_succ, eq_self, aBin, aUn, reduceIte, Int.reduceEq, Int.reduceLT, Int.reduceLE, Int.reduceGT, Int.reduceGE, r1, r2]
  rw [c1] at r1
  rw [c2] at r2
  by_cases c3 : ((name.length : Nat) : Int) > 100
  · simp (disch := omega) only [ir7, ir7p6, rowF, stepQ, List.map_cons, List.map_nil, List.cons_append, List.nil_append, List.append_nil, List.length_map, List.getElem?_cons_zero, List.getElem?_cons_succ, eq_self, aBin, aUn, reduceIte, Int.reduceEq, Int.reduceLT, Int.reduceLE, Int.reduceGT, Int.reduceGE, r1, r2, c3]
  by_cases c4 : ((yes.length : Nat) : Int) > 20
  · simp (disch := omega) only [ir7, ir7p6, rowF, stepQ, List.map_cons, List.map_nil, List.cons_append, List.nil_append, List.append_nil, List.length_map, List.getElem?_cons_zero, List.getElem?_cons_succ, eq_self, aBin, aUn, reduceIte, Int.reduceEq, Int.reduceLT, Int.reduceLE, Int.reduceGT, Int.reduceGE, r1, r2, c3, len_S, c4]
  have n1 := nodes_run raw 60 (by omega)
  have n2 := nodes_run other 60 (by omega)
  simp only [rowF, Int.cast_ofNat_Int, nat0, List.cons_append, List.nil_append] at n1 n2
  obtain ⟨x, hx⟩ : ∃ x, x = min raw.size (60 + 1) := ⟨_, rfl⟩
  obtain ⟨y, hy⟩ : ∃ y, y = min other.size (60 + 1) := ⟨_, rfl⟩
  rw [← hx] at n1
  rw [← hy] at n2
  have hxy : (x : Int) * (y : Int) ≤ 61 * 61 := by
    have : x * y ≤ 61 * 61 := Nat.mul_le_mul (by omega) (by omega)
    exact_mod_cast this
  have hxy0 : 0 ≤ (x : Int) * (y : Int) := Int.mul_nonneg (by omega) (by omega)
  have hmul : IntKind.i64.wrap ((x : Int) * (y : Int)) = (x : Int) * (y : Int) := wr (by omega) (by omega)
  by_cases c5 : (x : Int) * (y : Int) > 2000
  · simp (disch := omega) only [ir7, ir7p6, rowF, stepQ, List.map_cons, List.map_nil, List.cons_append, List.nil_append, List.append_nil, List.length_map, List.getElem?_cons_zero, List.getElem?_cons_succ, eq_self, aBin, aUn, reduceIte, Int.reduceEq, Int.reduceLT, Int.reduceLE, Int.reduceGT, Int.reduceGE, r1, r2, c3, len_S, c4, n1, n2, hmul, c5]
  obtain ⟨l, hl, hn⟩ := new_run l0
  obtain ⟨goodF, p, hp, hg, hrg⟩ := formula_run 4 (by omega) (by omega) l hl 3 (by omega) 0 (by omega)
  have sg : goodF.size ≤ 256 := hg.2.2.1
  have dg : goodF.depth ≤ 3 := hg.2.1
  have lg := good_lenB hg.1
  have ng : F.allF nameB goodF = true := allF_mono (fun g hg => by simp only [lenB, decide_eq_true_eq] at hg; exact decide_eq_true (by omega)) goodF lg
  obtain ⟨sp, q, hq, hsp, hrs⟩ := spoilt_run l hl goodF (by omega) ng p hp
  obtain ⟨s1, s2, s3⟩ := hsp
  have nsp : F.allF nameB sp = true := allF_mono (fun g hg => by simp only [lenB, decide_eq_true_eq] at hg; exact decide_eq_true (by omega)) sp (s3 100 (by omega) (allF_mono (fun g hg => by simp only [lenB, decide_eq_true_eq] at hg ⊢; omega) goodF lg))
  have hall : ∀ f ∈ [raw, other, goodF, sp], Fit f := by
    intro f hf
    simp only [List.mem_cons, List.not_mem_nil, or_false] at hf
    rcases hf with rfl | rfl | rfl | rfl
    · exact (smallF_fit c1).1
    · exact (smallF_fit c2).1
    · exact ⟨by omega, by omega, ng⟩
    · exact ⟨by omega, by omega, nsp⟩
  have h5 := values_p5 l0 l raw other goodF sp name yes p q [raw, other, goodF, sp] aw (by omega) hl rfl hall hq
  have hmk : PO.eval (.mk 3 4) (rowF raw ++ rowF other ++ rowF goodF ++ rowF sp) = some [.sl (F.encs [raw, other, goodF, sp])] := by rw [encs_4]; rfl
  have hlen : PO.eval .lenL [.sl (F.encs [raw, other, goodF, sp])] = some [.int .i64 4] := by rw [len_F]; rfl
  simp only [rowF, Int.cast_ofNat_Int, nat0, List.cons_append, List.nil_append] at hrg hrs h5 hmk
  generalize F.encs [raw, other, goodF, sp] = es at h5 hmk hlen
  simp (disch := omega) only [ir7, ir7p6, rowF, stepQ, List.map_cons, List.map_nil, List.cons_append, List.nil_append, List.append_nil, List.length_map, List.getElem?_cons_zero, List.getElem?_cons_succ, eq_self, aBin, aUn, reduceIte, Int.reduceEq, Int.reduceLT, Int.reduceLE, Int.reduceGT, Int.reduceGE, r1, r2, c3, len_S, c4, n1, n2, hmul, c5, hn, hrg, hrs, hmk, hlen, h5]
end Go.Proofs.YtgmnlkjoiakoaaaDoor

namespace Go.Proofs.YtgmnlkjoiakoaaaDoor
open Go Am
set_option maxRecDepth 100000
theorem formulaValues_true (I : List (List D)) (hI : Ins Tryd.prog Tryd.f10.params.toList I) : run tb 7 I.flatten = some [.bool true] := by
  rw [Tryd.params10] at hI
  obtain _ | ⟨n1, h1, _, hI⟩ := hI
  obtain _ | ⟨n2, h2, _, hI⟩ := hI
  obtain _ | ⟨n3, h3, _, hI⟩ := hI
  obtain _ | ⟨n4, h4, _, hI⟩ := hI
  obtain _ | ⟨n5, h5, _, hI⟩ := hI
  cases hI
  obtain ⟨raw, rfl⟩ := wt_form _ _ (Nat.le_refl _) _ h1
  obtain ⟨other, rfl⟩ := wt_form _ _ (Nat.le_refl _) _ h2
  obtain ⟨s, rfl, _⟩ := wt_str h3
  obtain ⟨y, rfl, _⟩ := wt_strs h4
  obtain ⟨l, rfl, _⟩ := wt_ints h5
  exact values_run l raw other s y awake_run
end Go.Proofs.YtgmnlkjoiakoaaaDoor
