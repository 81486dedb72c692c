/- Plain programs of the functions of the program and lemmas about what they compute. -/
import Derived.Test.YtjedjjooidohhaaOr1
import Derived.Test.YtjedjjooidohhaaAm6
set_option linter.unusedSimpArgs false
set_option linter.unusedVariables false
set_option linter.unusedSectionVars false
namespace Go.Proofs.Ytjedjjooidohhaa
open Go Am
set_option maxRecDepth 100000
set_option linter.unusedSimpArgs false
set_option linter.unusedVariables false
/-! # the statement about refining -/
theorem equalS_run (l : List (List UInt8)) (hl : l.length < 1000000000) : run tb 49 [strsD l, strsD l] = some [.bool true] := by
  refine run_ir (x := ir49) rfl ?_
  simp (disch := omega) only [ir49, stepQ, List.map_cons, List.map_nil, List.cons_append, List.nil_append, List.append_nil, List.length_map, List.getElem?_cons_zero, List.getElem?_cons_succ, eq_self, aBin, aUn_not, aUn_neg, reduceIte, Int.reduceEq, Int.reduceLT, Int.reduceLE, Int.reduceGT, Int.reduceGE, len_S, ibne]
  refine loop_k (σ := Unit) l.length (fun _ _ => True) (fun i _ => [.int .i64 i]) (fun _ _ => [.bool true]) ?_ ?_ 0 () (Nat.zero_le _) trivial
  · rintro i _ L hi _ hL
    have hnext := hL () trivial
    have h1 : (l[i] == l[i]) = true := beq_self_eq_true _
    have h2 : (l[i] != l[i]) = false := bne_self_eq_false _
    simp (disch := omega) only [ir49p0, stepQ, List.map_cons, List.map_nil, List.cons_append, List.nil_append, List.append_nil, List.length_map, List.getElem?_cons_zero, List.getElem?_cons_succ, eq_self, aBin, aUn_not, aUn_neg, reduceIte, Int.reduceEq, Int.reduceLT, Int.reduceLE, Int.reduceGT, Int.reduceGE, hi, row_S, h1, h2, wr, natS, hnext]
  · rintro _ L _
    simp (disch := omega) only [ir49p0, stepQ, List.map_cons, List.map_nil, List.cons_append, List.nil_append, List.append_nil, List.length_map, List.getElem?_cons_zero, List.getElem?_cons_succ, eq_self, aBin, aUn_not, aUn_neg, reduceIte, Int.reduceEq, Int.reduceLT, Int.reduceLE, Int.reduceGT, Int.reduceGE, Nat.lt_irrefl]
theorem sameN_run (l : List (List UInt8)) (hl : l.length < 1000000000) : run tb 48 [strsD l, strsD l] = some [.bool true] := by
  refine run_ir (x := ir48) rfl ?_
  simp (disch := omega) only [ir48, stepQ, List.map_cons, List.map_nil, List.cons_append, List.nil_append, List.append_nil, List.length_map, List.getElem?_cons_zero, List.getElem?_cons_succ, eq_self, aBin, aUn_not, aUn_neg, reduceIte, Int.reduceEq, Int.reduceLT, Int.reduceLE, Int.reduceGT, Int.reduceGE, len_S, ibne]
  refine loop_k (σ := Unit) l.length (fun _ _ => True) (fun i _ => [.int .i64 i]) (fun _ _ => [.bool true]) ?_ ?_ 0 () (Nat.zero_le _) trivial
  · rintro i _ L hi _ hL
    have hnext := hL () trivial
    have h1 : (l[i] == l[i]) = true := beq_self_eq_true _
    have h2 : (l[i] != l[i]) = false := bne_self_eq_false _
    simp (disch := omega) only [ir48p0, stepQ, List.map_cons, List.map_nil, List.cons_append, List.nil_append, List.append_nil, List.length_map, List.getElem?_cons_zero, List.getElem?_cons_succ, eq_self, aBin, aUn_not, aUn_neg, reduceIte, Int.reduceEq, Int.reduceLT, Int.reduceLE, Int.reduceGT, Int.reduceGE, len_S, hi, row_S, h1, h2, wr, natS, hnext]
  · rintro _ L _
    simp (disch := omega) only [ir48p0, stepQ, List.map_cons, List.map_nil, List.cons_append, List.nil_append, List.append_nil, List.length_map, List.getElem?_cons_zero, List.getElem?_cons_succ, eq_self, aBin, aUn_not, aUn_neg, reduceIte, Int.reduceEq, Int.reduceLT, Int.reduceLE, Int.reduceGT, Int.reduceGE, len_S, Nat.lt_irrefl]
theorem same_run (l : List (List UInt8)) (hl : l.length < 1000000000) (a : List Int) (ha : a.length < 1000000000) : run tb 22 [strsD l, numsD a, strsD l, numsD a] = some [.bool true] := by
  refine run_ir (x := ir22) rfl ?_
  have h1 := sameN_run l hl
  have h2 := ints_run a a ha
  rw [decide_eq_true rfl] at h2
  simp (disch := omega) only [ir22, stepQ, List.map_cons, List.map_nil, List.cons_append, List.nil_append, List.append_nil, List.length_map, List.getElem?_cons_zero, List.getElem?_cons_succ, eq_self, aBin, aUn_not, aUn_neg, reduceIte, Int.reduceEq, Int.reduceLT, Int.reduceLE, Int.reduceGT, Int.reduceGE, h1, h2]
/-- the first numbers of a list, and zeros -/
def fillR (l : List Int) (i : Nat) : List Int := (List.range l.length).map fun (k : Nat) => if k < i then l.getD k 0 else 0
theorem fill_zero (l : List Int) : List.replicate l.length 0 = fillR l 0 := by
  unfold fillR
  refine List.ext_getElem (by simp) fun i h1 h2 => ?_
  simp
theorem fill_succ {l : List Int} {i : Nat} (hi : i < l.length) : (fillR l i).set i (l.getD i 0) = fillR l (i + 1) := by
  unfold fillR
  refine List.ext_getElem (by simp) fun k h1 h2 => ?_
  rw [List.getElem_set]
  simp only [List.getElem_map, List.getElem_range]
  by_cases h : i = k
  · subst h; simp
  · have : (k < i + 1) = (k < i) := propext ⟨fun h => by omega, fun h => by omega⟩
    simp [h, this]
theorem fill_end (l : List Int) : fillR l l.length = l := by
  unfold fillR
  refine List.ext_getElem (by simp) fun k h1 h2 => ?_
  simp [h2]
theorem refine_run (names : List (List UInt8)) (a b : List Int) (ha : orderE names a = 0) (hb : orderE names b = 0) :
    run tb 23 [strsD names, numsD a, strsD names, numsD b] = some [strsD names, numsD (normS (lexR a b)), .int .i64 0] := by
  obtain ⟨hv, la, ra⟩ := orderE_zero ha
  obtain ⟨_, lb, rb⟩ := orderE_zero hb
  have h64 := orderE_len ha
  have hvl := (short_voc hv).1
  have hab : b.length = a.length := by rw [la, lb]
  have v1 := validateO_run names a hvl (by omega)
  have v2 := validateO_run names b hvl (by omega)
  rw [ha] at v1
  rw [hb] at v2
  refine run_ir (x := ir23) rfl ?_
  have hmk : PO.eval (.mk 2 2) [strsD names, numsD a, strsD names, numsD b] = some [.sl [[strsD names, numsD a], [strsD names, numsD b]]] := rfl
  have hl2 : PO.eval .lenL [.sl [[strsD names, numsD a], [strsD names, numsD b]]] = some [.int .i64 2] := rfl
  simp (disch := omega) only [ir23, stepQ, List.map_cons, List.map_nil, List.cons_append, List.nil_append, List.append_nil, List.length_map, List.getElem?_cons_zero, List.getElem?_cons_succ, eq_self, aBin, aUn_not, aUn_neg, reduceIte, Int.reduceEq, Int.reduceLT, Int.reduceLE, Int.reduceGT, Int.reduceGE, hmk, hl2]
  refine loop_k (σ := Unit) 2 (fun _ _ => True) (fun i _ => [.int .i64 i]) (fun _ _ => [strsD names, numsD (normS (lexR a b)), .int .i64 0]) ?_ ?_ 0 () (Nat.zero_le _) trivial
  · rintro i _ L hi _ hL
    have hnext := hL () trivial
    obtain rfl | rfl : i = 0 ∨ i = 1 := by omega
    · have c0 : PO.eval .chk [.sl [[strsD names, numsD a], [strsD names, numsD b]], .int .i64 0] = some [] := rfl
      have g0 : PO.eval (.get 0 2) [.sl [[strsD names, numsD a], [strsD names, numsD b]], .int .i64 0] = some [strsD names, numsD a] := rfl
      have t0 : decide ((0 : Int) < 2) = true := rfl
      have w0 : IntKind.i64.wrap (0 + 1) = 1 := rfl
      have hn1 : L [.int .i64 1] = some [strsD names, numsD (normS (lexR a b)), .int .i64 0] := hnext
      show den (run tb) ir23p1 ([strsD names, numsD a, strsD names, numsD b, .sl [[strsD names, numsD a], [strsD names, numsD b]], .int .i64 2] ++ [.int .i64 0]) [L] = _
      simp (disch := omega) only [ir23p1, stepQ, List.map_cons, List.map_nil, List.cons_append, List.nil_append, List.append_nil, List.length_map, List.getElem?_cons_zero, List.getElem?_cons_succ, eq_self, aBin, aUn_not, aUn_neg, reduceIte, Int.reduceEq, Int.reduceLT, Int.reduceLE, Int.reduceGT, Int.reduceGE, t0, c0, g0, v1, ibne, w0, hn1]
    · have c0 : PO.eval .chk [.sl [[strsD names, numsD a], [strsD names, numsD b]], .int .i64 1] = some [] := rfl
      have g0 : PO.eval (.get 0 2) [.sl [[strsD names, numsD a], [strsD names, numsD b]], .int .i64 1] = some [strsD names, numsD b] := rfl
      have t0 : decide ((1 : Int) < 2) = true := rfl
      have w0 : IntKind.i64.wrap (1 + 1) = 2 := rfl
      have hn1 : L [.int .i64 2] = some [strsD names, numsD (normS (lexR a b)), .int .i64 0] := hnext
      show den (run tb) ir23p1 ([strsD names, numsD a, strsD names, numsD b, .sl [[strsD names, numsD a], [strsD names, numsD b]], .int .i64 2] ++ [.int .i64 1]) [L] = _
      simp (disch := omega) only [ir23p1, stepQ, List.map_cons, List.map_nil, List.cons_append, List.nil_append, List.append_nil, List.length_map, List.getElem?_cons_zero, List.getElem?_cons_succ, eq_self, aBin, aUn_not, aUn_neg, reduceIte, Int.reduceEq, Int.reduceLT, Int.reduceLE, Int.reduceGT, Int.reduceGE, t0, c0, g0, v2, ibne, w0, hn1]
  · rintro _ L _
    have t0 : decide ((2 : Int) < 2) = false := rfl
    have heq := equalS_run names hvl
    have hmkN := mkN (n := a.length) (by omega)
    have hlx := lexR_len a b
    rw [← hlx, fill_zero, hlx] at hmkN
    show den (run tb) ir23p1 ([strsD names, numsD a, strsD names, numsD b, .sl [[strsD names, numsD a], [strsD names, numsD b]], .int .i64 2] ++ [.int .i64 2]) [L] = _
    have hfl : ∀ i, (fillR (lexR a b) i).length = a.length := fun i => by simp [fillR, hlx]
    have hl3 := len_N (fillR (lexR a b) 0)
    rw [hfl] at hl3
    simp (disch := omega) only [ir23p1, stepQ, List.map_cons, List.map_nil, List.cons_append, List.nil_append, List.append_nil, List.length_map, List.getElem?_cons_zero, List.getElem?_cons_succ, eq_self, aBin, aUn_not, aUn_neg, reduceIte, Int.reduceEq, Int.reduceLT, Int.reduceLE, Int.reduceGT, Int.reduceGE, t0, heq, len_N, hmkN, hfl]
    refine loop_k (σ := Unit) a.length (fun _ _ => True) (fun i _ => [.int .i64 i, numsD (fillR (lexR a b) i)]) (fun _ _ => [strsD names, numsD (normS (lexR a b)), .int .i64 0]) ?_ ?_ 0 () (Nat.zero_le _) trivial
    · rintro i _ M hi _ hM
      have hnext := hM () trivial
      rw [← fill_succ (by omega), lexR_get a b hi, gd hi, gd (by omega)] at hnext
      have b1 := rkIn_mem (rkOk_in ra) a[i] (List.getElem_mem _)
      have b2 := rkIn_mem (rkOk_in rb) b[i] (List.getElem_mem _)
      have m1 : (0 : Int) ≤ a[i] * a.length := Int.mul_nonneg b1.1 (by omega)
      have m2 : a[i] * a.length ≤ 64 * 64 := Int.mul_le_mul (by omega) (by omega) (by omega) (by omega)
      have hib : i < b.length := by omega
      have hc := chk_N (l := fillR (lexR a b) i) (i := i) (by rw [hfl]; exact hi)
      have hs := set_N (l := fillR (lexR a b) i) (i := i) (by rw [hfl]; exact hi) (a[i] * a.length + b[i])
      simp (disch := omega) only [ir23p0, stepQ, List.map_cons, List.map_nil, List.cons_append, List.nil_append, List.append_nil, List.length_map, List.getElem?_cons_zero, List.getElem?_cons_succ, eq_self, aBin, aUn_not, aUn_neg, reduceIte, Int.reduceEq, Int.reduceLT, Int.reduceLE, Int.reduceGT, Int.reduceGE, hi, hib, row_N, len_N, hfl, wr, hc, hs, natS, hnext]
    · rintro _ M _
      have hno := normal_run names (lexR a b) hvl (by omega)
      rw [if_pos (by simp [normE, hv, hlx, la])] at hno
      have he : fillR (lexR a b) a.length = lexR a b := by rw [← hlx]; exact fill_end _
      simp (disch := omega) only [ir23p0, stepQ, List.map_cons, List.map_nil, List.cons_append, List.nil_append, List.append_nil, List.length_map, List.getElem?_cons_zero, List.getElem?_cons_succ, eq_self, aBin, aUn_not, aUn_neg, reduceIte, Int.reduceEq, Int.reduceLT, Int.reduceLE, Int.reduceGT, Int.reduceGE, Nat.lt_irrefl, he, hno, callQ_tvi]
theorem refines_run (l0 : List Int) : run tb 2 [numsD l0] = some [.bool true] := by
  obtain ⟨l, hl, hn⟩ := new_run l0
  obtain ⟨r, p, r1, r2, hp, hr⟩ := range_run 0 3 l 0 hl (by omega) (by omega) (by omega) (by omega)
  obtain ⟨n, rfl⟩ := Int.eq_ofNat_of_zero_le (show 0 ≤ r by omega)
  have hr : run tb 9 [.int .i64 0, .int .i64 3, numsD l, .int .i64 0] = some [.int .i64 n, numsD l, .int .i64 p] := hr
  have hn6 : n ≤ 6 := by omega
  obtain ⟨xs, q, has, h2, h3⟩ := some_run n hn6 l p hl hp
  obtain ⟨ys, b, hbs, h4, h5⟩ := some_run n hn6 l q hl h2
  obtain ⟨zs, c, hcs, h6, h7⟩ := some_run n hn6 l b hl h4
  have hv := vocN_ok hn6
  have hvl := (short_voc hv).1
  have hvs := (short_voc hv).2
  have ka := rk_norm xs
  have kb := rk_norm ys
  have kc := rk_norm zs
  have oa := some_ok hn6 has
  have ob := some_ok hn6 hbs
  have oc := some_ok hn6 hcs
  have na := norm_norm xs
  rw [has] at ka
  rw [hbs] at kb
  rw [hcs] at kc
  generalize normS xs = A at *
  generalize normS ys = B at *
  generalize normS zs = C at *
  have ol : ∀ {x y : List Int}, Rk (2 ^ n) x → orderE (vocN n) (normS (lexR x y)) = 0 ∧ Rk (2 ^ n) (normS (lexR x y)) := fun {x y} hx => by
    have e := (lexR_len x y).trans hx.1
    exact ⟨some_ok hn6 e, by have := rk_norm (lexR x y); rw [e] at this; exact this⟩
  have rr := fun (x y : List Int) hx hy => refine_run (vocN n) x y hx hy
  have kf : Rk (2 ^ n) (List.replicate (2 ^ n) 0) := ⟨by simp, fun r hr => by rw [(List.mem_replicate.1 hr).2]; have : 0 < 2 ^ n := Nat.two_pow_pos n; omega⟩
  have of_ : orderE (vocN n) (List.replicate (2 ^ n) 0) = 0 := by rw [← norm_flat]; exact some_ok hn6 (by simp)
  have e1 := rr A B oa ob
  have e2 := rr B C ob oc
  have e3 := rr (normS (lexR A B)) C (ol ka).1 oc
  have e4 := rr A (normS (lexR B C)) oa (ol kb).1
  have e5 := rr A A oa oa
  have e6 := rr A (List.replicate (2 ^ n) 0) oa of_
  have e7 := rr (List.replicate (2 ^ n) 0) A of_ oa
  rw [ref_assoc ka kb kc] at e3
  rw [ref_self ka, na] at e5
  rw [ref_flat ka, na] at e6
  rw [flat_ref ka, na] at e7
  have h64 : 2 ^ n ≤ 64 := pow6 hn6
  have s1 := same_run (vocN n) hvl (normS (lexR A (normS (lexR B C)))) (by rw [(ol (y := normS (lexR B C)) ka).2.1]; omega)
  have s2 := same_run (vocN n) hvl A (by rw [ka.1]; omega)
  have hfl := normal_run (vocN n) (List.replicate (2 ^ n) 0) hvl (by simp; omega)
  rw [if_pos (by simp [normE, hv, vocN_len]), norm_flat] at hfl
  have b1 := beliefsO_run (vocN n) (normS (lexR A B)) hvl (by rw [(ol (y := B) ka).2.1]; omega)
  have b2 := beliefs3_run (vocN n) A hvl hvs (by rw [ka.1]; omega)
  have b3 := least3_run (vocN n) B hvl hvs (by rw [kb.1]; omega) (beliefsS (vocN n) A)
  have kb' := kb
  rw [← ka.1] at kb'
  have b4 : leastS (vocN n) B (beliefsS (vocN n) A) = beliefsS (vocN n) (normS (lexR A B)) := (ref_beliefs oa ob (ol ka).1 kb'.1 kb').symm
  rw [b4] at b3
  have aw := awake31_run
  have hvo := voc_run n (by omega)
  have hmk := mkN (n := 2 ^ n) (by omega)
  refine run_ir (x := ir2) rfl ?_
  clear rr ol
  generalize normS (lexR A (normS (lexR B C))) = X at *
  generalize normS (lexR A B) = AB at *
  generalize normS (lexR B C) = BC at *
  generalize beliefsS (vocN n) AB = bl at *
  have i0 : ((0 : Int) != 0) = false := rfl
  simp (disch := omega) only [ir2, ir2p0, stepQ, List.map_cons, List.map_nil, List.cons_append, List.nil_append, List.append_nil, List.length_map, List.getElem?_cons_zero, List.getElem?_cons_succ, eq_self, aBin, aUn_not, aUn_neg, reduceIte, Int.reduceEq, Int.reduceLT, Int.reduceLE, Int.reduceGT, Int.reduceGE, bvQ, wu, shl_norm, shr_norm, and1_norm, hn, hr, h3, h5, h7, hvo, hmk, hfl, callQ_tvi, callQ_tb, e1, e2, e3, e4, e5, e6, e7, ibne, i0, s1, s2, b1, b2, b3, aw]
end Go.Proofs.Ytjedjjooidohhaa
