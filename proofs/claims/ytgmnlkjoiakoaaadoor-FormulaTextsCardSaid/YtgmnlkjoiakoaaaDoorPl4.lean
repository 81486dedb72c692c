/- Plain programs of the functions of the program and lemmas about what they compute. -/
import Derived.Test.YtgmnlkjoiakoaaaDoorPl3
set_option linter.unusedSimpArgs false
set_option linter.unusedVariables false
set_option linter.unusedSectionVars false
namespace Go.Proofs.YtgmnlkjoiakoaaaDoor
open Go Am
set_option maxRecDepth 100000
set_option linter.unusedSimpArgs false
set_option linter.unusedVariables false

/-! # small formulas -/
theorem nodes_run : ∀ (f : F) (m : Nat), m < 1000000000 → run tb 30 (rowF f ++ [.int .i64 m]) = some [.int .i64 (min f.size (m + 1) : Nat)] := by
  refine bySizeF fun f ih m hm => ?_
  refine run_ir (x := ir30) rfl ?_
  have hse := F.size_eq f
  have key := loop_km (run := run tb) (body := ir30p0) (e := rowF f ++ [.int .i64 m, .int .i64 f.args.length]) (J := []) (ι := Nat × Nat) (fun x => f.args.length - x.1)
    (fun x => x.1 ≤ f.args.length ∧ x.1 + 1 ≤ x.2 ∧ x.2 = min (1 + F.sizes (f.args.take x.1)) (m + 1)) (fun x => [.int .i64 x.2, .int .i64 x.1]) (fun _ => [.int .i64 (min f.size (m + 1) : Nat)])
    (by
      rintro ⟨i, n⟩ L ⟨h1, h2, h3⟩ hL
      dsimp only at h1 h2 h3 hL ⊢
      by_cases hi : i < f.args.length
      · have hst := F.sizes_take f.args i hi
        have hle := F.sizes_take_le f.args (i + 1)
        have hle0 := F.sizes_take_le f.args i
        by_cases hn : m < n
        · have hr : min f.size (m + 1) = n := by omega
          rw [hr]
          simp (disch := omega) only [ir30p0, rowF, stepQ, List.map_cons, List.map_nil, List.cons_append, List.nil_append, List.append_nil, List.length_map, List.getElem?_cons_zero, List.getElem?_cons_succ, eq_self, aBin, aUn, reduceIte, Int.reduceEq, Int.reduceLT, Int.reduceLE, Int.reduceGT, Int.reduceGE, hi, hn]
        · have hmem : f.args[i] ∈ f.args := List.getElem_mem hi
          have hp := F.size_pos f.args[i]
          have hr := ih _ hmem (m - n) (by omega)
          obtain ⟨x, hx⟩ : ∃ x, x = min f.args[i].size (m - n + 1) := ⟨_, rfl⟩
          rw [← hx] at hr
          have hsub : IntKind.i64.wrap ((m : Int) - n) = ((m - n : Nat) : Int) := by rw [wr (n := (m : Int) - n) (by omega) (by omega)]; omega
          have hadd : IntKind.i64.wrap ((n : Int) + (x : Int)) = ((n + x : Nat) : Int) := by rw [wr (n := (n : Int) + (x : Int)) (by omega) (by omega)]; omega
          have hnext := hL (i + 1, n + x) ⟨by omega, by omega, by show n + x = min (1 + F.sizes (f.args.take (i + 1))) (m + 1); omega⟩ (by omega)
          dsimp only at hnext
          simp only [rowF, List.cons_append, List.nil_append] at hr
          simp (disch := omega) only [ir30p0, rowF, stepQ, List.map_cons, List.map_nil, List.cons_append, List.nil_append, List.append_nil, List.length_map, List.getElem?_cons_zero, List.getElem?_cons_succ, eq_self, aBin, aUn, reduceIte, Int.reduceEq, Int.reduceLT, Int.reduceLE, Int.reduceGT, Int.reduceGE, hi, hn, row_F, hsub, hr, hadd, wr, natS, hnext]
      · have hil : i = f.args.length := by omega
        subst hil
        have hr : min f.size (m + 1) = n := by rw [List.take_length] at h3; omega
        rw [hr]
        simp (disch := omega) only [ir30p0, rowF, stepQ, List.map_cons, List.map_nil, List.cons_append, List.nil_append, List.append_nil, List.length_map, List.getElem?_cons_zero, List.getElem?_cons_succ, eq_self, aBin, aUn, reduceIte, Int.reduceEq, Int.reduceLT, Int.reduceLE, Int.reduceGT, Int.reduceGE, Nat.lt_irrefl])
  have hk := key (0, 1) ⟨by omega, by omega, by simp [F.sizes]⟩
  simp only [rowF, nat0, Int.cast_ofNat_Int, List.cons_append, List.nil_append] at hk
  simp only [ir30, rowF, stepQ, List.map_cons, List.map_nil, List.cons_append, List.nil_append, List.append_nil, List.length_map, List.getElem?_cons_zero, List.getElem?_cons_succ, eq_self, aBin, aUn, reduceIte, Int.reduceEq, Int.reduceLT, Int.reduceLE, Int.reduceGT, Int.reduceGE, hk]
theorem levels_run : ∀ (f : F), f.size < 1000000000 → ∀ (m : Nat), m < 1000000000 → run tb 35 (rowF f ++ [.int .i64 ((m : Int) - 1)]) = some [.int .i64 (min f.depth m : Nat)] := by
  refine bySizeF fun f ih hs m hm => ?_
  refine run_ir (x := ir35) rfl ?_
  have hla := F.sizes_len f.args
  have hse := F.size_eq f
  have hds := F.depth_size f
  cases m with
  | zero =>
    have h0 : ((0 : Nat) : Int) - 1 < 0 := by omega
    simp only [ir35, rowF, stepQ, List.map_cons, List.map_nil, List.cons_append, List.nil_append, List.append_nil, List.length_map, List.getElem?_cons_zero, List.getElem?_cons_succ, eq_self, aBin, aUn, reduceIte, Int.reduceEq, Int.reduceLT, Int.reduceLE, Int.reduceGT, Int.reduceGE, show ((0 : Int) - 1 < 0) = True by simp, Nat.min_zero]
  | succ m =>
    have hk0 : ¬ ((m : Nat) : Int) < 0 := by omega
    have key := loop_k (run := run tb) (body := ir35p0) (e := rowF f ++ [.int .i64 m, .bool false, .int .i64 f.args.length]) (J := []) (σ := Nat) f.args.length
      (fun i n => n = min (F.depths (f.args.take i)) (m + 1)) (fun i n => [.int .i64 n, .int .i64 i]) (fun _ _ => [.int .i64 (min f.depth (m + 1) : Nat)])
      (by
        rintro i n L hi hn hL
        have hmem : f.args[i] ∈ f.args := List.getElem_mem hi
        have h1 := mem_size hmem
        have h2 := F.depth_size f.args[i]
        have h3 := F.depths_take_size f.args i
        have hr := ih _ hmem (by omega) m (by omega)
        have hd := F.depths_take f.args i hi
        have hsub : IntKind.i64.wrap ((m : Int) - 1) = (m : Int) - 1 := wr (by omega) (by omega)
        obtain ⟨x, hx⟩ : ∃ x, x = min f.args[i].depth m := ⟨_, rfl⟩
        rw [← hx] at hr
        have hadd : IntKind.i64.wrap (1 + (x : Int)) = ((1 + x : Nat) : Int) := by rw [wr (n := 1 + (x : Int)) (by omega) (by omega)]; omega
        have hmax : (if n < 1 + x then ((1 + x : Nat) : Int) else (n : Int)) = ((max n (1 + x) : Nat) : Int) := by
          split <;> omega
        have hnext := hL (max n (1 + x)) (by omega)
        simp only [rowF, List.cons_append, List.nil_append] at hr
        simp (disch := omega) only [ir35p0, rowF, stepQ, List.map_cons, List.map_nil, List.cons_append, List.nil_append, List.append_nil, List.length_map, List.getElem?_cons_zero, List.getElem?_cons_succ, eq_self, aBin, aUn, reduceIte, Int.reduceEq, Int.reduceLT, Int.reduceLE, Int.reduceGT, Int.reduceGE, hi, row_F, hsub, hr, hadd, hmax, wr, natS, hnext])
      (by
        rintro n L hn
        have hr : n = min f.depth (m + 1) := by rw [List.take_length] at hn; rw [F.depth_eq]; exact hn
        simp (disch := omega) only [ir35p0, rowF, stepQ, List.map_cons, List.map_nil, List.cons_append, List.nil_append, List.append_nil, List.length_map, List.getElem?_cons_zero, List.getElem?_cons_succ, eq_self, aBin, aUn, reduceIte, Int.reduceEq, Int.reduceLT, Int.reduceLE, Int.reduceGT, Int.reduceGE, Nat.lt_irrefl, hr])
    have hk := key 0 0 (by omega) (by simp [F.depths])
    simp only [rowF, nat0, List.cons_append, List.nil_append] at hk
    simp only [ir35, rowF, stepQ, List.map_cons, List.map_nil, List.cons_append, List.nil_append, List.append_nil, List.length_map, List.getElem?_cons_zero, List.getElem?_cons_succ, eq_self, aBin, aUn, reduceIte, Int.reduceEq, Int.reduceLT, Int.reduceLE, Int.reduceGT, Int.reduceGE, hk0, hk]
def shortB (g : F) : Bool := decide (g.name.length ≤ 100)
theorem short_run : ∀ (f : F), f.size < 1000000000 → run tb 36 (rowF f) = some [.bool (F.allF shortB f)] := by
  refine bySizeF fun f ih hs => ?_
  refine run_ir (x := ir36) rfl ?_
  have hla := F.sizes_len f.args
  have hse := F.size_eq f
  rw [F.allF_eq]
  by_cases hl : f.name.length ≤ 100
  · have hl' : ¬ ((f.name.length : Nat) : Int) > 100 := by omega
    have key := loop_k (run := run tb) (body := ir36p0) (e := rowF f ++ [.int .i64 f.name.length, .bool false, .int .i64 f.args.length]) (J := []) (σ := Unit) f.args.length
      (fun i _ => True) (fun i _ => [.int .i64 i]) (fun i _ => [.bool (F.allFs shortB (f.args.drop i))])
      (by
        rintro i n L hi _ hL
        have hmem : f.args[i] ∈ f.args := List.getElem_mem hi
        have h1 := mem_size hmem
        have hr := ih _ hmem (by omega)
        have hnext := hL () trivial
        rw [drop_s hi]
        simp only [F.allFs]
        simp only [rowF] at hr
        cases hx : F.allF shortB f.args[i] with
        | true =>
          rw [hx] at hr
          simp (disch := omega) only [ir36p0, rowF, stepQ, List.map_cons, List.map_nil, List.cons_append, List.nil_append, List.append_nil, List.length_map, List.getElem?_cons_zero, List.getElem?_cons_succ, eq_self, aBin, aUn, reduceIte, Int.reduceEq, Int.reduceLT, Int.reduceLE, Int.reduceGT, Int.reduceGE, hi, row_F, hr, wr, natS, hnext]
        | false =>
          rw [hx] at hr
          simp (disch := omega) only [ir36p0, rowF, stepQ, List.map_cons, List.map_nil, List.cons_append, List.nil_append, List.append_nil, List.length_map, List.getElem?_cons_zero, List.getElem?_cons_succ, eq_self, aBin, aUn, reduceIte, Int.reduceEq, Int.reduceLT, Int.reduceLE, Int.reduceGT, Int.reduceGE, hi, row_F, hr])
      (by
        rintro n L hn
        rw [List.drop_length]
        simp (disch := omega) only [ir36p0, rowF, stepQ, List.map_cons, List.map_nil, List.cons_append, List.nil_append, List.append_nil, List.length_map, List.getElem?_cons_zero, List.getElem?_cons_succ, eq_self, aBin, aUn, reduceIte, Int.reduceEq, Int.reduceLT, Int.reduceLE, Int.reduceGT, Int.reduceGE, Nat.lt_irrefl, F.allFs])
    have hk := key 0 () (by omega) trivial
    simp only [rowF, nat0, List.drop_zero, List.cons_append, List.nil_append] at hk
    have hb : shortB f = true := by simp [shortB, hl]
    rw [hb]
    simp only [ir36, rowF, stepQ, List.map_cons, List.map_nil, List.cons_append, List.nil_append, List.append_nil, List.length_map, List.getElem?_cons_zero, List.getElem?_cons_succ, eq_self, aBin, aUn, reduceIte, Int.reduceEq, Int.reduceLT, Int.reduceLE, Int.reduceGT, Int.reduceGE, hl', hk]
  · have hl' : ((f.name.length : Nat) : Int) > 100 := by omega
    have hb : shortB f = false := by simp [shortB]; omega
    rw [hb]
    simp only [ir36, rowF, stepQ, List.map_cons, List.map_nil, List.cons_append, List.nil_append, List.append_nil, List.length_map, List.getElem?_cons_zero, List.getElem?_cons_succ, eq_self, aBin, aUn, reduceIte, Int.reduceEq, Int.reduceLT, Int.reduceLE, Int.reduceGT, Int.reduceGE, hl']
def smallF (f : F) : Bool := decide (f.size ≤ 800) && (decide (f.depth ≤ 30) && F.allF shortB f)
theorem small_run (f : F) : run tb 8 (rowF f) = some [.bool (smallF f)] := by
  refine run_ir (x := ir8) rfl ?_
  have h1 := nodes_run f 800 (by omega)
  simp only [rowF, List.cons_append, List.nil_append, Int.cast_ofNat_Int] at h1
  unfold smallF
  by_cases h : f.size ≤ 800
  · have h2 := levels_run f (by omega) 31 (by omega)
    have h3 := short_run f (by omega)
    have hc : ((min f.size (800 + 1) : Nat) : Int) ≤ 800 := by omega
    have h31 : ((31 : Nat) : Int) - 1 = 30 := by omega
    simp only [rowF, List.cons_append, List.nil_append, h31] at h2 h3
    by_cases hd : f.depth ≤ 30
    · have hc2 : ((min f.depth 31 : Nat) : Int) ≤ 30 := by omega
      simp only [ir8, rowF, stepQ, List.map_cons, List.map_nil, List.cons_append, List.nil_append, List.append_nil, List.length_map, List.getElem?_cons_zero, List.getElem?_cons_succ, eq_self, aBin, aUn, reduceIte, Int.reduceEq, Int.reduceLT, Int.reduceLE, Int.reduceGT, Int.reduceGE, h1, hc, h2, hc2, h3, h, hd]
    · have hc2 : ¬ ((min f.depth 31 : Nat) : Int) ≤ 30 := by omega
      simp only [ir8, rowF, stepQ, List.map_cons, List.map_nil, List.cons_append, List.nil_append, List.append_nil, List.length_map, List.getElem?_cons_zero, List.getElem?_cons_succ, eq_self, aBin, aUn, reduceIte, Int.reduceEq, Int.reduceLT, Int.reduceLE, Int.reduceGT, Int.reduceGE, h1, hc, h2, hc2, h, hd]
  · have hc : ¬ ((min f.size (800 + 1) : Nat) : Int) ≤ 800 := by omega
    simp only [ir8, rowF, stepQ, List.map_cons, List.map_nil, List.cons_append, List.nil_append, List.append_nil, List.length_map, List.getElem?_cons_zero, List.getElem?_cons_succ, eq_self, aBin, aUn, reduceIte, Int.reduceEq, Int.reduceLT, Int.reduceLE, Int.reduceGT, Int.reduceGE, h1, hc, h]
end Go.Proofs.YtgmnlkjoiakoaaaDoor

namespace Go.Proofs.YtgmnlkjoiakoaaaDoor
open Go Am
set_option maxRecDepth 100000
set_option linter.unusedSimpArgs false
set_option linter.unusedVariables false

/-! # the specification's functions at all formulas -/
theorem size14_run : ∀ (f : F), f.size < 1000000000 → run tb 14 (rowF f) = some [.int .i64 f.size] := by
  refine bySizeF fun f ih hs => ?_
  refine run_ir (x := ir14) rfl ?_
  have hla := F.sizes_len f.args
  have hse := F.size_eq f
  have key := loop_k (run := run tb) (body := ir14p0) (e := rowF f ++ [.int .i64 f.args.length]) (J := []) (σ := Nat) f.args.length
    (fun i n => n = 1 + F.sizes (f.args.take i)) (fun i n => [.int .i64 n, .int .i64 i]) (fun _ _ => [.int .i64 f.size])
    (by
      rintro i n L hi hn hL
      have hm : f.args[i] ∈ f.args := List.getElem_mem hi
      have h1 := mem_size hm
      have h2 := F.sizes_take f.args i hi
      have h3 := F.sizes_take_le f.args (i + 1)
      have hr := ih _ hm (by omega)
      have hadd : IntKind.i64.wrap ((n : Int) + (f.args[i].size : Int)) = ((n + f.args[i].size : Nat) : Int) := by rw [wr (n := (n : Int) + (f.args[i].size : Int)) (by omega) (by omega)]; omega
      have hnext := hL (n + f.args[i].size) (by omega)
      simp only [rowF] at hr
      simp (disch := omega) only [ir14p0, rowF, stepQ, List.map_cons, List.map_nil, List.cons_append, List.nil_append, List.append_nil, List.length_map, List.getElem?_cons_zero, List.getElem?_cons_succ, eq_self, aBin, aUn, reduceIte, Int.reduceEq, Int.reduceLT, Int.reduceLE, Int.reduceGT, Int.reduceGE, hi, row_F, hr, hadd, wr, natS, hnext])
    (by
      rintro n L hn
      have hr : f.size = n := by rw [List.take_length] at hn; omega
      rw [hr]
      simp (disch := omega) only [ir14p0, rowF, stepQ, List.map_cons, List.map_nil, List.cons_append, List.nil_append, List.append_nil, List.length_map, List.getElem?_cons_zero, List.getElem?_cons_succ, eq_self, aBin, aUn, reduceIte, Int.reduceEq, Int.reduceLT, Int.reduceLE, Int.reduceGT, Int.reduceGE, Nat.lt_irrefl])
  have hk := key 0 1 (by omega) (by simp [F.sizes])
  simp only [rowF, nat0, Int.cast_ofNat_Int, List.cons_append, List.nil_append] at hk
  simp only [ir14, rowF, stepQ, List.map_cons, List.map_nil, List.cons_append, List.nil_append, List.append_nil, List.length_map, List.getElem?_cons_zero, List.getElem?_cons_succ, eq_self, aBin, aUn, reduceIte, Int.reduceEq, Int.reduceLT, Int.reduceLE, Int.reduceGT, Int.reduceGE, hk]
theorem size15_run : ∀ (f : F), f.size < 1000000000 → run tb 15 (rowF f) = some [.int .i64 f.size] := by
  refine bySizeF fun f ih hs => ?_
  refine run_ir (x := ir15) rfl ?_
  have hla := F.sizes_len f.args
  have hse := F.size_eq f
  have key := loop_k (run := run tb) (body := ir15p0) (e := rowF f) (J := []) (σ := Nat) f.args.length
    (fun i n => n = 1 + F.sizes (f.args.take i)) (fun i n => [.int .i64 n, .int .i64 i]) (fun _ _ => [.int .i64 f.size])
    (by
      rintro i n L hi hn hL
      have hm : f.args[i] ∈ f.args := List.getElem_mem hi
      have h1 := mem_size hm
      have h2 := F.sizes_take f.args i hi
      have h3 := F.sizes_take_le f.args (i + 1)
      have hr := ih _ hm (by omega)
      have hadd : IntKind.i64.wrap ((n : Int) + (f.args[i].size : Int)) = ((n + f.args[i].size : Nat) : Int) := by rw [wr (n := (n : Int) + (f.args[i].size : Int)) (by omega) (by omega)]; omega
      have hnext := hL (n + f.args[i].size) (by omega)
      simp only [rowF] at hr
      simp (disch := omega) only [ir15p0, rowF, stepQ, List.map_cons, List.map_nil, List.cons_append, List.nil_append, List.append_nil, List.length_map, List.getElem?_cons_zero, List.getElem?_cons_succ, eq_self, aBin, aUn, reduceIte, Int.reduceEq, Int.reduceLT, Int.reduceLE, Int.reduceGT, Int.reduceGE, ev_lenL, hi, row_F, hr, hadd, wr, natS, hnext])
    (by
      rintro n L hn
      have hr : f.size = n := by rw [List.take_length] at hn; omega
      rw [hr]
      simp (disch := omega) only [ir15p0, rowF, stepQ, List.map_cons, List.map_nil, List.cons_append, List.nil_append, List.append_nil, List.length_map, List.getElem?_cons_zero, List.getElem?_cons_succ, eq_self, aBin, aUn, reduceIte, Int.reduceEq, Int.reduceLT, Int.reduceLE, Int.reduceGT, Int.reduceGE, ev_lenL, Nat.lt_irrefl])
  have hk := key 0 1 (by omega) (by simp [F.sizes])
  simp only [rowF, nat0, Int.cast_ofNat_Int, List.cons_append, List.nil_append] at hk
  simp only [ir15, rowF, stepQ, List.map_cons, List.map_nil, List.cons_append, List.nil_append, List.append_nil, List.length_map, List.getElem?_cons_zero, List.getElem?_cons_succ, eq_self, aBin, aUn, reduceIte, Int.reduceEq, Int.reduceLT, Int.reduceLE, Int.reduceGT, Int.reduceGE, hk]
theorem depth16_run : ∀ (f : F), f.size < 1000000000 → run tb 16 (rowF f) = some [.int .i64 f.depth] := by
  refine bySizeF fun f ih hs => ?_
  refine run_ir (x := ir16) rfl ?_
  have hla := F.sizes_len f.args
  have hse := F.size_eq f
  have key := loop_k (run := run tb) (body := ir16p0) (e := rowF f ++ [.int .i64 f.args.length]) (J := []) (σ := Nat) f.args.length
    (fun i n => n = F.depths (f.args.take i)) (fun i n => [.int .i64 n, .int .i64 i]) (fun _ _ => [.int .i64 f.depth])
    (by
      rintro i n L hi hn hL
      have hm : f.args[i] ∈ f.args := List.getElem_mem hi
      have h1 := mem_size hm
      have h2 := F.depths_take f.args i hi
      have h3 := F.depth_size f.args[i]
      have hr := ih _ hm (by omega)
      have hadd : IntKind.i64.wrap (1 + (f.args[i].depth : Int)) = ((1 + f.args[i].depth : Nat) : Int) := by rw [wr (n := 1 + (f.args[i].depth : Int)) (by omega) (by omega)]; omega
      have hmax : (if n < 1 + f.args[i].depth then ((1 + f.args[i].depth : Nat) : Int) else (n : Int)) = ((max n (1 + f.args[i].depth) : Nat) : Int) := by split <;> omega
      have hnext := hL (max n (1 + f.args[i].depth)) (by omega)
      simp only [rowF] at hr
      simp (disch := omega) only [ir16p0, rowF, stepQ, List.map_cons, List.map_nil, List.cons_append, List.nil_append, List.append_nil, List.length_map, List.getElem?_cons_zero, List.getElem?_cons_succ, eq_self, aBin, aUn, reduceIte, Int.reduceEq, Int.reduceLT, Int.reduceLE, Int.reduceGT, Int.reduceGE, hi, row_F, hr, hadd, hmax, wr, natS, hnext])
    (by
      rintro n L hn
      have hr : f.depth = n := by rw [List.take_length] at hn; rw [F.depth_eq]; omega
      rw [hr]
      simp (disch := omega) only [ir16p0, rowF, stepQ, List.map_cons, List.map_nil, List.cons_append, List.nil_append, List.append_nil, List.length_map, List.getElem?_cons_zero, List.getElem?_cons_succ, eq_self, aBin, aUn, reduceIte, Int.reduceEq, Int.reduceLT, Int.reduceLE, Int.reduceGT, Int.reduceGE, Nat.lt_irrefl])
  have hk := key 0 0 (by omega) (by simp [F.depths])
  simp only [rowF, nat0, List.cons_append, List.nil_append] at hk
  simp only [ir16, rowF, stepQ, List.map_cons, List.map_nil, List.cons_append, List.nil_append, List.append_nil, List.length_map, List.getElem?_cons_zero, List.getElem?_cons_succ, eq_self, aBin, aUn, reduceIte, Int.reduceEq, Int.reduceLT, Int.reduceLE, Int.reduceGT, Int.reduceGE, hk]
theorem depth17_run : ∀ (f : F), f.size < 1000000000 → run tb 17 (rowF f) = some [.int .i64 f.depth] := by
  refine bySizeF fun f ih hs => ?_
  refine run_ir (x := ir17) rfl ?_
  have hla := F.sizes_len f.args
  have hse := F.size_eq f
  have key := loop_k (run := run tb) (body := ir17p0) (e := rowF f) (J := []) (σ := Nat) f.args.length
    (fun i n => n = F.depths (f.args.take i)) (fun i n => [.int .i64 n, .int .i64 i]) (fun _ _ => [.int .i64 f.depth])
    (by
      rintro i n L hi hn hL
      have hm : f.args[i] ∈ f.args := List.getElem_mem hi
      have h1 := mem_size hm
      have h2 := F.depths_take f.args i hi
      have h3 := F.depth_size f.args[i]
      have hr := ih _ hm (by omega)
      have hadd : IntKind.i64.wrap (1 + (f.args[i].depth : Int)) = ((1 + f.args[i].depth : Nat) : Int) := by rw [wr (n := 1 + (f.args[i].depth : Int)) (by omega) (by omega)]; omega
      have hmax : (if n < 1 + f.args[i].depth then ((1 + f.args[i].depth : Nat) : Int) else (n : Int)) = ((max n (1 + f.args[i].depth) : Nat) : Int) := by split <;> omega
      have hnext := hL (max n (1 + f.args[i].depth)) (by omega)
      simp only [rowF] at hr
      simp (disch := omega) only [ir17p0, rowF, stepQ, List.map_cons, List.map_nil, List.cons_append, List.nil_append, List.append_nil, List.length_map, List.getElem?_cons_zero, List.getElem?_cons_succ, eq_self, aBin, aUn, reduceIte, Int.reduceEq, Int.reduceLT, Int.reduceLE, Int.reduceGT, Int.reduceGE, ev_lenL, hi, row_F, hr, hadd, hmax, wr, natS, hnext])
    (by
      rintro n L hn
      have hr : f.depth = n := by rw [List.take_length] at hn; rw [F.depth_eq]; omega
      rw [hr]
      simp (disch := omega) only [ir17p0, rowF, stepQ, List.map_cons, List.map_nil, List.cons_append, List.nil_append, List.append_nil, List.length_map, List.getElem?_cons_zero, List.getElem?_cons_succ, eq_self, aBin, aUn, reduceIte, Int.reduceEq, Int.reduceLT, Int.reduceLE, Int.reduceGT, Int.reduceGE, ev_lenL, Nat.lt_irrefl])
  have hk := key 0 0 (by omega) (by simp [F.depths])
  simp only [rowF, nat0, List.cons_append, List.nil_append] at hk
  simp only [ir17, rowF, stepQ, List.map_cons, List.map_nil, List.cons_append, List.nil_append, List.append_nil, List.length_map, List.getElem?_cons_zero, List.getElem?_cons_succ, eq_self, aBin, aUn, reduceIte, Int.reduceEq, Int.reduceLT, Int.reduceLE, Int.reduceGT, Int.reduceGE, hk]
theorem validName57_run (s : List UInt8) (hs : s.length < 1000000000) : run tb 57 [.str s] = some [.bool (validName s)] := by
  refine run_ir (x := ir57) rfl ?_
  cases s with
  | nil =>
    simp only [ir57, ir57p2, stepQ, List.map_cons, List.map_nil, List.cons_append, List.nil_append, List.append_nil, List.length_map, List.getElem?_cons_zero, List.getElem?_cons_succ, eq_self, aBin, aUn, reduceIte, Int.reduceEq, Int.reduceLT, Int.reduceLE, Int.reduceGT, Int.reduceGE, List.length_nil, show validName [] = false from rfl]
  | cons c l =>
    rw [validName_cons]
    have h1 : ¬ (((c :: l).length : Nat) : Int) < 1 := by simp; omega
    have hpos : 0 < (c :: l).length := by simp
    by_cases hl : (c :: l).length ≤ 12
    · have h2 : ¬ (((c :: l).length : Nat) : Int) > 12 := by omega
      have key := loop_k (run := run tb) (body := ir57p1) (e := [.str (c :: l), .bool false]) (J := []) (σ := Unit) (c :: l).length
        (fun _ _ => True) (fun i _ => [.int .i64 i]) (fun i _ => [.bool (((c :: l).drop i).all okc)])
        (by
          rintro i _ L hi _ hL
          have hnext := hL () trivial
          rw [drop_s hi, List.all_cons]
          generalize hd : ((c :: l).drop (i + 1)).all okc = b at hnext
          generalize (c :: l) = s at *
          unfold okc
          generalize hx : (s[i].toNat : Int) = x
          by_cases a1 : x < 97 <;> by_cases a2 : x > 122 <;> by_cases a3 : x < 48 <;> by_cases a4 : x > 57 <;> by_cases a5 : x = 95 <;> first | omega | skip
          all_goals
            simp (disch := omega) only [ir57p1, ir57p0, stepQ, List.map_cons, List.map_nil, List.cons_append, List.nil_append, List.append_nil, List.length_map, List.getElem?_cons_zero, List.getElem?_cons_succ, eq_self, aBin, aUn, reduceIte, Int.reduceEq, Int.reduceLT, Int.reduceLE, Int.reduceGT, Int.reduceGE, hi, idx_S, hx, ibne, a1, a2, a3, a4, a5, wr, natS, hnext, show (97 ≤ x) = ¬ (x < 97) by simp, show (x ≤ 122) = ¬ (x > 122) by simp, show (48 ≤ x) = ¬ (x < 48) by simp, show (x ≤ 57) = ¬ (x > 57) by simp, not_true_eq_false, not_false_eq_true, Bool.or_self, Bool.or_false, Bool.or_true])
        (by
          rintro _ L _
          rw [List.drop_length]
          simp (disch := omega) only [ir57p1, stepQ, List.map_cons, List.map_nil, List.cons_append, List.nil_append, List.append_nil, List.length_map, List.getElem?_cons_zero, List.getElem?_cons_succ, eq_self, aBin, aUn, reduceIte, Int.reduceEq, Int.reduceLT, Int.reduceLE, Int.reduceGT, Int.reduceGE, Nat.lt_irrefl, List.all_nil])
      have hk := key 0 () (by omega) trivial
      simp only [nat0, List.drop_zero, List.cons_append, List.nil_append] at hk
      have hc : (c :: l)[0] = c := rfl
      by_cases a1 : (c.toNat : Int) < 97
      · simp (disch := omega) only [ir57, ir57p2, stepQ, List.map_cons, List.map_nil, List.cons_append, List.nil_append, List.append_nil, List.length_map, List.getElem?_cons_zero, List.getElem?_cons_succ, eq_self, aBin, aUn, reduceIte, Int.reduceEq, Int.reduceLT, Int.reduceLE, Int.reduceGT, Int.reduceGE, h1, h2, idx_S0, hc, a1, hl, show (97 ≤ (c.toNat : Int)) = False by simp; omega]
      · by_cases a2 : (c.toNat : Int) > 122
        · simp (disch := omega) only [ir57, ir57p2, stepQ, List.map_cons, List.map_nil, List.cons_append, List.nil_append, List.append_nil, List.length_map, List.getElem?_cons_zero, List.getElem?_cons_succ, eq_self, aBin, aUn, reduceIte, Int.reduceEq, Int.reduceLT, Int.reduceLE, Int.reduceGT, Int.reduceGE, h1, h2, idx_S0, hc, a1, a2, hl, show ((c.toNat : Int) ≤ 122) = False by simp; omega]
        · simp (disch := omega) only [ir57, ir57p2, stepQ, List.map_cons, List.map_nil, List.cons_append, List.nil_append, List.append_nil, List.length_map, List.getElem?_cons_zero, List.getElem?_cons_succ, eq_self, aBin, aUn, reduceIte, Int.reduceEq, Int.reduceLT, Int.reduceLE, Int.reduceGT, Int.reduceGE, h1, h2, idx_S0, hc, a1, a2, hl, hk, show (97 ≤ (c.toNat : Int)) = True by simp; omega, show ((c.toNat : Int) ≤ 122) = True by simp; omega]
    · have h2 : (((c :: l).length : Nat) : Int) > 12 := by omega
      simp only [ir57, ir57p2, stepQ, List.map_cons, List.map_nil, List.cons_append, List.nil_append, List.append_nil, List.length_map, List.getElem?_cons_zero, List.getElem?_cons_succ, eq_self, aBin, aUn, reduceIte, Int.reduceEq, Int.reduceLT, Int.reduceLE, Int.reduceGT, Int.reduceGE, h1, h2, hl]
end Go.Proofs.YtgmnlkjoiakoaaaDoor
