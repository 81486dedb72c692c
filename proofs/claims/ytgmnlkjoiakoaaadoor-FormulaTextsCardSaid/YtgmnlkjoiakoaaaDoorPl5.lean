/- Plain programs of the functions of the program and lemmas about what they compute. -/
import Derived.Test.YtgmnlkjoiakoaaaDoorPl4
set_option linter.unusedSimpArgs false
set_option linter.unusedVariables false
set_option linter.unusedSectionVars false
namespace Go.Proofs.YtgmnlkjoiakoaaaDoor
open Go Am
set_option maxRecDepth 100000
set_option linter.unusedSimpArgs false
set_option linter.unusedVariables false

theorem counted_eq (f : F) : counted f = if f.op = 1 ∨ f.op = 2 ∨ f.op = 3 then decide (f.args.length = 0) else if f.op = 4 then decide (f.args.length = 1) else if f.op = 5 ∨ f.op = 6 then (decide (2 ≤ f.args.length) && decide (f.args.length ≤ 6)) else if f.op = 7 ∨ f.op = 8 then decide (f.args.length = 2) else false := by
  unfold counted
  simp only [ibeq, Bool.or_eq_true, decide_eq_true_eq, or_assoc, ge_iff_le]
  have e0 : ((f.args.length : Int) = 0) = (f.args.length = 0) := propext ⟨fun h => by omega, fun h => by omega⟩
  have e1 : ((f.args.length : Int) = 1) = (f.args.length = 1) := propext ⟨fun h => by omega, fun h => by omega⟩
  have e2 : ((f.args.length : Int) = 2) = (f.args.length = 2) := propext ⟨fun h => by omega, fun h => by omega⟩
  have e3 : (2 ≤ (f.args.length : Int)) = (2 ≤ f.args.length) := propext ⟨fun h => by omega, fun h => by omega⟩
  have e4 : ((f.args.length : Int) ≤ 6) = (f.args.length ≤ 6) := propext ⟨fun h => by omega, fun h => by omega⟩
  simp only [e0, e1, e2, e3, e4]
theorem kinds_run : ∀ (f : F), f.size < 1000000000 → run tb 41 (rowF f) = some [.bool (F.allF counted f)] := by
  refine bySizeF fun f ih hs => ?_
  refine run_ir (x := ir41) rfl ?_
  have hla := F.sizes_len f.args
  have hse := F.size_eq f
  have hk : ∀ (x0 : D) (b : Bool), b = counted f → loopQ (run tb) ir41p1 [x0, .str f.name, .sl (F.encs f.args), .int .i64 f.args.length, .bool b] [] [.bool b, .int .i64 0] = some [.bool (F.allF counted f)] := by
    intro x0 b hb
    have key := loop_k (run := run tb) (body := ir41p1) (e := [x0, .str f.name, .sl (F.encs f.args), .int .i64 f.args.length, .bool b]) (J := []) (σ := Bool) f.args.length
      (fun i ok => ok = (b && F.allFs counted (f.args.take i))) (fun i ok => [.bool ok, .int .i64 i]) (fun _ _ => [.bool (F.allF counted f)])
      (by
        rintro i ok L hi hok hL
        have hm : f.args[i] ∈ f.args := List.getElem_mem hi
        have h1 := mem_size hm
        have hr := ih _ hm (by omega)
        have h2 := F.allFs_take counted f.args i hi
        have hnext := hL (ok && F.allF counted f.args[i]) (by rw [h2, hok, Bool.and_assoc])
        simp only [rowF] at hr
        cases ok with
        | true =>
          simp only [Bool.true_and] at hnext
          simp (disch := omega) only [ir41p1, ir41p0, rowF, stepQ, List.map_cons, List.map_nil, List.cons_append, List.nil_append, List.append_nil, List.length_map, List.getElem?_cons_zero, List.getElem?_cons_succ, eq_self, aBin, aUn, reduceIte, Int.reduceEq, Int.reduceLT, Int.reduceLE, Int.reduceGT, Int.reduceGE, hi, row_F, hr, wr, natS, hnext]
        | false =>
          simp only [Bool.false_and] at hnext
          simp (disch := omega) only [ir41p1, ir41p0, rowF, stepQ, List.map_cons, List.map_nil, List.cons_append, List.nil_append, List.append_nil, List.length_map, List.getElem?_cons_zero, List.getElem?_cons_succ, eq_self, aBin, aUn, reduceIte, Int.reduceEq, Int.reduceLT, Int.reduceLE, Int.reduceGT, Int.reduceGE, hi, wr, natS, hnext])
      (by
        rintro ok L hok
        have : F.allF counted f = ok := by rw [hok, List.take_length, hb, F.allF_eq]
        rw [this]
        simp (disch := omega) only [ir41p1, rowF, stepQ, List.map_cons, List.map_nil, List.cons_append, List.nil_append, List.append_nil, List.length_map, List.getElem?_cons_zero, List.getElem?_cons_succ, eq_self, aBin, aUn, reduceIte, Int.reduceEq, Int.reduceLT, Int.reduceLE, Int.reduceGT, Int.reduceGE, Nat.lt_irrefl])
    have h := key 0 b (by omega) (by simp [F.allFs])
    simpa only [nat0] using h
  have hc := counted_eq f
  have e1 : ((f.args.length : Int) = 1) = (f.args.length = 1) := propext ⟨fun h => by omega, fun h => by omega⟩
  have e2 : ((f.args.length : Int) = 2) = (f.args.length = 2) := propext ⟨fun h => by omega, fun h => by omega⟩
  have e3 : ((f.args.length : Int) ≥ 2) = (2 ≤ f.args.length) := propext ⟨fun h => by omega, fun h => by omega⟩
  have e4 : ((f.args.length : Int) ≤ 6) = (f.args.length ≤ 6) := propext ⟨fun h => by omega, fun h => by omega⟩
  by_cases h1 : f.op = 1
  · simp only [h1, Int.reduceEq, true_or, or_true, if_true] at hc
    simp only [ir41, ir41p5, ir41p2, rowF, stepQ, List.map_cons, List.map_nil, List.cons_append, List.nil_append, List.append_nil, List.length_map, List.getElem?_cons_zero, List.getElem?_cons_succ, eq_self, aBin, aUn, reduceIte, Int.reduceEq, Int.reduceLT, Int.reduceLE, Int.reduceGT, Int.reduceGE, h1]
    exact hk _ _ hc.symm
  by_cases h2 : f.op = 2
  · simp only [h2, Int.reduceEq, true_or, or_true, if_true] at hc
    simp only [ir41, ir41p5, ir41p2, rowF, stepQ, List.map_cons, List.map_nil, List.cons_append, List.nil_append, List.append_nil, List.length_map, List.getElem?_cons_zero, List.getElem?_cons_succ, eq_self, aBin, aUn, reduceIte, Int.reduceEq, Int.reduceLT, Int.reduceLE, Int.reduceGT, Int.reduceGE, h2]
    exact hk _ _ hc.symm
  by_cases h3 : f.op = 3
  · simp only [h3, Int.reduceEq, true_or, or_true, if_true] at hc
    simp only [ir41, ir41p5, ir41p2, rowF, stepQ, List.map_cons, List.map_nil, List.cons_append, List.nil_append, List.append_nil, List.length_map, List.getElem?_cons_zero, List.getElem?_cons_succ, eq_self, aBin, aUn, reduceIte, Int.reduceEq, Int.reduceLT, Int.reduceLE, Int.reduceGT, Int.reduceGE, h3]
    exact hk _ _ hc.symm
  by_cases h4 : f.op = 4
  · simp only [h4, Int.reduceEq, or_self, if_true, if_false] at hc
    simp only [ir41, ir41p5, ir41p2, rowF, stepQ, List.map_cons, List.map_nil, List.cons_append, List.nil_append, List.append_nil, List.length_map, List.getElem?_cons_zero, List.getElem?_cons_succ, eq_self, aBin, aUn, reduceIte, Int.reduceEq, Int.reduceLT, Int.reduceLE, Int.reduceGT, Int.reduceGE, h4, e1]
    exact hk _ _ hc.symm
  by_cases h56 : f.op = 5 ∨ f.op = 6
  · rcases h56 with h5 | h5 <;>
    · simp only [h5, Int.reduceEq, or_self, true_or, or_true, if_true, if_false] at hc
      by_cases hg : 2 ≤ f.args.length
      · simp only [hg, decide_true, Bool.true_and] at hc
        simp only [ir41, ir41p5, ir41p4, ir41p2, rowF, stepQ, List.map_cons, List.map_nil, List.cons_append, List.nil_append, List.append_nil, List.length_map, List.getElem?_cons_zero, List.getElem?_cons_succ, eq_self, aBin, aUn, reduceIte, Int.reduceEq, Int.reduceLT, Int.reduceLE, Int.reduceGT, Int.reduceGE, h5, e3, e4, hg]
        exact hk _ _ hc.symm
      · simp only [hg, decide_false, Bool.false_and] at hc
        simp only [ir41, ir41p5, ir41p4, ir41p2, rowF, stepQ, List.map_cons, List.map_nil, List.cons_append, List.nil_append, List.append_nil, List.length_map, List.getElem?_cons_zero, List.getElem?_cons_succ, eq_self, aBin, aUn, reduceIte, Int.reduceEq, Int.reduceLT, Int.reduceLE, Int.reduceGT, Int.reduceGE, h5, e3, e4, hg]
        exact hk _ _ hc.symm
  by_cases h78 : f.op = 7 ∨ f.op = 8
  · rcases h78 with h5 | h5 <;>
    · simp only [h5, Int.reduceEq, or_self, true_or, or_true, if_true, if_false] at hc
      simp only [ir41, ir41p5, ir41p4, ir41p3, ir41p2, rowF, stepQ, List.map_cons, List.map_nil, List.cons_append, List.nil_append, List.append_nil, List.length_map, List.getElem?_cons_zero, List.getElem?_cons_succ, eq_self, aBin, aUn, reduceIte, Int.reduceEq, Int.reduceLT, Int.reduceLE, Int.reduceGT, Int.reduceGE, h5, e2]
      exact hk _ _ hc.symm
  have h5 : ¬ f.op = 5 := fun h => h56 (.inl h)
  have h6 : ¬ f.op = 6 := fun h => h56 (.inr h)
  have h7 : ¬ f.op = 7 := fun h => h78 (.inl h)
  have h8 : ¬ f.op = 8 := fun h => h78 (.inr h)
  simp only [h1, h2, h3, h4, h5, h6, h7, h8, or_self, if_false] at hc
  simp only [ir41, ir41p5, ir41p4, ir41p3, ir41p2, rowF, stepQ, List.map_cons, List.map_nil, List.cons_append, List.nil_append, List.append_nil, List.length_map, List.getElem?_cons_zero, List.getElem?_cons_succ, eq_self, aBin, aUn, reduceIte, Int.reduceEq, Int.reduceLT, Int.reduceLE, Int.reduceGT, Int.reduceGE, h1, h2, h3, h4, h5, h6, h7, h8]
  exact hk _ _ hc.symm
/-- no name is too long for a machine -/
def nameB (g : F) : Bool := decide (g.name.length < 1000000000)
theorem names42_run : ∀ (f : F), f.size < 1000000000 → F.allF nameB f = true → run tb 42 (rowF f) = some [.bool (F.allF named f)] := by
  refine bySizeF fun f ih hs hnb => ?_
  refine run_ir (x := ir42) rfl ?_
  have hla := F.sizes_len f.args
  have hse := F.size_eq f
  rw [F.allF_eq, Bool.and_eq_true] at hnb
  obtain ⟨hnb, hnbs⟩ := hnb
  have hk : ∀ (x0 x3 : D) (b : Bool), b = named f → loopQ (run tb) ir42p1 [x0, .str f.name, .sl (F.encs f.args), x3, .bool b] [] [.bool b, .int .i64 0] = some [.bool (F.allF named f)] := by
    intro x0 x3 b hb
    have key := loop_k (run := run tb) (body := ir42p1) (e := [x0, .str f.name, .sl (F.encs f.args), x3, .bool b]) (J := []) (σ := Bool) f.args.length
      (fun i ok => ok = (b && F.allFs named (f.args.take i))) (fun i ok => [.bool ok, .int .i64 i]) (fun _ _ => [.bool (F.allF named f)])
      (by
        rintro i ok L hi hok hL
        have hm : f.args[i] ∈ f.args := List.getElem_mem hi
        have h1 := mem_size hm
        have hr := ih _ hm (by omega) (allFs_mem hnbs _ hm)
        have h2 := F.allFs_take named f.args i hi
        have hnext := hL (ok && F.allF named f.args[i]) (by rw [h2, hok, Bool.and_assoc])
        simp only [rowF] at hr
        cases ok with
        | true =>
          simp only [Bool.true_and] at hnext
          simp (disch := omega) only [ir42p1, ir42p0, rowF, stepQ, List.map_cons, List.map_nil, List.cons_append, List.nil_append, List.append_nil, List.length_map, List.getElem?_cons_zero, List.getElem?_cons_succ, eq_self, aBin, aUn, reduceIte, Int.reduceEq, Int.reduceLT, Int.reduceLE, Int.reduceGT, Int.reduceGE, ev_lenL, hi, row_F, hr, wr, natS, hnext]
        | false =>
          simp only [Bool.false_and] at hnext
          simp (disch := omega) only [ir42p1, ir42p0, rowF, stepQ, List.map_cons, List.map_nil, List.cons_append, List.nil_append, List.append_nil, List.length_map, List.getElem?_cons_zero, List.getElem?_cons_succ, eq_self, aBin, aUn, reduceIte, Int.reduceEq, Int.reduceLT, Int.reduceLE, Int.reduceGT, Int.reduceGE, ev_lenL, hi, wr, natS, hnext])
      (by
        rintro ok L hok
        have : F.allF named f = ok := by rw [hok, List.take_length, hb, F.allF_eq]
        rw [this]
        simp (disch := omega) only [ir42p1, rowF, stepQ, List.map_cons, List.map_nil, List.cons_append, List.nil_append, List.append_nil, List.length_map, List.getElem?_cons_zero, List.getElem?_cons_succ, eq_self, aBin, aUn, reduceIte, Int.reduceEq, Int.reduceLT, Int.reduceLE, Int.reduceGT, Int.reduceGE, ev_lenL, Nat.lt_irrefl])
    have h := key 0 b (by omega) (by simp [F.allFs])
    simpa only [nat0] using h
  have hv := validName57_run f.name (by simpa [nameB] using hnb)
  by_cases h3 : f.op = 3
  · simp only [ir42, ir42p2, rowF, stepQ, List.map_cons, List.map_nil, List.cons_append, List.nil_append, List.append_nil, List.length_map, List.getElem?_cons_zero, List.getElem?_cons_succ, eq_self, aBin, aUn, reduceIte, Int.reduceEq, Int.reduceLT, Int.reduceLE, Int.reduceGT, Int.reduceGE, h3, hv]
    exact hk _ _ _ (by simp [named, h3])
  · simp only [ir42, ir42p2, rowF, stepQ, List.map_cons, List.map_nil, List.cons_append, List.nil_append, List.append_nil, List.length_map, List.getElem?_cons_zero, List.getElem?_cons_succ, eq_self, aBin, aUn, reduceIte, Int.reduceEq, Int.reduceLT, Int.reduceLE, Int.reduceGT, Int.reduceGE, h3]
    exact hk _ _ _ (by simp [named, h3])
theorem all39 (f : F) (hs : f.size < 1000000000) : run tb 39 (rowF f) = some [.bool (F.allF counted f)] := by
  have := all39_run f.size (by omega) f (Nat.le_refl _)
  rwa [F.enc_eq] at this
theorem all40 (f : F) (hs : f.size < 1000000000) : run tb 40 (rowF f) = some [.bool (F.allF named f)] := by
  have := all40_run f.size (by omega) f (Nat.le_refl _)
  rwa [F.enc_eq] at this
theorem validate18_run (f : F) (hs : f.size < 1000000000) : run tb 18 (rowF f) = some [.int .i64 (validate f)] := by
  refine run_ir (x := ir18) rfl ?_
  have h1 := size14_run f hs
  have h2 := depth16_run f hs
  have h3 := all39 f hs
  have h4 := all40 f hs
  simp only [rowF] at h1 h2 h3 h4
  unfold validate
  by_cases a : (f.size : Int) > 600
  · simp only [ir18, ir18p0, rowF, stepQ, List.map_cons, List.map_nil, List.cons_append, List.nil_append, List.append_nil, List.length_map, List.getElem?_cons_zero, List.getElem?_cons_succ, eq_self, aBin, aUn, reduceIte, Int.reduceEq, Int.reduceLT, Int.reduceLE, Int.reduceGT, Int.reduceGE, h1, a]
  by_cases b : (f.depth : Int) > 20
  · simp only [ir18, ir18p0, rowF, stepQ, List.map_cons, List.map_nil, List.cons_append, List.nil_append, List.append_nil, List.length_map, List.getElem?_cons_zero, List.getElem?_cons_succ, eq_self, aBin, aUn, reduceIte, Int.reduceEq, Int.reduceLT, Int.reduceLE, Int.reduceGT, Int.reduceGE, h1, h2, a, b]
  cases c : F.allF counted f <;> cases d : F.allF named f <;>
  · rw [c] at h3
    rw [d] at h4
    simp only [ir18, ir18p0, rowF, stepQ, List.map_cons, List.map_nil, List.cons_append, List.nil_append, List.append_nil, List.length_map, List.getElem?_cons_zero, List.getElem?_cons_succ, eq_self, aBin, aUn, reduceIte, Int.reduceEq, Int.reduceLT, Int.reduceLE, Int.reduceGT, Int.reduceGE, h1, h2, h3, h4, a, b]
theorem validate19_run (f : F) (hs : f.size < 1000000000) (hnb : F.allF nameB f = true) : run tb 19 (rowF f) = some [.int .i64 (validate f)] := by
  refine run_ir (x := ir19) rfl ?_
  have h1 := size15_run f hs
  have h2 := depth17_run f hs
  have h3 := kinds_run f hs
  have h4 := names42_run f hs hnb
  simp only [rowF] at h1 h2 h3 h4
  unfold validate
  by_cases a : (f.size : Int) > 600
  · simp only [ir19, ir19p0, rowF, stepQ, List.map_cons, List.map_nil, List.cons_append, List.nil_append, List.append_nil, List.length_map, List.getElem?_cons_zero, List.getElem?_cons_succ, eq_self, aBin, aUn, reduceIte, Int.reduceEq, Int.reduceLT, Int.reduceLE, Int.reduceGT, Int.reduceGE, h1, a]
  by_cases b : (f.depth : Int) > 20
  · simp only [ir19, ir19p0, rowF, stepQ, List.map_cons, List.map_nil, List.cons_append, List.nil_append, List.append_nil, List.length_map, List.getElem?_cons_zero, List.getElem?_cons_succ, eq_self, aBin, aUn, reduceIte, Int.reduceEq, Int.reduceLT, Int.reduceLE, Int.reduceGT, Int.reduceGE, h1, h2, a, b]
  cases c : F.allF counted f <;> cases d : F.allF named f <;>
  · rw [c] at h3
    rw [d] at h4
    simp only [ir19, ir19p0, rowF, stepQ, List.map_cons, List.map_nil, List.cons_append, List.nil_append, List.append_nil, List.length_map, List.getElem?_cons_zero, List.getElem?_cons_succ, eq_self, aBin, aUn, reduceIte, Int.reduceEq, Int.reduceLT, Int.reduceLE, Int.reduceGT, Int.reduceGE, h1, h2, h3, h4, a, b]
theorem eval26_run (ys : List (List UInt8)) (hy : ys.length < 1000000000) (f : F) (hs : f.size < 1000000000) : run tb 26 (rowF f ++ [strsD ys]) = some [.bool (good f && f.val ys)] := by
  by_cases hg : good f = true
  · have := eval_run ys (by omega) f (by omega) hg
    rw [F.enc_eq] at this
    rw [hg, Bool.true_and]
    exact this
  · refine run_ir (x := ir26) rfl ?_
    have h3 := all39 f hs
    have h4 := all40 f hs
    have hg' : (F.allF counted f && F.allF named f) = false := by simpa [good] using hg
    simp only [good, hg', Bool.false_and]
    simp only [rowF] at h3 h4
    cases c : F.allF counted f with
    | false =>
      rw [c] at h3
      simp only [ir26, ir26p0, rowF, stepQ, List.map_cons, List.map_nil, List.cons_append, List.nil_append, List.append_nil, List.length_map, List.getElem?_cons_zero, List.getElem?_cons_succ, eq_self, aBin, aUn, reduceIte, Int.reduceEq, Int.reduceLT, Int.reduceLE, Int.reduceGT, Int.reduceGE, h3]
    | true =>
      rw [c] at h3
      rw [c, Bool.true_and] at hg'
      rw [hg'] at h4
      simp only [ir26, ir26p0, rowF, stepQ, List.map_cons, List.map_nil, List.cons_append, List.nil_append, List.append_nil, List.length_map, List.getElem?_cons_zero, List.getElem?_cons_succ, eq_self, aBin, aUn, reduceIte, Int.reduceEq, Int.reduceLT, Int.reduceLE, Int.reduceGT, Int.reduceGE, h3, h4]
end Go.Proofs.YtgmnlkjoiakoaaaDoor

namespace Go.Proofs.YtgmnlkjoiakoaaaDoor
open Go Am
set_option maxRecDepth 100000
set_option linter.unusedSimpArgs false
set_option linter.unusedVariables false
/-! # names, ascending, by insertion -/
theorem insert_run (x : List UInt8) (l : List (List UInt8)) (hl : l.length < 1000000000) : run tb 65 [strsD l, .str x] = some [strsD (insS x l)] := by
  refine run_ir (x := ir65) rfl ?_
  have key := loop_k (run := run tb) (body := ir65p2) (e := [strsD l, .str x]) (J := []) (σ := Unit) l.length
    (fun k _ => insS x l = l.take k ++ insS x (l.drop k)) (fun k _ => [.int .i64 k]) (fun _ _ => [strsD (insS x l)])
    (by
      rintro k _ L hk hp hL
      rw [insS_drop hk] at hp
      by_cases h1 : Op.bytesLess l[k] x = true
      · rw [if_pos h1] at hp
        have hnext := hL () (by rw [hp, ← take_snoc hk, List.append_assoc]; rfl)
        simp (disch := omega) only [ir65p2, ir65p1, stepQ, List.map_cons, List.map_nil, List.cons_append, List.nil_append, List.append_nil, List.length_map, List.getElem?_cons_zero, List.getElem?_cons_succ, eq_self, aBin, aUn, reduceIte, Int.reduceEq, Int.reduceLT, Int.reduceLE, Int.reduceGT, Int.reduceGE, len_S, hk, row_S, h1, wr, natS, hnext]
      · rw [if_neg h1] at hp
        have h1' : Op.bytesLess l[k] x = false := by simpa using h1
        by_cases h2 : l[k] = x
        · rw [if_pos h2, List.take_append_drop] at hp
          have hb : (l[k] == x) = true := by simpa using h2
          rw [hp]
          simp (disch := omega) only [ir65p2, ir65p1, ir65p0, stepQ, List.map_cons, List.map_nil, List.cons_append, List.nil_append, List.append_nil, List.length_map, List.getElem?_cons_zero, List.getElem?_cons_succ, eq_self, aBin, aUn, reduceIte, Int.reduceEq, Int.reduceLT, Int.reduceLE, Int.reduceGT, Int.reduceGE, len_S, hk, row_S, h1', hb]
        · rw [if_neg h2] at hp
          have hb : (l[k] == x) = false := by simpa using h2
          have ht : (l.take k).length < 1000000000 := by simp; omega
          have ht1 : (l.take k ++ [x]).length < 1000000001 := by simp; omega
          have ht2 : (l.drop k).length ≤ 1000000000 := by simp; omega
          have : insS x l = l.take k ++ [x] ++ l.drop k := by rw [hp, List.append_assoc]; rfl
          rw [this]
          simp (disch := omega) only [ir65p2, ir65p1, ir65p0, stepQ, List.map_cons, List.map_nil, List.cons_append, List.nil_append, List.append_nil, List.length_map, List.getElem?_cons_zero, List.getElem?_cons_succ, eq_self, aBin, aUn, reduceIte, Int.reduceEq, Int.reduceLT, Int.reduceLE, Int.reduceGT, Int.reduceGE, len_S, hk, row_S, h1', hb, sub_S0, sub_Sd, app_S0, app_S, app_SL])
    (by
      rintro _ L hp
      rw [List.drop_length, List.take_length] at hp
      have : insS x l = l ++ [x] ++ l.drop l.length := by rw [hp]; simp [insS]
      rw [this]
      have ht2 : (l.drop l.length).length ≤ 1000000000 := by simp
      have ht1 : (l ++ [x]).length < 1000000001 := by simp; omega
      simp (disch := omega) only [ir65p2, ir65p1, ir65p0, stepQ, List.map_cons, List.map_nil, List.cons_append, List.nil_append, List.append_nil, List.length_map, List.getElem?_cons_zero, List.getElem?_cons_succ, eq_self, aBin, aUn, reduceIte, Int.reduceEq, Int.reduceLT, Int.reduceLE, Int.reduceGT, Int.reduceGE, len_S, Nat.lt_irrefl, sub_S0, sub_Sd, app_S0, app_S, app_SL, take_all])
  have hk := key 0 () (by omega) (by simp)
  simp only [nat0, List.cons_append, List.nil_append] at hk
  simp only [ir65, stepQ, List.map_cons, List.map_nil, List.cons_append, List.nil_append, List.append_nil, List.length_map, List.getElem?_cons_zero, List.getElem?_cons_succ, eq_self, aBin, aUn, reduceIte, Int.reduceEq, Int.reduceLT, Int.reduceLE, Int.reduceGT, Int.reduceGE, hk]
theorem collect_run : ∀ (f : F) (l : List (List UInt8)), l.length + f.size < 1000000000 → run tb 49 (strsD l :: rowF f) = some [strsD (colL (F.atomL f) l)] := by
  refine bySizeF fun f ih l hl => ?_
  refine run_ir (x := ir49) rfl ?_
  have hla := F.sizes_len f.args
  have hse := F.size_eq f
  have hk : ∀ (x0 x4 : D) (l' : List (List UInt8)), l'.length + F.sizes f.args < 1000000000 → loopQ (run tb) ir49p0 [x0, .int .i64 f.op, .str f.name, .sl (F.encs f.args), x4] [] [strsD l', .int .i64 0] = some [strsD (colL (F.atomLs f.args) l')] := by
    intro x0 x4 l' hl'
    have key := loop_k (run := run tb) (body := ir49p0) (e := [x0, .int .i64 f.op, .str f.name, .sl (F.encs f.args), x4]) (J := []) (σ := Unit) f.args.length
      (fun _ _ => True) (fun i _ => [strsD (colL (F.atomLs (f.args.take i)) l'), .int .i64 i]) (fun _ _ => [strsD (colL (F.atomLs f.args) l')])
      (by
        rintro i _ L hi _ hL
        have hm : f.args[i] ∈ f.args := List.getElem_mem hi
        have h1 := F.sizes_take f.args i hi
        have h2 := F.sizes_take_le f.args (i + 1)
        have h3 := colL_len (F.atomLs (f.args.take i)) l'
        have h4 := F.atomLs_len (f.args.take i)
        have hr := ih _ hm (colL (F.atomLs (f.args.take i)) l') (by omega)
        rw [← colL_append, ← F.atomLs_take_s _ _ hi] at hr
        simp only [rowF] at hr
        have hnext := hL () trivial
        simp (disch := omega) only [ir49p0, rowF, stepQ, List.map_cons, List.map_nil, List.cons_append, List.nil_append, List.append_nil, List.length_map, List.getElem?_cons_zero, List.getElem?_cons_succ, eq_self, aBin, aUn, reduceIte, Int.reduceEq, Int.reduceLT, Int.reduceLE, Int.reduceGT, Int.reduceGE, ev_lenL, hi, row_F, hr, wr, natS, hnext])
      (by
        rintro _ L _
        simp (disch := omega) only [ir49p0, rowF, stepQ, List.map_cons, List.map_nil, List.cons_append, List.nil_append, List.append_nil, List.length_map, List.getElem?_cons_zero, List.getElem?_cons_succ, eq_self, aBin, aUn, reduceIte, Int.reduceEq, Int.reduceLT, Int.reduceLE, Int.reduceGT, Int.reduceGE, ev_lenL, Nat.lt_irrefl, take_all])
    have h := key 0 () (by omega) trivial
    simpa only [nat0, List.take_zero, F.atomLs, colL, List.foldl_nil, List.cons_append, List.nil_append] using h
  have hi := insert_run f.name l (by omega)
  rw [F.atomL_eq]
  by_cases h3 : f.op = 3
  · by_cases h4 : f.args.length = 0
    · have ha : f.args = [] := List.length_eq_zero_iff.1 h4
      have h5 := hk (strsD l) (strsD (insS f.name l)) (insS f.name l) (by rw [ha]; have := insS_len f.name l; simp [F.sizes]; omega)
      rw [if_pos ⟨h3, h4⟩]
      have hc : colL (F.atomLs f.args) (insS f.name l) = colL [f.name] l := by rw [ha]; rfl
      rw [hc] at h5
      simp only [h3] at h5
      simp only [ir49, ir49p2, ir49p1, rowF, stepQ, List.map_cons, List.map_nil, List.cons_append, List.nil_append, List.append_nil, List.length_map, List.getElem?_cons_zero, List.getElem?_cons_succ, eq_self, aBin, aUn, reduceIte, Int.reduceEq, Int.reduceLT, Int.reduceLE, Int.reduceGT, Int.reduceGE, ev_lenL, h3, h4, hi, h5]
    · rw [if_neg (fun h => h4 h.2)]
      have h5 := hk (strsD l) (strsD l) l (by omega)
      simp only [h3] at h5
      simp only [ir49, ir49p2, ir49p1, rowF, stepQ, List.map_cons, List.map_nil, List.cons_append, List.nil_append, List.append_nil, List.length_map, List.getElem?_cons_zero, List.getElem?_cons_succ, eq_self, aBin, aUn, reduceIte, Int.reduceEq, Int.reduceLT, Int.reduceLE, Int.reduceGT, Int.reduceGE, ev_lenL, h3, h4, h5]
  · rw [if_neg (fun h => h3 h.1)]
    have h5 := hk (strsD l) (strsD l) l (by omega)
    simp only [ir49, ir49p2, ir49p1, rowF, stepQ, List.map_cons, List.map_nil, List.cons_append, List.nil_append, List.append_nil, List.length_map, List.getElem?_cons_zero, List.getElem?_cons_succ, eq_self, aBin, aUn, reduceIte, Int.reduceEq, Int.reduceLT, Int.reduceLE, Int.reduceGT, Int.reduceGE, h3, h5]
theorem atoms31_run (f : F) (hs : f.size < 1000000000) : run tb 31 (rowF f) = some [strsD (canon (F.atomL f))] := by
  refine run_ir (x := ir31) rfl ?_
  have h := collect_run f [] (by simpa using hs)
  rw [colL_canon, ← strs_nil] at h
  simp only [rowF] at h
  simp only [ir31, rowF, stepQ, List.map_cons, List.map_nil, List.cons_append, List.nil_append, List.append_nil, List.length_map, List.getElem?_cons_zero, List.getElem?_cons_succ, eq_self, aBin, aUn, reduceIte, Int.reduceEq, Int.reduceLT, Int.reduceLE, Int.reduceGT, Int.reduceGE, h]
/-! # equality, copies, substitution -/
theorem same22_run : ∀ (f g : F), f.size < 1000000000 → g.size < 1000000000 → run tb 22 (rowF f ++ rowF g) = some [.bool (F.beq f g)] := by
  refine bySizeF fun f ih g hs hs' => ?_
  refine run_ir (x := ir22) rfl ?_
  have hla := F.sizes_len f.args
  have hse := F.size_eq f
  rw [F.beq_eq]
  by_cases h1 : f.op = g.op
  · by_cases h2 : f.name = g.name
    · by_cases h3 : f.args.length = g.args.length
      · have key := loop_k (run := run tb) (body := ir22p0) (e := rowF f ++ rowF g ++ [.bool false]) (J := []) (σ := Unit) f.args.length
          (fun _ _ => True) (fun i _ => [.int .i64 i]) (fun i _ => [.bool (F.beqs (f.args.drop i) (g.args.drop i))])
          (by
            rintro i _ L hi _ hL
            have hi' : i < g.args.length := by omega
            have hm : f.args[i] ∈ f.args := List.getElem_mem hi
            have hm' : g.args[i] ∈ g.args := List.getElem_mem hi'
            have hr := ih _ hm g.args[i] (by have := mem_size hm; omega) (by have := mem_size hm'; omega)
            have hnext := hL () trivial
            rw [F.beqs_drop hi hi']
            simp only [rowF, List.cons_append, List.nil_append] at hr
            cases hx : F.beq f.args[i] g.args[i] <;>
            · rw [hx] at hr
              simp (disch := omega) only [ir22p0, rowF, stepQ, List.map_cons, List.map_nil, List.cons_append, List.nil_append, List.append_nil, List.length_map, List.getElem?_cons_zero, List.getElem?_cons_succ, eq_self, aBin, aUn, reduceIte, Int.reduceEq, Int.reduceLT, Int.reduceLE, Int.reduceGT, Int.reduceGE, ev_lenL, hi, row_F, hr, wr, natS, hnext])
          (by
            rintro _ L _
            rw [List.drop_length, h3, List.drop_length]
            simp (disch := omega) only [ir22p0, rowF, stepQ, List.map_cons, List.map_nil, List.cons_append, List.nil_append, List.append_nil, List.length_map, List.getElem?_cons_zero, List.getElem?_cons_succ, eq_self, aBin, aUn, reduceIte, Int.reduceEq, Int.reduceLT, Int.reduceLE, Int.reduceGT, Int.reduceGE, ev_lenL, h3, Nat.lt_irrefl, F.beqs])
        have hk := key 0 () (by omega) trivial
        simp only [rowF, nat0, List.drop_zero, List.cons_append, List.nil_append, h1, h2] at hk
        have hn : (g.name == g.name) = true := by simp
        simp only [ir22, ir22p1, rowF, stepQ, List.map_cons, List.map_nil, List.cons_append, List.nil_append, List.append_nil, List.length_map, List.getElem?_cons_zero, List.getElem?_cons_succ, eq_self, aBin, aUn, reduceIte, Int.reduceEq, Int.reduceLT, Int.reduceLE, Int.reduceGT, Int.reduceGE, ev_lenL, ibne, h1, h2, hn, h3, hk]
      · have hn : (g.name == g.name) = true := by simp
        simp only [ir22, ir22p1, rowF, stepQ, List.map_cons, List.map_nil, List.cons_append, List.nil_append, List.append_nil, List.length_map, List.getElem?_cons_zero, List.getElem?_cons_succ, eq_self, aBin, aUn, reduceIte, Int.reduceEq, Int.reduceLT, Int.reduceLE, Int.reduceGT, Int.reduceGE, ev_lenL, ibne, h1, h2, hn, h3]
    · have hn : (f.name == g.name) = false := by simpa using h2
      simp only [ir22, ir22p1, rowF, stepQ, List.map_cons, List.map_nil, List.cons_append, List.nil_append, List.append_nil, List.length_map, List.getElem?_cons_zero, List.getElem?_cons_succ, eq_self, aBin, aUn, reduceIte, Int.reduceEq, Int.reduceLT, Int.reduceLE, Int.reduceGT, Int.reduceGE, ev_lenL, ibne, h1, h2, hn]
  · simp only [ir22, ir22p1, rowF, stepQ, List.map_cons, List.map_nil, List.cons_append, List.nil_append, List.append_nil, List.length_map, List.getElem?_cons_zero, List.getElem?_cons_succ, eq_self, aBin, aUn, reduceIte, Int.reduceEq, Int.reduceLT, Int.reduceLE, Int.reduceGT, Int.reduceGE, ev_lenL, ibne, h1]
theorem same33_run : ∀ (f g : F), f.size < 1000000000 → g.size < 1000000000 → run tb 33 (rowF f ++ rowF g) = some [.bool (F.beq f g)] := by
  refine bySizeF fun f ih g hs hs' => ?_
  refine run_ir (x := ir33) rfl ?_
  have hla := F.sizes_len f.args
  have hse := F.size_eq f
  rw [F.beq_eq]
  have heq : run tb 51 [.sl (F.encs f.args), .sl (F.encs g.args)] = some [.bool (decide (f.args.length = g.args.length) && F.beqs f.args g.args)] := by
    refine run_ir (x := ir51) rfl ?_
    by_cases h3 : f.args.length = g.args.length
    · have key := loop_k (run := run tb) (body := ir51p0) (e := [.sl (F.encs f.args), .sl (F.encs g.args), .int .i64 f.args.length, .int .i64 f.args.length, .bool false, .int .i64 f.args.length]) (J := []) (σ := Unit) f.args.length
        (fun _ _ => True) (fun i _ => [.int .i64 i]) (fun i _ => [.bool (F.beqs (f.args.drop i) (g.args.drop i))])
        (by
          rintro i _ L hi _ hL
          have hi' : i < g.args.length := by omega
          have hm : f.args[i] ∈ f.args := List.getElem_mem hi
          have hm' : g.args[i] ∈ g.args := List.getElem_mem hi'
          have hr := ih _ hm g.args[i] (by have := mem_size hm; omega) (by have := mem_size hm'; omega)
          have hnext := hL () trivial
          rw [F.beqs_drop hi hi']
          simp only [rowF, List.cons_append, List.nil_append] at hr
          cases hx : F.beq f.args[i] g.args[i] <;>
          · rw [hx] at hr
            simp (disch := omega) only [ir51p0, rowF, stepQ, List.map_cons, List.map_nil, List.cons_append, List.nil_append, List.append_nil, List.length_map, List.getElem?_cons_zero, List.getElem?_cons_succ, eq_self, aBin, aUn, reduceIte, Int.reduceEq, Int.reduceLT, Int.reduceLE, Int.reduceGT, Int.reduceGE, hi, row_F, hr, wr, natS, hnext])
        (by
          rintro _ L _
          rw [List.drop_length, h3, List.drop_length]
          simp (disch := omega) only [ir51p0, rowF, stepQ, List.map_cons, List.map_nil, List.cons_append, List.nil_append, List.append_nil, List.length_map, List.getElem?_cons_zero, List.getElem?_cons_succ, eq_self, aBin, aUn, reduceIte, Int.reduceEq, Int.reduceLT, Int.reduceLE, Int.reduceGT, Int.reduceGE, h3, Nat.lt_irrefl, F.beqs])
      have hk := key 0 () (by omega) trivial
      simp only [nat0, List.drop_zero, List.cons_append, List.nil_append, h3] at hk
      simp only [ir51, stepQ, List.map_cons, List.map_nil, List.cons_append, List.nil_append, List.append_nil, List.length_map, List.getElem?_cons_zero, List.getElem?_cons_succ, eq_self, aBin, aUn, reduceIte, Int.reduceEq, Int.reduceLT, Int.reduceLE, Int.reduceGT, Int.reduceGE, ev_lenL, ibne, h3, hk]
    · simp only [ir51, stepQ, List.map_cons, List.map_nil, List.cons_append, List.nil_append, List.append_nil, List.length_map, List.getElem?_cons_zero, List.getElem?_cons_succ, eq_self, aBin, aUn, reduceIte, Int.reduceEq, Int.reduceLT, Int.reduceLE, Int.reduceGT, Int.reduceGE, ev_lenL, ibne, h3]
  by_cases h1 : f.op = g.op
  · by_cases h2 : f.name = g.name
    · have hn : (g.name == g.name) = true := by simp
      simp only [ir33, rowF, stepQ, List.map_cons, List.map_nil, List.cons_append, List.nil_append, List.append_nil, List.length_map, List.getElem?_cons_zero, List.getElem?_cons_succ, eq_self, aBin, aUn, reduceIte, Int.reduceEq, Int.reduceLT, Int.reduceLE, Int.reduceGT, Int.reduceGE, h1, h2, hn, heq]
    · have hn : (f.name == g.name) = false := by simpa using h2
      simp only [ir33, rowF, stepQ, List.map_cons, List.map_nil, List.cons_append, List.nil_append, List.append_nil, List.length_map, List.getElem?_cons_zero, List.getElem?_cons_succ, eq_self, aBin, aUn, reduceIte, Int.reduceEq, Int.reduceLT, Int.reduceLE, Int.reduceGT, Int.reduceGE, h1, h2, hn]
  · simp only [ir33, rowF, stepQ, List.map_cons, List.map_nil, List.cons_append, List.nil_append, List.append_nil, List.length_map, List.getElem?_cons_zero, List.getElem?_cons_succ, eq_self, aBin, aUn, reduceIte, Int.reduceEq, Int.reduceLT, Int.reduceLE, Int.reduceGT, Int.reduceGE, h1]
theorem copy52_run : ∀ (f : F), f.size < 1000000000 → run tb 52 (rowF f) = some (rowF f) := by
  refine bySizeF fun f ih hs => ?_
  refine run_ir (x := ir52) rfl ?_
  have hla := F.sizes_len f.args
  have hse := F.size_eq f
  have key := loop_k (run := run tb) (body := ir52p0) (e := rowF f) (J := []) (σ := Unit) f.args.length
    (fun _ _ => True) (fun i _ => [.int .i64 i, .sl (F.encs (f.args.take i))]) (fun _ _ => rowF f)
    (by
      rintro i _ L hi _ hL
      have hm : f.args[i] ∈ f.args := List.getElem_mem hi
      have hr := ih _ hm (by have := mem_size hm; omega)
      have ht : (f.args.take i).length < 1000000000000 := by simp; omega
      have hnext := hL () trivial
      simp only [rowF] at hr hnext
      simp (disch := omega) only [ir52p0, rowF, stepQ, List.map_cons, List.map_nil, List.cons_append, List.nil_append, List.append_nil, List.length_map, List.getElem?_cons_zero, List.getElem?_cons_succ, eq_self, aBin, aUn, reduceIte, Int.reduceEq, Int.reduceLT, Int.reduceLE, Int.reduceGT, Int.reduceGE, ev_lenL, hi, row_F, hr, app_F, take_snoc, wr, natS, hnext])
    (by
      rintro _ L _
      simp (disch := omega) only [ir52p0, rowF, stepQ, List.map_cons, List.map_nil, List.cons_append, List.nil_append, List.append_nil, List.length_map, List.getElem?_cons_zero, List.getElem?_cons_succ, eq_self, aBin, aUn, reduceIte, Int.reduceEq, Int.reduceLT, Int.reduceLE, Int.reduceGT, Int.reduceGE, ev_lenL, Nat.lt_irrefl, take_all])
  have hk := key 0 () (by omega) trivial
  simp only [rowF, nat0, List.take_zero, F.encs] at hk
  simp only [ir52, rowF, stepQ, List.map_cons, List.map_nil, List.cons_append, List.nil_append, List.append_nil, List.length_map, List.getElem?_cons_zero, List.getElem?_cons_succ, eq_self, aBin, aUn, reduceIte, Int.reduceEq, Int.reduceLT, Int.reduceLE, Int.reduceGT, Int.reduceGE, hk]
theorem subst34_run (p : List UInt8) (g : F) (hg : g.size < 1000000000) : ∀ (f : F), f.size < 1000000000 → run tb 34 (rowF f ++ [.str p] ++ rowF g) = some (rowF (F.subst p g f)) := by
  refine bySizeF fun f ih hs => ?_
  refine run_ir (x := ir34) rfl ?_
  have hla := F.sizes_len f.args
  have hse := F.size_eq f
  have hcopy := copy52_run g hg
  have hloop : ∀ x7, loopQ (run tb) ir34p0 (rowF f ++ [.str p] ++ rowF g ++ [x7]) [] [.int .i64 0, .sl []] = some (rowF (F.mk f.op f.name (f.args.map (F.subst p g)))) := by
    intro x7
    have key := loop_k (run := run tb) (body := ir34p0) (e := rowF f ++ [.str p] ++ rowF g ++ [x7]) (J := []) (σ := Unit) f.args.length
      (fun _ _ => True) (fun i _ => [.int .i64 i, .sl (F.encs ((f.args.map (F.subst p g)).take i))]) (fun _ _ => rowF (F.mk f.op f.name (f.args.map (F.subst p g))))
      (by
        rintro i _ L hi _ hL
        have hm : f.args[i] ∈ f.args := List.getElem_mem hi
        have hr := ih _ hm (by have := mem_size hm; omega)
        have hi' : i < (f.args.map (F.subst p g)).length := by simpa using hi
        have ht : ((f.args.map (F.subst p g)).take i).length < 1000000000000 := by simp; omega
        have hgx : F.subst p g f.args[i] = (f.args.map (F.subst p g))[i] := by simp
        rw [hgx] at hr
        have hnext := hL () trivial
        simp only [rowF, List.cons_append, List.nil_append] at hr hnext
        simp (disch := omega) only [ir34p0, rowF, stepQ, List.map_cons, List.map_nil, List.cons_append, List.nil_append, List.append_nil, List.length_map, List.getElem?_cons_zero, List.getElem?_cons_succ, eq_self, aBin, aUn, reduceIte, Int.reduceEq, Int.reduceLT, Int.reduceLE, Int.reduceGT, Int.reduceGE, ev_lenL, hi, row_F, hr, app_F, take_snoc, wr, natS, hnext])
      (by
        rintro _ L _
        have : (f.args.map (F.subst p g)).take f.args.length = f.args.map (F.subst p g) := List.take_of_length_le (by simp)
        simp (disch := omega) only [ir34p0, rowF, stepQ, List.map_cons, List.map_nil, List.cons_append, List.nil_append, List.append_nil, List.length_map, List.getElem?_cons_zero, List.getElem?_cons_succ, eq_self, aBin, aUn, reduceIte, Int.reduceEq, Int.reduceLT, Int.reduceLE, Int.reduceGT, Int.reduceGE, ev_lenL, Nat.lt_irrefl, this, F.op_mk, F.name_mk, F.args_mk])
    have hk := key 0 () (by omega) trivial
    simpa only [nat0, List.take_zero, F.encs] using hk
  rw [F.subst_eq]
  simp only [rowF, List.cons_append, List.nil_append, F.op_mk, F.name_mk, F.args_mk] at hloop hcopy
  by_cases h3 : f.op = 3
  · by_cases h4 : f.args.length = 0
    · have ha : f.args = [] := List.length_eq_zero_iff.1 h4
      by_cases h5 : f.name = p
      · rw [if_pos ⟨h3, h4, h5⟩]
        have hn : (f.name == p) = true := by simpa using h5
        simp only [ir34, ir34p1, rowF, stepQ, List.map_cons, List.map_nil, List.cons_append, List.nil_append, List.append_nil, List.length_map, List.getElem?_cons_zero, List.getElem?_cons_succ, eq_self, aBin, aUn, reduceIte, Int.reduceEq, Int.reduceLT, Int.reduceLE, Int.reduceGT, Int.reduceGE, ev_lenL, h3, h4, hn, hcopy]
      · rw [if_neg (fun h => h5 h.2.2)]
        have hn : (f.name == p) = false := by simpa using h5
        simp only [ir34, ir34p1, rowF, stepQ, List.map_cons, List.map_nil, List.cons_append, List.nil_append, List.append_nil, List.length_map, List.getElem?_cons_zero, List.getElem?_cons_succ, eq_self, aBin, aUn, reduceIte, Int.reduceEq, Int.reduceLT, Int.reduceLE, Int.reduceGT, Int.reduceGE, ev_lenL, h3, h4, hn, F.op_mk, F.name_mk, F.args_mk, ha, List.map_nil, List.length_nil, F.encs, nat0]
    · rw [if_neg (fun h => h4 h.2.1)]
      have hl := hloop (.bool false)
      simp only [h3] at hl
      simp only [ir34, ir34p1, rowF, stepQ, List.map_cons, List.map_nil, List.cons_append, List.nil_append, List.append_nil, List.length_map, List.getElem?_cons_zero, List.getElem?_cons_succ, eq_self, aBin, aUn, reduceIte, Int.reduceEq, Int.reduceLT, Int.reduceLE, Int.reduceGT, Int.reduceGE, ev_lenL, h3, h4, hl, F.op_mk, F.name_mk, F.args_mk]
  · rw [if_neg (fun h => h3 h.1)]
    simp only [ir34, ir34p1, rowF, stepQ, List.map_cons, List.map_nil, List.cons_append, List.nil_append, List.append_nil, List.length_map, List.getElem?_cons_zero, List.getElem?_cons_succ, eq_self, aBin, aUn, reduceIte, Int.reduceEq, Int.reduceLT, Int.reduceLE, Int.reduceGT, Int.reduceGE, ev_lenL, h3, hloop, F.op_mk, F.name_mk, F.args_mk]
end Go.Proofs.YtgmnlkjoiakoaaaDoor

namespace Go.Proofs.YtgmnlkjoiakoaaaDoor
open Go Am
set_option maxRecDepth 100000
set_option linter.unusedSimpArgs false
set_option linter.unusedVariables false
/-! # the specification's values -/
theorem value50_run (ys : List (List UInt8)) (hy : ys.length < 1000000000) : ∀ (f : F), f.size < 1000000000 → good f = true → run tb 50 (rowF f ++ [strsD ys]) = some [.bool (f.val ys)] := by
  refine bySizeF fun f ih hs hg => ?_
  refine run_ir (x := ir50) rfl ?_
  have hla := F.sizes_len f.args
  have hse := F.size_eq f
  obtain ⟨hc, hn, hga⟩ := (good_iff f).1 hg
  rw [counted_eq] at hc
  have harg : ∀ i, (h : i < f.args.length) → run tb 50 (rowF f.args[i] ++ [strsD ys]) = some [.bool (F.val ys f.args[i])] := fun i h => by
    have hm : f.args[i] ∈ f.args := List.getElem_mem h
    exact ih _ hm (by have := mem_size hm; omega) (hga _ hm)
  simp only [rowF, List.cons_append, List.nil_append] at harg
  rw [F.val_eq]
  by_cases h1 : f.op = 1
  · simp only [ir50, rowF, stepQ, List.map_cons, List.map_nil, List.cons_append, List.nil_append, List.append_nil, List.length_map, List.getElem?_cons_zero, List.getElem?_cons_succ, eq_self, aBin, aUn, reduceIte, Int.reduceEq, Int.reduceLT, Int.reduceLE, Int.reduceGT, Int.reduceGE, h1, valO]
  by_cases h3 : f.op = 3
  · have key := loop_k (run := run tb) (body := ir50p0) (e := rowF f ++ [strsD ys, .bool false, .bool true]) (J := []) (σ := Unit) ys.length
      (fun _ _ => True) (fun i _ => [.int .i64 i]) (fun i _ => [.bool ((ys.drop i).contains f.name)])
      (by
        rintro i _ L hi _ hL
        have hnext := hL () trivial
        rw [drop_s hi, List.contains_cons]
        by_cases hx : ys[i] = f.name
        · have hb : (ys[i] == f.name) = true := by simpa using hx
          have hb' : (f.name == ys[i]) = true := by simpa using hx.symm
          simp (disch := omega) only [ir50p0, rowF, stepQ, List.map_cons, List.map_nil, List.cons_append, List.nil_append, List.append_nil, List.length_map, List.getElem?_cons_zero, List.getElem?_cons_succ, eq_self, aBin, aUn, reduceIte, Int.reduceEq, Int.reduceLT, Int.reduceLE, Int.reduceGT, Int.reduceGE, len_S, hi, row_S, hb, hb', wr, natS, hnext]
        · have hb : (ys[i] == f.name) = false := by simpa using hx
          have hb' : (f.name == ys[i]) = false := by simpa using fun h => hx h.symm
          simp (disch := omega) only [ir50p0, rowF, stepQ, List.map_cons, List.map_nil, List.cons_append, List.nil_append, List.append_nil, List.length_map, List.getElem?_cons_zero, List.getElem?_cons_succ, eq_self, aBin, aUn, reduceIte, Int.reduceEq, Int.reduceLT, Int.reduceLE, Int.reduceGT, Int.reduceGE, len_S, hi, row_S, hb, hb', wr, natS, hnext])
      (by
        rintro _ L _
        rw [List.drop_length]
        simp (disch := omega) only [ir50p0, rowF, stepQ, List.map_cons, List.map_nil, List.cons_append, List.nil_append, List.append_nil, List.length_map, List.getElem?_cons_zero, List.getElem?_cons_succ, eq_self, aBin, aUn, reduceIte, Int.reduceEq, Int.reduceLT, Int.reduceLE, Int.reduceGT, Int.reduceGE, len_S, Nat.lt_irrefl, List.contains_nil])
    have hk := key 0 () (by omega) trivial
    simp only [rowF, nat0, List.drop_zero, List.cons_append, List.nil_append, h3] at hk
    simp only [ir50, rowF, stepQ, List.map_cons, List.map_nil, List.cons_append, List.nil_append, List.append_nil, List.length_map, List.getElem?_cons_zero, List.getElem?_cons_succ, eq_self, aBin, aUn, reduceIte, Int.reduceEq, Int.reduceLT, Int.reduceLE, Int.reduceGT, Int.reduceGE, h3, valO, hk, if_false]
  by_cases h4 : f.op = 4
  · have hl : f.args.length = 1 := by simpa [h4] using hc
    have hr := harg 0 (by omega)
    have hv : (f.args.map (F.val ys)).getD 0 false = F.val ys f.args[0] := by simp [hl]
    simp (disch := omega) only [ir50, rowF, stepQ, List.map_cons, List.map_nil, List.cons_append, List.nil_append, List.append_nil, List.length_map, List.getElem?_cons_zero, List.getElem?_cons_succ, eq_self, aBin, aUn, reduceIte, Int.reduceEq, Int.reduceLT, Int.reduceLE, Int.reduceGT, Int.reduceGE, h4, row_F0, hr, valO, hv, if_false]
  by_cases h5 : f.op = 5
  · have key := loop_k (run := run tb) (body := ir50p1) (e := rowF f ++ [strsD ys, .bool false, .bool false, .bool false, .bool true]) (J := []) (σ := Unit) f.args.length
      (fun _ _ => True) (fun i _ => [.int .i64 i]) (fun i _ => [.bool (((f.args.map (F.val ys)).drop i).all id)])
      (by
        rintro i _ L hi _ hL
        have hnext := hL () trivial
        have hr := harg i hi
        have hd : (f.args.map (F.val ys)).drop i = F.val ys f.args[i] :: (f.args.map (F.val ys)).drop (i + 1) := by
          rw [drop_s (by simpa using hi)]; simp
        rw [hd, List.all_cons]
        cases hx : F.val ys f.args[i] <;>
        · rw [hx] at hr
          simp (disch := omega) only [ir50p1, rowF, stepQ, List.map_cons, List.map_nil, List.cons_append, List.nil_append, List.append_nil, List.length_map, List.getElem?_cons_zero, List.getElem?_cons_succ, eq_self, aBin, aUn, reduceIte, Int.reduceEq, Int.reduceLT, Int.reduceLE, Int.reduceGT, Int.reduceGE, ev_lenL, hi, row_F, hr, wr, natS, hnext, id])
      (by
        rintro _ L _
        have hd : (f.args.map (F.val ys)).drop f.args.length = [] := List.drop_eq_nil_of_le (by simp)
        rw [hd]
        simp (disch := omega) only [ir50p1, rowF, stepQ, List.map_cons, List.map_nil, List.cons_append, List.nil_append, List.append_nil, List.length_map, List.getElem?_cons_zero, List.getElem?_cons_succ, eq_self, aBin, aUn, reduceIte, Int.reduceEq, Int.reduceLT, Int.reduceLE, Int.reduceGT, Int.reduceGE, ev_lenL, Nat.lt_irrefl, List.all_nil])
    have hk := key 0 () (by omega) trivial
    simp only [rowF, nat0, List.drop_zero, List.cons_append, List.nil_append, h5] at hk
    simp only [ir50, rowF, stepQ, List.map_cons, List.map_nil, List.cons_append, List.nil_append, List.append_nil, List.length_map, List.getElem?_cons_zero, List.getElem?_cons_succ, eq_self, aBin, aUn, reduceIte, Int.reduceEq, Int.reduceLT, Int.reduceLE, Int.reduceGT, Int.reduceGE, h5, valO, hk, if_false]
  by_cases h6 : f.op = 6
  · have key := loop_k (run := run tb) (body := ir50p2) (e := rowF f ++ [strsD ys, .bool false, .bool false, .bool false, .bool false, .bool true]) (J := []) (σ := Unit) f.args.length
      (fun _ _ => True) (fun i _ => [.int .i64 i]) (fun i _ => [.bool (((f.args.map (F.val ys)).drop i).any id)])
      (by
        rintro i _ L hi _ hL
        have hnext := hL () trivial
        have hr := harg i hi
        have hd : (f.args.map (F.val ys)).drop i = F.val ys f.args[i] :: (f.args.map (F.val ys)).drop (i + 1) := by
          rw [drop_s (by simpa using hi)]; simp
        rw [hd, List.any_cons]
        cases hx : F.val ys f.args[i] <;>
        · rw [hx] at hr
          simp (disch := omega) only [ir50p2, rowF, stepQ, List.map_cons, List.map_nil, List.cons_append, List.nil_append, List.append_nil, List.length_map, List.getElem?_cons_zero, List.getElem?_cons_succ, eq_self, aBin, aUn, reduceIte, Int.reduceEq, Int.reduceLT, Int.reduceLE, Int.reduceGT, Int.reduceGE, ev_lenL, hi, row_F, hr, wr, natS, hnext, id])
      (by
        rintro _ L _
        have hd : (f.args.map (F.val ys)).drop f.args.length = [] := List.drop_eq_nil_of_le (by simp)
        rw [hd]
        simp (disch := omega) only [ir50p2, rowF, stepQ, List.map_cons, List.map_nil, List.cons_append, List.nil_append, List.append_nil, List.length_map, List.getElem?_cons_zero, List.getElem?_cons_succ, eq_self, aBin, aUn, reduceIte, Int.reduceEq, Int.reduceLT, Int.reduceLE, Int.reduceGT, Int.reduceGE, ev_lenL, Nat.lt_irrefl, List.any_nil])
    have hk := key 0 () (by omega) trivial
    simp only [rowF, nat0, List.drop_zero, List.cons_append, List.nil_append, h6] at hk
    simp only [ir50, rowF, stepQ, List.map_cons, List.map_nil, List.cons_append, List.nil_append, List.append_nil, List.length_map, List.getElem?_cons_zero, List.getElem?_cons_succ, eq_self, aBin, aUn, reduceIte, Int.reduceEq, Int.reduceLT, Int.reduceLE, Int.reduceGT, Int.reduceGE, h6, valO, hk, if_false]
  by_cases h7 : f.op = 7
  · have hl : f.args.length = 2 := by simpa [h7] using hc
    have hr := harg 0 (by omega)
    have hr1 := harg 1 (by omega)
    have hv : (f.args.map (F.val ys)).getD 0 false = F.val ys f.args[0] := by simp [hl]
    have hv1 : (f.args.map (F.val ys)).getD 1 false = F.val ys f.args[1] := by simp [hl]
    simp only [valO, h7, hv, hv1, Int.reduceEq, if_false, if_true, true_or]
    cases hx : F.val ys f.args[0] <;> cases hx1 : F.val ys f.args[1] <;>
    · rw [hx] at hr
      rw [hx1] at hr1
      simp (disch := omega) only [ir50, rowF, stepQ, List.map_cons, List.map_nil, List.cons_append, List.nil_append, List.append_nil, List.length_map, List.getElem?_cons_zero, List.getElem?_cons_succ, eq_self, aBin, aUn, reduceIte, Int.reduceEq, Int.reduceLT, Int.reduceLE, Int.reduceGT, Int.reduceGE, h7, row_F0, row_F1, hr, hr1]
  by_cases h8 : f.op = 8
  · have hl : f.args.length = 2 := by simpa [h8] using hc
    have hr := harg 0 (by omega)
    have hr1 := harg 1 (by omega)
    have hv : (f.args.map (F.val ys)).getD 0 false = F.val ys f.args[0] := by simp [hl]
    have hv1 : (f.args.map (F.val ys)).getD 1 false = F.val ys f.args[1] := by simp [hl]
    simp only [valO, h8, hv, hv1, Int.reduceEq, if_false, if_true, or_true]
    cases hx : F.val ys f.args[0] <;> cases hx1 : F.val ys f.args[1] <;>
    · rw [hx] at hr
      rw [hx1] at hr1
      simp (disch := omega) only [ir50, rowF, stepQ, List.map_cons, List.map_nil, List.cons_append, List.nil_append, List.append_nil, List.length_map, List.getElem?_cons_zero, List.getElem?_cons_succ, eq_self, aBin, aUn, reduceIte, Int.reduceEq, Int.reduceLT, Int.reduceLE, Int.reduceGT, Int.reduceGE, h8, row_F0, row_F1, hr, hr1, ev_binB]
  simp only [ir50, rowF, stepQ, List.map_cons, List.map_nil, List.cons_append, List.nil_append, List.append_nil, List.length_map, List.getElem?_cons_zero, List.getElem?_cons_succ, eq_self, aBin, aUn, reduceIte, Int.reduceEq, Int.reduceLT, Int.reduceLE, Int.reduceGT, Int.reduceGE, h1, h3, h4, h5, h6, h7, h8, valO, or_self, if_false]
theorem eval32_run (ys : List (List UInt8)) (hy : ys.length < 1000000000) (f : F) (hs : f.size < 1000000000) (hnb : F.allF nameB f = true) : run tb 32 (rowF f ++ [strsD ys]) = some [.bool (good f && f.val ys)] := by
  refine run_ir (x := ir32) rfl ?_
  have h3 := kinds_run f hs
  have h4 := names42_run f hs hnb
  simp only [rowF] at h3 h4
  by_cases hg : good f = true
  · have h5 := value50_run ys hy f hs hg
    rw [hg]
    simp only [good, Bool.and_eq_true] at hg
    rw [hg.1] at h3
    rw [hg.2] at h4
    simp only [rowF, List.cons_append, List.nil_append] at h5
    simp only [ir32, rowF, stepQ, List.map_cons, List.map_nil, List.cons_append, List.nil_append, List.append_nil, List.length_map, List.getElem?_cons_zero, List.getElem?_cons_succ, eq_self, aBin, aUn, reduceIte, Int.reduceEq, Int.reduceLT, Int.reduceLE, Int.reduceGT, Int.reduceGE, h3, h4, h5]
  · have hg' : (F.allF counted f && F.allF named f) = false := by simpa [good] using hg
    simp only [good, hg', Bool.false_and]
    cases c : F.allF counted f with
    | false =>
      rw [c] at h3
      simp only [ir32, rowF, stepQ, List.map_cons, List.map_nil, List.cons_append, List.nil_append, List.append_nil, List.length_map, List.getElem?_cons_zero, List.getElem?_cons_succ, eq_self, aBin, aUn, reduceIte, Int.reduceEq, Int.reduceLT, Int.reduceLE, Int.reduceGT, Int.reduceGE, h3]
    | true =>
      rw [c] at h3
      rw [c, Bool.true_and] at hg'
      rw [hg'] at h4
      simp only [ir32, rowF, stepQ, List.map_cons, List.map_nil, List.cons_append, List.nil_append, List.append_nil, List.length_map, List.getElem?_cons_zero, List.getElem?_cons_succ, eq_self, aBin, aUn, reduceIte, Int.reduceEq, Int.reduceLT, Int.reduceLE, Int.reduceGT, Int.reduceGE, h3, h4]
/-! # a formula in which one node is changed -/
theorem text_run (ts : List (List UInt8)) (hts : 0 < ts.length) (hts2 : ts.length < 1000) (l : List Int) (hl : l.length ≤ 2000) (p : Nat) (hp : p ≤ l.length) :
    ∃ (s : List UInt8) (b : Nat), s ∈ ts ∧ b ≤ l.length ∧ run tb 37 [strsD ts, numsD l, .int .i64 p] = some [.str s, numsD l, .int .i64 b] := by
  obtain ⟨r, b, r0, r1, hb, hr⟩ := n_run ts.length l p hl hp (by omega) (by omega)
  obtain ⟨r, rfl⟩ : ∃ m : Nat, r = m := ⟨r.toNat, by omega⟩
  have hlt : r < ts.length := by omega
  refine ⟨ts[r], b, List.getElem_mem hlt, hb, run_ir (x := ir37) rfl ?_⟩
  simp (disch := omega) only [ir37, stepQ, List.map_cons, List.map_nil, List.cons_append, List.nil_append, List.append_nil, List.length_map, List.getElem?_cons_zero, List.getElem?_cons_succ, eq_self, aBin, aUn, reduceIte, Int.reduceEq, Int.reduceLT, Int.reduceLE, Int.reduceGT, Int.reduceGE, len_S, hr, row_S]
theorem spoilt_run (l : List Int) (hl : l.length ≤ 2000) : ∀ (f : F), f.size < 1000000000 → F.allF nameB f = true → ∀ (p : Nat), p ≤ l.length →
    ∃ (f' : F) (b : Nat), b ≤ l.length ∧ Near f f' ∧ run tb 11 (rowF f ++ [numsD l, .int .i64 p]) = some (rowF f' ++ [numsD l, .int .i64 b]) := by
  refine bySizeF fun f ih hs hnb p hp => ?_
  have hla := F.sizes_len f.args
  have hse := F.size_eq f
  rw [F.allF_eq, Bool.and_eq_true] at hnb
  obtain ⟨hnb, hnbs⟩ := hnb
  have hnl : f.name.length < 1000000000 := by simpa [nameB] using hnb
  have hcopy := app_F0 (l := f.args) (by omega)
  -- a change at the root
  have root : ∀ (q : Nat), q ≤ l.length → ∃ (f' : F) (b : Nat), b ≤ l.length ∧ Near f f' ∧ den (run tb) ir11p1 (rowF f ++ [numsD l, .int .i64 p, .sl (F.encs f.args), .bool false, numsD l, .int .i64 q]) [] = some (rowF f' ++ [numsD l, .int .i64 b]) := by
    intro q hq
    obtain ⟨r, b, r0, r1, hb, hr⟩ := n_run 5 l q hl hq (by omega) (by omega)
    by_cases c0 : r = 0
    · obtain ⟨r2, b2, s0, s1, hb2, hr2⟩ := n_run 11 l b hl hb (by omega) (by omega)
      refine ⟨F.mk (r2 - 1) f.name f.args, b2, hb2, near_root (by omega) (by omega) (by omega) (fun x hx => .inl hx), ?_⟩
      simp (disch := omega) only [ir11p1, ir11p0, rowF, stepQ, List.map_cons, List.map_nil, List.cons_append, List.nil_append, List.append_nil, List.length_map, List.getElem?_cons_zero, List.getElem?_cons_succ, eq_self, aBin, aUn, reduceIte, Int.reduceEq, Int.reduceLT, Int.reduceLE, Int.reduceGT, Int.reduceGE, hr, c0, hr2, wr, F.op_mk, F.name_mk, F.args_mk]
    by_cases c1 : r = 1
    · obtain ⟨s, b2, hs2, hb2, hr2⟩ := text_run [[97], [65], [], [95]] (by simp) (by simp) l hl b hb
      have hsl : s.length ≤ 1 := by
        simp only [List.mem_cons, List.not_mem_nil, or_false] at hs2
        rcases hs2 with rfl | rfl | rfl | rfl <;> simp
      have hmk : PO.eval (.mk 1 4) [.str [97], .str [65], .str [], .str [95]] = some [strsD [[97], [65], [], [95]]] := rfl
      have hadd : f.name.length + s.length ≤ 9223372036854775807 := by omega
      refine ⟨F.mk f.op (f.name ++ s) f.args, b2, hb2, near_root (by simp; omega) (by omega) (by omega) (fun x hx => .inl hx), ?_⟩
      simp (disch := omega) only [ir11p1, ir11p0, rowF, stepQ, List.map_cons, List.map_nil, List.cons_append, List.nil_append, List.append_nil, List.length_map, List.getElem?_cons_zero, List.getElem?_cons_succ, eq_self, aBin, aUn, reduceIte, Int.reduceEq, Int.reduceLT, Int.reduceLE, Int.reduceGT, Int.reduceGE, hr, c1, hmk, hr2, hadd, F.op_mk, F.name_mk, F.args_mk]
    by_cases c2 : r = 2
    · obtain ⟨g, b2, hb2, hg, hr2⟩ := formula_run 3 (by omega) (by omega) l hl 1 (by omega) b hb
      simp only [Int.cast_ofNat_Int] at hr2
      refine ⟨F.mk f.op f.name (f.args ++ [g]), b2, hb2, near_root (by omega) ?_ ?_ (fun x hx => ?_), ?_⟩
      · have := hg.2.2.1
        rw [sizes_append]; simp only [F.sizes]; omega
      · refine depths_le_of fun x hx => ?_
        rcases List.mem_append.1 hx with hx | hx
        · have := depths_ge x hx; omega
        · simp only [List.mem_singleton] at hx; subst hx
          have := hg.2.1; omega
      · rcases List.mem_append.1 hx with hx | hx
        · exact .inl hx
        · simp only [List.mem_singleton] at hx; subst hx
          exact .inr (good_lenB hg.1)
      · simp (disch := omega) only [ir11p1, ir11p0, rowF, stepQ, List.map_cons, List.map_nil, List.cons_append, List.nil_append, List.append_nil, List.length_map, List.getElem?_cons_zero, List.getElem?_cons_succ, eq_self, aBin, aUn, reduceIte, Int.reduceEq, Int.reduceLT, Int.reduceLE, Int.reduceGT, Int.reduceGE, hr, c2, hr2, app_F, F.op_mk, F.name_mk, F.args_mk]
    by_cases c3 : r = 3
    · by_cases hz : 0 < f.args.length
      · have hz' : (f.args.length : Int) > 0 := by omega
        refine ⟨F.mk f.op f.name (f.args.drop 1), b, hb, near_root (by omega) ?_ ?_ (fun x hx => .inl (List.mem_of_mem_drop hx)), ?_⟩
        · have := sizes_append (f.args.take 1) (f.args.drop 1)
          rw [List.take_append_drop] at this; omega
        · refine depths_le_of fun x hx => ?_
          have := depths_ge x (List.mem_of_mem_drop hx); omega
        · simp (disch := omega) only [ir11p1, ir11p0, rowF, stepQ, List.map_cons, List.map_nil, List.cons_append, List.nil_append, List.append_nil, List.length_map, List.getElem?_cons_zero, List.getElem?_cons_succ, eq_self, aBin, aUn, reduceIte, Int.reduceEq, Int.reduceLT, Int.reduceLE, Int.reduceGT, Int.reduceGE, ev_lenL, hr, c3, hz', sub_F1, F.op_mk, F.name_mk, F.args_mk]
      · have hz' : ¬ (f.args.length : Int) > 0 := by omega
        refine ⟨F.mk f.op f.name f.args, b, hb, near_root (by omega) (by omega) (by omega) (fun x hx => .inl hx), ?_⟩
        simp (disch := omega) only [ir11p1, ir11p0, rowF, stepQ, List.map_cons, List.map_nil, List.cons_append, List.nil_append, List.append_nil, List.length_map, List.getElem?_cons_zero, List.getElem?_cons_succ, eq_self, aBin, aUn, reduceIte, Int.reduceEq, Int.reduceLT, Int.reduceLE, Int.reduceGT, Int.reduceGE, ev_lenL, hr, c3, hz', F.op_mk, F.name_mk, F.args_mk]
    · refine ⟨F.mk f.op [] f.args, b, hb, near_root (by simp) (by omega) (by omega) (fun x hx => .inl hx), ?_⟩
      simp (disch := omega) only [ir11p1, ir11p0, rowF, stepQ, List.map_cons, List.map_nil, List.cons_append, List.nil_append, List.append_nil, List.length_map, List.getElem?_cons_zero, List.getElem?_cons_succ, eq_self, aBin, aUn, reduceIte, Int.reduceEq, Int.reduceLT, Int.reduceLE, Int.reduceGT, Int.reduceGE, hr, c0, c1, c2, c3, F.op_mk, F.name_mk, F.args_mk]
  simp only [rowF, List.cons_append, List.nil_append] at root
  by_cases hz : 0 < f.args.length
  · have hz' : (f.args.length : Int) > 0 := by omega
    obtain ⟨r, b, r0, r1, hb, hr⟩ := n_run 3 l p hl hp (by omega) (by omega)
    by_cases hr0 : r > 0
    · obtain ⟨i, b2, i0, i1, hb2, hi⟩ := n_run f.args.length l b hl hb (by omega) (by omega)
      obtain ⟨i, rfl⟩ : ∃ m : Nat, i = m := ⟨i.toNat, by omega⟩
      have hlt : i < f.args.length := by omega
      have hm : f.args[i] ∈ f.args := List.getElem_mem hlt
      obtain ⟨g, b3, hb3, hg, hrg⟩ := ih _ hm (by have := mem_size hm; omega) (allFs_mem hnbs _ hm) b2 hb2
      refine ⟨F.mk f.op f.name (f.args.set i g), b3, hb3, near_set hlt hg, run_ir (x := ir11) rfl ?_⟩
      have hset := set_F hlt g
      have hget := get_F hlt
      simp only [rowF, List.cons_append, List.nil_append] at hrg hget
      simp (disch := omega) only [ir11, ir11p1, rowF, stepQ, List.map_cons, List.map_nil, List.cons_append, List.nil_append, List.append_nil, List.length_map, List.getElem?_cons_zero, List.getElem?_cons_succ, eq_self, aBin, aUn, reduceIte, Int.reduceEq, Int.reduceLT, Int.reduceLE, Int.reduceGT, Int.reduceGE, ev_lenL, hcopy, hz', hr, hr0, hi, chk_F, hget, hrg, hset, F.op_mk, F.name_mk, F.args_mk]
    · obtain ⟨f', c, hc, hn, hd⟩ := root b hb
      refine ⟨f', c, hc, hn, run_ir (x := ir11) rfl ?_⟩
      simp (disch := omega) only [ir11, rowF, stepQ, List.map_cons, List.map_nil, List.cons_append, List.nil_append, List.append_nil, List.length_map, List.getElem?_cons_zero, List.getElem?_cons_succ, eq_self, aBin, aUn, reduceIte, Int.reduceEq, Int.reduceLT, Int.reduceLE, Int.reduceGT, Int.reduceGE, ev_lenL, hcopy, hz', hr, hr0, hd]
  · have hz' : ¬ (f.args.length : Int) > 0 := by omega
    obtain ⟨f', c, hc, hn, hd⟩ := root p hp
    refine ⟨f', c, hc, hn, run_ir (x := ir11) rfl ?_⟩
    simp (disch := omega) only [ir11, rowF, stepQ, List.map_cons, List.map_nil, List.cons_append, List.nil_append, List.append_nil, List.length_map, List.getElem?_cons_zero, List.getElem?_cons_succ, eq_self, aBin, aUn, reduceIte, Int.reduceEq, Int.reduceLT, Int.reduceLE, Int.reduceGT, Int.reduceGE, ev_lenL, hcopy, hz', hd]
end Go.Proofs.YtgmnlkjoiakoaaaDoor
