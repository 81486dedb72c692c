/- Plain programs of the functions of the program and lemmas about what they compute. -/
import Derived.Test.YtgmnlkjoiakoaaaDoorPl2
set_option linter.unusedSimpArgs false
set_option linter.unusedVariables false
set_option linter.unusedSectionVars false
namespace Go.Proofs.YtgmnlkjoiakoaaaDoor
open Go Am
set_option maxRecDepth 100000
set_option linter.unusedSimpArgs false
set_option linter.unusedVariables false

/-! # the law of the readings -/
variable {R : Nat → PF} {e : Env} {J : List PF}

theorem eval_1 (ys : List (List UInt8)) (hy : ys.length < 1000) (f : F) (hs : f.size < 1000000) (hg : good f = true) : run tb 26 [.int .i64 4, .str [], .sl [rowF f], strsD ys] = some [.bool (!f.val ys)] := by
  have h := eval_run ys (by omega) (F.mk 4 [] [f]) (by simp only [F.size, F.sizes]; omega) (good_mk (.inl ⟨rfl, rfl⟩) (by simp [hg]))
  simpa [F.enc, encs_1, F.val_eq, valO, F.op, F.args, F.name] using h
theorem eval_2 (ys : List (List UInt8)) (hy : ys.length < 1000) (o : Int) (ho : (o = 5 ∨ o = 6) ∨ o = 7 ∨ o = 8) (f g : F) (hs : f.size < 1000000) (hs' : g.size < 1000000) (hg : good f = true) (hg' : good g = true) :
    run tb 26 [.int .i64 o, .str [], .sl [rowF f, rowF g], strsD ys] = some [.bool (if o = 5 then f.val ys && g.val ys else if o = 6 then f.val ys || g.val ys else if o = 7 then !f.val ys || g.val ys else f.val ys == g.val ys)] := by
  have h := eval_run ys (by omega) (F.mk o [] [f, g]) (by simp only [F.size, F.sizes]; omega) (good_mk (by rcases ho with ho | ho <;> simp [ho]) (by simp [hg, hg']))
  rw [show (F.mk o [] [f, g]).enc ++ [strsD ys] = [.int .i64 o, .str [], .sl [rowF f, rowF g], strsD ys] by simp [F.enc, encs_2]] at h
  rw [h, F.val_eq]
  simp only [valO, F.op, F.args, List.map_cons, List.map_nil]
  rcases ho with (rfl | rfl) | rfl | rfl <;> cases f.val ys <;> cases g.val ys <;> rfl
theorem node_1 (o : Int) (f : F) : run tb 24 [.int .i64 o, .sl [rowF f]] = some [.int .i64 o, .str [], .sl [rowF f]] := by
  have := node_run o [f]
  simpa [F.enc, encs_1] using this
theorem node_2 (o : Int) (f g : F) : run tb 24 [.int .i64 o, .sl [rowF f, rowF g]] = some [.int .i64 o, .str [], .sl [rowF f, rowF g]] := by
  have := node_run o [f, g]
  simpa [F.enc, encs_2] using this
theorem laws_run (l0 : List Int) (aw : run tb 20 [] = some [.bool true]) : run tb 4 [numsD l0] = some [.bool true] := by
  obtain ⟨l, hl, hn⟩ := new_run l0
  obtain ⟨f, p, hp, hf, hrf⟩ := formula_run 4 (by omega) (by omega) l hl 3 (by omega) 0 (by omega)
  obtain ⟨g, q, hq, hg, hrg⟩ := formula_run 4 (by omega) (by omega) l hl 3 (by omega) p hp
  have sf : f.size < 1000 := by have := hf.2.2.1; omega
  have sg : g.size < 1000 := by have := hg.2.2.1; omega
  obtain ⟨hf, -⟩ := hf
  obtain ⟨hg, -⟩ := hg
  have nf : good (F.mk 4 [] [f]) = true := good_mk (.inl ⟨rfl, rfl⟩) (by simp [hf])
  have ng : good (F.mk 4 [] [g]) = true := good_mk (.inl ⟨rfl, rfl⟩) (by simp [hg])
  have ag : good (F.mk 5 [] [f, g]) = true := good_mk (.inr (.inl ⟨.inl rfl, by simp, by simp⟩)) (by simp [hf, hg])
  have key := loop_kx (run := run tb) (body := ir4p2) (e := [numsD l0, numsD l, .int .i64 0] ++ rowF f ++ [numsD l, .int .i64 p] ++ rowF g ++ [numsD l, .int .i64 q, .sl [rowF f], .int .i64 4, .str [], .sl [rowF f]]) (J := []) (σ := Nat) 4
    (fun i s => s ≤ l.length) (fun i s => [.int .i64 i, numsD l, .int .i64 s]) (fun r => r = [.bool true])
    (by
      intro i s L hi hs hL
      obtain ⟨ys, b, hy, hb, hr⟩ := yes_run l s hl hs
      have e1 := eval_run ys (by omega) f (by omega) hf
      have e2 := eval_run ys (by omega) g (by omega) hg
      rw [F.enc_eq] at e1 e2
      simp only [List.cons_append, List.nil_append] at e1 e2
      have e3 := eval_1 ys (by omega) f (by omega) hf
      have e4 := eval_1 ys (by omega) (F.mk 4 [] [f]) (by simp only [F.size, F.sizes]; omega) nf
      have e5 := eval_2 ys (by omega) 5 (by simp) f g (by omega) (by omega) hf hg
      have e6 := eval_2 ys (by omega) 6 (by simp) f g (by omega) (by omega) hf hg
      have e7 := eval_2 ys (by omega) 7 (by simp) f g (by omega) (by omega) hf hg
      have e8 := eval_2 ys (by omega) 8 (by simp) f g (by omega) (by omega) hf hg
      have e9 := eval_2 ys (by omega) 6 (by simp) (F.mk 4 [] [f]) g (by simp only [F.size, F.sizes]; omega) (by omega) nf hg
      have e10 := eval_1 ys (by omega) (F.mk 5 [] [f, g]) (by simp only [F.size, F.sizes]; omega) ag
      have e11 := eval_2 ys (by omega) 6 (by simp) (F.mk 4 [] [f]) (F.mk 4 [] [g]) (by simp only [F.size, F.sizes]; omega) (by simp only [F.size, F.sizes]; omega) nf ng
      have n1 := node_1 4 f
      have n2 := node_1 4 (F.mk 4 [] [f])
      have n3 := fun o => node_2 o f g
      have n4 := node_2 6 (F.mk 4 [] [f]) g
      have n5 := node_1 4 (F.mk 5 [] [f, g])
      have n6 := node_1 4 g
      have n7 := node_2 6 (F.mk 4 [] [f]) (F.mk 4 [] [g])
      have v1 : F.val ys (F.mk 4 [] [f]) = !f.val ys := by rw [F.val_eq]; simp [valO, F.op, F.args]
      have v2 : F.val ys (F.mk 4 [] [g]) = !g.val ys := by rw [F.val_eq]; simp [valO, F.op, F.args]
      have v3 : F.val ys (F.mk 5 [] [f, g]) = (f.val ys && g.val ys) := by rw [F.val_eq]; simp [valO, F.op, F.args]
      simp only [rowF, F.op_mk, F.name_mk, F.args_mk, encs_1, encs_2, v1, v2, v3] at e3 e4 e5 e6 e7 e8 e9 e10 e11 n1 n2 n3 n4 n5 n6 n7
      have hx := hL b hb
      revert e1 e2 e3 e4 e5 e6 e7 e8 e9 e10 e11
      cases f.val ys <;> cases g.val ys <;>
      · intro e1 e2 e3 e4 e5 e6 e7 e8 e9 e10 e11
        simp (disch := omega) only [ir4p2, ir4p1, ir4p0, stepQ, List.map_cons, List.map_nil, List.cons_append, List.nil_append, List.append_nil, List.length_map, List.getElem?_cons_zero, List.getElem?_cons_succ, eq_self, aBin, aUn, reduceIte, Int.reduceEq, Int.reduceLT, Int.reduceLE, Int.reduceGT, Int.reduceGE, hr, hi, show ((i : Int) < 4) = (i < 4) by simp; omega, e1, e2, e3, e4, e5, e6, e7, e8, e9, e10, e11, n1, n2, n3, n4, n5, n6, n7, rowF, ev_mk32, ev_binB, wr, natS]
        exact hx)
    (by
      intro s L hs
      refine ⟨_, ?_, rfl⟩
      simp (disch := omega) only [ir4p2, stepQ, List.map_cons, List.map_nil, List.cons_append, List.nil_append, List.append_nil, List.length_map, List.getElem?_cons_zero, List.getElem?_cons_succ, eq_self, aBin, aUn, reduceIte, Int.reduceEq, Int.reduceLT, Int.reduceLE, Int.reduceGT, Int.reduceGE, aw])
  obtain ⟨r, hr, rfl⟩ := key 0 q (by omega) hq
  have n1 := node_1 4 f
  simp only [rowF, Int.cast_ofNat_Int, nat0, List.cons_append, List.nil_append] at hrf hrg hr n1
  refine run_ir (x := ir4) rfl ?_
  simp only [ir4, stepQ, List.map_cons, List.map_nil, List.cons_append, List.nil_append, List.append_nil, List.length_map, List.getElem?_cons_zero, List.getElem?_cons_succ, eq_self, aBin, aUn, reduceIte, Int.reduceEq, Int.reduceLT, Int.reduceLE, Int.reduceGT, Int.reduceGE, hn, hrf, hrg, n1, hr]
end Go.Proofs.YtgmnlkjoiakoaaaDoor

namespace Go.Proofs.YtgmnlkjoiakoaaaDoor
open Go Am
set_option maxRecDepth 100000
set_option linter.unusedSimpArgs false
set_option linter.unusedVariables false

/-! # substitution -/
theorem atom_run (f : F) : run tb 73 (rowF f) = some [.bool (decide (f.op = 3) && decide (f.args.length = 0))] := by
  refine run_ir (x := ir73) rfl ?_
  by_cases h : f.op = 3
  · simp only [ir73, rowF, stepQ, List.map_cons, List.map_nil, List.cons_append, List.nil_append, List.append_nil, List.length_map, List.getElem?_cons_zero, List.getElem?_cons_succ, eq_self, aBin, aUn, reduceIte, Int.reduceEq, Int.reduceLT, Int.reduceLE, Int.reduceGT, Int.reduceGE, h]
  · simp only [ir73, rowF, stepQ, List.map_cons, List.map_nil, List.cons_append, List.nil_append, List.append_nil, List.length_map, List.getElem?_cons_zero, List.getElem?_cons_succ, eq_self, aBin, aUn, reduceIte, Int.reduceEq, Int.reduceLT, Int.reduceLE, Int.reduceGT, Int.reduceGE, h]
/-- a copy of a formula is the formula -/
theorem copy_run : ∀ (f : F), f.size < 4611686018427387904 → (∀ g ∈ f.args, g.args.length < 1000000000000) → f.args.length < 1000000000000 → F.allF (fun g => decide (g.args.length < 1000000000000)) f = true → run tb 74 (rowF f) = some (rowF f) := by
  refine bySizeF fun f ih hs _ hl hall => ?_
  rw [F.allF_eq, Bool.and_eq_true, allFs_all, List.all_eq_true] at hall
  refine run_ir (x := ir74) rfl ?_
  have h80 : run tb 77 (rowF f) = some [.int .i64 0, .str [], .sl [], .bool false] := by
    refine run_ir (x := ir77) rfl ?_
    simp only [ir77, stepQ, List.map_cons, List.map_nil, List.cons_append, List.nil_append, List.append_nil, List.length_map, List.getElem?_cons_zero, List.getElem?_cons_succ, eq_self, aBin, aUn, reduceIte, Int.reduceEq, Int.reduceLT, Int.reduceLE, Int.reduceGT, Int.reduceGE]
  have key := loop_k (run := run tb) (body := ir74p0) (e := rowF f ++ [.int .i64 0, .str [], .sl [], .bool false, .int .i64 f.args.length]) (J := []) (σ := Unit) f.args.length
    (fun _ _ => True) (fun i _ => [.int .i64 i, .sl (F.encs (f.args.take i))]) (fun _ _ => rowF f)
    (by
      intro i s L hi _ hL
      have hm : f.args[i] ∈ f.args := List.getElem_mem hi
      have h1 := mem_size hm
      have hr := ih _ hm (by omega) (fun g hg => by
        have := hall.2 _ hm
        rw [F.allF_eq, Bool.and_eq_true, allFs_all, List.all_eq_true] at this
        have := this.2 g hg
        rw [F.allF_eq, Bool.and_eq_true] at this
        simpa using this.1) (by
        have := hall.2 _ hm
        rw [F.allF_eq, Bool.and_eq_true] at this
        simpa using this.1) (hall.2 _ hm)
      have ht : (f.args.take i).length < 1000000000000 := by simp; omega
      simp only [rowF] at hr
      simp (disch := omega) only [ir74p0, rowF, stepQ, List.map_cons, List.map_nil, List.cons_append, List.nil_append, List.append_nil, List.length_map, List.getElem?_cons_zero, List.getElem?_cons_succ, eq_self, aBin, aUn, reduceIte, Int.reduceEq, Int.reduceLT, Int.reduceLE, Int.reduceGT, Int.reduceGE, nat_lt, hi, row_F, hr, app_F, take_snoc, wr, natS]
      exact hL () trivial)
    (by
      intro s L _
      simp (disch := omega) only [ir74p0, rowF, stepQ, List.map_cons, List.map_nil, List.cons_append, List.nil_append, List.append_nil, List.length_map, List.getElem?_cons_zero, List.getElem?_cons_succ, eq_self, aBin, aUn, reduceIte, Int.reduceEq, Int.reduceLT, Int.reduceLE, Int.reduceGT, Int.reduceGE, nat_lt, Nat.lt_irrefl, take_all])
  have hk := key 0 () (by omega) trivial
  simp only [rowF, nat0, List.take_zero, F.encs, List.cons_append, List.nil_append] at hk h80
  simp only [ir74, rowF, stepQ, List.map_cons, List.map_nil, List.cons_append, List.nil_append, List.append_nil, List.length_map, List.getElem?_cons_zero, List.getElem?_cons_succ, eq_self, aBin, aUn, reduceIte, Int.reduceEq, Int.reduceLT, Int.reduceLE, Int.reduceGT, Int.reduceGE, h80, len_F, hk]
/-- all nodes have few arguments -/
def fewB (g : F) : Bool := decide (g.args.length < 1000000000000)
theorem copy_run' (f : F) (hs : f.size < 1000000000000) : run tb 74 (rowF f) = some (rowF f) := by
  have key : ∀ f : F, f.size < 1000000000000 → F.allF (fun g => decide (g.args.length < 1000000000000)) f = true := by
    refine bySizeF fun f ih hs => ?_
    rw [F.allF_eq, Bool.and_eq_true, allFs_all, List.all_eq_true]
    have := F.sizes_len f.args
    have h2 := F.size_eq f
    refine ⟨by simp; omega, fun g hg => ih g hg (by have := mem_size hg; omega)⟩
  have hl : ∀ f : F, f.size < 1000000000000 → f.args.length < 1000000000000 := fun f hs => by
    have := F.sizes_len f.args
    have h2 := F.size_eq f
    omega
  exact copy_run f (by omega) (fun g hg => hl g (by have := mem_size hg; omega)) (hl f hs) (key f hs)
theorem by_run (p : List UInt8) (g : F) (hg : g.size < 1000000000000) (f : F) : run tb 64 (rowF f ++ [.str p] ++ rowF g) =
    some ((if f.op = 3 ∧ f.args.length = 0 ∧ f.name = p then rowF g ++ [.bool true] else [.int .i64 0, .str [], .sl [], .bool false]) ++ [.str p] ++ rowF g) := by
  refine run_ir (x := ir64) rfl ?_
  have h1 := atom_run f
  have h2 := copy_run' g hg
  simp only [rowF] at h1 h2
  by_cases h3 : f.op = 3
  · by_cases h4 : f.args.length = 0
    · simp only [h3, h4, decide_true, Bool.true_and] at h1
      by_cases h5 : f.name = p
      · subst h5
        simp only [ir64, ir64p0, rowF, stepQ, List.map_cons, List.map_nil, List.cons_append, List.nil_append, List.append_nil, List.length_map, List.getElem?_cons_zero, List.getElem?_cons_succ, eq_self, aBin, aUn, reduceIte, Int.reduceEq, Int.reduceLT, Int.reduceLE, Int.reduceGT, Int.reduceGE, h1, h2, h3, h4, beq_self_eq_true, true_and, and_true]
      · have h5' : (f.name == p) = false := by simpa using h5
        simp only [ir64, ir64p0, rowF, stepQ, List.map_cons, List.map_nil, List.cons_append, List.nil_append, List.append_nil, List.length_map, List.getElem?_cons_zero, List.getElem?_cons_succ, eq_self, aBin, aUn, reduceIte, Int.reduceEq, Int.reduceLT, Int.reduceLE, Int.reduceGT, Int.reduceGE, h1, h2, h3, h4, h5, h5', and_false, false_and]
    · simp only [h3, h4, decide_true, decide_false, Bool.true_and] at h1
      simp only [ir64, ir64p0, rowF, stepQ, List.map_cons, List.map_nil, List.cons_append, List.nil_append, List.append_nil, List.length_map, List.getElem?_cons_zero, List.getElem?_cons_succ, eq_self, aBin, aUn, reduceIte, Int.reduceEq, Int.reduceLT, Int.reduceLE, Int.reduceGT, Int.reduceGE, h1, h2, h3, h4, and_false, false_and]
  · simp only [h3, decide_false, Bool.false_and] at h1
    simp only [ir64, ir64p0, rowF, stepQ, List.map_cons, List.map_nil, List.cons_append, List.nil_append, List.append_nil, List.length_map, List.getElem?_cons_zero, List.getElem?_cons_succ, eq_self, aBin, aUn, reduceIte, Int.reduceEq, Int.reduceLT, Int.reduceLE, Int.reduceGT, Int.reduceGE, h1, h2, h3, and_false, false_and]
theorem replace_run (p : List UInt8) (g : F) (hg : g.size < 1000000000000) : ∀ (f : F), f.size < 1000000000000 → run tb 48 (rowF f ++ [.str p] ++ rowF g) = some (rowF (F.subst p g f) ++ [.str p] ++ rowF g) := by
  refine bySizeF fun f ih hs => ?_
  refine run_ir (x := ir48) rfl ?_
  have hby := by_run p g hg f
  rw [F.subst_eq]
  by_cases h : f.op = 3 ∧ f.args.length = 0 ∧ f.name = p
  · rw [if_pos h] at hby ⊢
    simp only [rowF, List.cons_append, List.nil_append] at hby ⊢
    simp only [ir48, stepQ, List.map_cons, List.map_nil, List.cons_append, List.nil_append, List.append_nil, List.length_map, List.getElem?_cons_zero, List.getElem?_cons_succ, eq_self, aBin, aUn, reduceIte, Int.reduceEq, Int.reduceLT, Int.reduceLE, Int.reduceGT, Int.reduceGE, hby]
  · rw [if_neg h] at hby ⊢
    have hla := F.sizes_len f.args
    have h2 := F.size_eq f
    have key := loop_k (run := run tb) (body := ir48p0) (e := rowF f ++ [.str p] ++ rowF g ++ [.int .i64 0, .str [], .sl [], .bool false, .str p] ++ rowF g ++ [.int .i64 f.args.length]) (J := []) (σ := Unit) f.args.length
      (fun _ _ => True) (fun i _ => [.int .i64 i, .str p, .int .i64 g.op, .str g.name, .sl (F.encs g.args), .sl (F.encs ((f.args.map (F.subst p g)).take i))]) (fun _ _ => rowF (F.mk f.op f.name (f.args.map (F.subst p g))) ++ [.str p] ++ rowF g)
      (by
        intro i s L hi _ hL
        have hm : f.args[i] ∈ f.args := List.getElem_mem hi
        have h1 := mem_size hm
        have hr := ih _ hm (by omega)
        have hi' : i < (f.args.map (F.subst p g)).length := by simpa using hi
        have ht : ((f.args.map (F.subst p g)).take i).length < 1000000000000 := by simp; omega
        have hg : F.subst p g f.args[i] = (f.args.map (F.subst p g))[i] := by simp
        rw [hg] at hr
        simp only [rowF, List.cons_append, List.nil_append] at hr
        simp (disch := omega) only [ir48p0, rowF, stepQ, List.map_cons, List.map_nil, List.cons_append, List.nil_append, List.append_nil, List.length_map, List.getElem?_cons_zero, List.getElem?_cons_succ, eq_self, aBin, aUn, reduceIte, Int.reduceEq, Int.reduceLT, Int.reduceLE, Int.reduceGT, Int.reduceGE, nat_lt, hi, row_F, hr, app_F, take_snoc, wr, natS]
        exact hL () trivial)
      (by
        intro s L _
        have : (f.args.map (F.subst p g)).take f.args.length = f.args.map (F.subst p g) := List.take_of_length_le (by simp)
        simp (disch := omega) only [ir48p0, rowF, stepQ, List.map_cons, List.map_nil, List.cons_append, List.nil_append, List.append_nil, List.length_map, List.getElem?_cons_zero, List.getElem?_cons_succ, eq_self, aBin, aUn, reduceIte, Int.reduceEq, Int.reduceLT, Int.reduceLE, Int.reduceGT, Int.reduceGE, nat_lt, Nat.lt_irrefl, this, F.op_mk, F.name_mk, F.args_mk])
    have hk := key 0 () (by omega) trivial
    simp only [rowF, nat0, List.take_zero, F.encs, List.cons_append, List.nil_append, F.op_mk, F.name_mk, F.args_mk] at hk hby ⊢
    simp only [ir48, stepQ, List.map_cons, List.map_nil, List.cons_append, List.nil_append, List.append_nil, List.length_map, List.getElem?_cons_zero, List.getElem?_cons_succ, eq_self, aBin, aUn, reduceIte, Int.reduceEq, Int.reduceLT, Int.reduceLE, Int.reduceGT, Int.reduceGE, hby, len_F, hk]
theorem subst_run (p : List UInt8) (f g : F) (hf : f.size < 1000000000000) (hg : g.size < 1000000000000) : run tb 28 (rowF f ++ [.str p] ++ rowF g) = some (rowF (F.subst p g f)) := by
  refine run_ir (x := ir28) rfl ?_
  have h := replace_run p g hg f hf
  simp only [rowF, List.cons_append, List.nil_append] at h ⊢
  simp only [ir28, stepQ, List.map_cons, List.map_nil, List.cons_append, List.nil_append, List.append_nil, List.length_map, List.getElem?_cons_zero, List.getElem?_cons_succ, eq_self, aBin, aUn, reduceIte, Int.reduceEq, Int.reduceLT, Int.reduceLE, Int.reduceGT, Int.reduceGE, h]
end Go.Proofs.YtgmnlkjoiakoaaaDoor
