/- Plain programs of the functions of the program and lemmas about what they compute. -/
import Derived.Test.YtgmnlkjoiakoaaaDoorPl1
set_option linter.unusedSimpArgs false
set_option linter.unusedVariables false
set_option linter.unusedSectionVars false
namespace Go.Proofs.YtgmnlkjoiakoaaaDoor
open Go Am
set_option maxRecDepth 100000
set_option linter.unusedSimpArgs false
set_option linter.unusedVariables false

theorem any74_run (ys : List (List UInt8)) (a : List F) (hl : a.length < 4611686018427387904) (h : ∀ g ∈ a, run tb 61 (g.enc ++ [strsD ys]) = some [.bool (g.val ys), strsD ys]) :
    run tb 71 [.sl (F.encs a), strsD ys] = some [.int .i64 (anyOf (F.val ys) 0 a), strsD ys] := by
  refine run_ir (x := ir71) rfl ?_
  have hlen : (F.encs a).length = a.length := F.encs_len a
  have key := loop_run (run := run tb) (body := ir71p0) (e := [.sl (F.encs a), strsD ys, .int .i64 a.length]) (J := [])
    (fun i : Nat => a.length - i) (fun i => i ≤ a.length) (fun i => [.int .i64 i, strsD ys]) (fun i => [.int .i64 (anyOf (F.val ys) i (a.drop i)), strsD ys]) (by
    intro i L hp hL
    by_cases hi : i < a.length
    · have hlt : (i : Int) < a.length := by omega
      have hg := h a[i] (List.getElem_mem hi)
      rw [F.enc_eq] at hg
      simp only [List.cons_append, List.nil_append] at hg
      have hrow : PO.eval (.row 3) [.sl (F.encs a), .int .i64 i] = some [.int .i64 a[i].op, .str a[i].name, .sl (F.encs a[i].args)] := ev_row (by omega) (by simpa [F.enc_eq] using F.encs_get a i hi) rfl
      have hw : IntKind.i64.wrap ((i : Int) + 1) = ((i + 1 : Nat) : Int) := by rw [wr (by omega) (by omega)]; omega
      have hnext := hL (i + 1) (by omega) (by omega)
      have hd : a.drop i = a[i] :: a.drop (i + 1) := List.drop_eq_getElem_cons hi
      rw [hd]
      simp only [anyOf]
      simp only [ir71p0, den_op, den_ite, den_letj, den_jump, den_ret, den_call, opD_some, iteD_b, jumpD_some, val_c, val_v, List.map_cons, List.map_nil, getD_0, getD_s, List.cons_append, List.nil_append, List.append_assoc, ev_binI, aBin, one1_s, hlt, decide_true, reduceIte, if_true, hrow, List.getElem?_cons_zero, hw, hnext, hg, callD_2]
      by_cases hv : F.val ys a[i] = true <;> simp [hv]
    · have hd : a.drop i = [] := List.drop_eq_nil_of_le (by omega)
      have hlt : ¬ (i : Int) < a.length := by omega
      simp [ir71p0, den_op, den_ite, den_letj, den_jump, den_ret, opD_some, iteD_b, val_c, val_v, ev_binI, aBin, one1_s, hlt, hd, anyOf])
  have hk := key 0 (by omega)
  simp only [ir71, den_op, den_loop, opD_some, val_c, val_v, List.map_cons, List.map_nil, getD_0, getD_s, List.cons_append, List.nil_append, ev_lenL, hlen]
  exact hk
theorem not75_run (ys : List (List UInt8)) (a : List F) (hl : a.length < 4611686018427387904) (h : ∀ g ∈ a, run tb 61 (g.enc ++ [strsD ys]) = some [.bool (g.val ys), strsD ys]) :
    run tb 72 [.sl (F.encs a), strsD ys] = some [.int .i64 (anyOf (fun g => !F.val ys g) 0 a), strsD ys] := by
  have h79 : ∀ g ∈ a, run tb 76 (g.enc ++ [strsD ys]) = some [.bool (!g.val ys), strsD ys] := by
    intro g hg
    have hh := h g hg
    rw [F.enc_eq] at hh ⊢
    simp only [List.cons_append, List.nil_append] at hh ⊢
    refine run_ir (x := ir76) rfl ?_
    simp only [ir76, den_op, den_call, den_ret, opD_some, val_c, val_v, List.map_cons, List.map_nil, getD_0, getD_s, List.cons_append, List.nil_append, hh, callD_2, ev_un, aUn, one1_s]
  refine run_ir (x := ir72) rfl ?_
  have hlen : (F.encs a).length = a.length := F.encs_len a
  have key := loop_run (run := run tb) (body := ir72p0) (e := [.sl (F.encs a), strsD ys, .int .i64 a.length]) (J := [])
    (fun i : Nat => a.length - i) (fun i => i ≤ a.length) (fun i => [.int .i64 i, strsD ys]) (fun i => [.int .i64 (anyOf (fun g => !F.val ys g) i (a.drop i)), strsD ys]) (by
    intro i L hp hL
    by_cases hi : i < a.length
    · have hlt : (i : Int) < a.length := by omega
      have hg := h79 a[i] (List.getElem_mem hi)
      rw [F.enc_eq] at hg
      simp only [List.cons_append, List.nil_append] at hg
      have hrow : PO.eval (.row 3) [.sl (F.encs a), .int .i64 i] = some [.int .i64 a[i].op, .str a[i].name, .sl (F.encs a[i].args)] := ev_row (by omega) (by simpa [F.enc_eq] using F.encs_get a i hi) rfl
      have hw : IntKind.i64.wrap ((i : Int) + 1) = ((i + 1 : Nat) : Int) := by rw [wr (by omega) (by omega)]; omega
      have hnext := hL (i + 1) (by omega) (by omega)
      have hd : a.drop i = a[i] :: a.drop (i + 1) := List.drop_eq_getElem_cons hi
      rw [hd]
      simp only [anyOf]
      simp only [ir72p0, den_op, den_ite, den_letj, den_jump, den_ret, den_call, opD_some, iteD_b, jumpD_some, val_c, val_v, List.map_cons, List.map_nil, getD_0, getD_s, List.cons_append, List.nil_append, List.append_assoc, ev_binI, aBin, one1_s, hlt, decide_true, reduceIte, if_true, hrow, List.getElem?_cons_zero, hw, hnext, hg, callD_2]
      by_cases hv : F.val ys a[i] = true <;> simp [hv]
    · have hd : a.drop i = [] := List.drop_eq_nil_of_le (by omega)
      have hlt : ¬ (i : Int) < a.length := by omega
      simp [ir72p0, den_op, den_ite, den_letj, den_jump, den_ret, opD_some, iteD_b, val_c, val_v, ev_binI, aBin, one1_s, hlt, hd, anyOf])
  have hk := key 0 (by omega)
  simp only [ir72, den_op, den_loop, opD_some, val_c, val_v, List.map_cons, List.map_nil, getD_0, getD_s, List.cons_append, List.nil_append, ev_lenL, hlen]
  exact hk
end Go.Proofs.YtgmnlkjoiakoaaaDoor

namespace Go.Proofs.YtgmnlkjoiakoaaaDoor
open Go Am
set_option maxRecDepth 100000
set_option linter.unusedSimpArgs false
set_option linter.unusedVariables false
theorem value_run (ys : List (List UInt8)) (hy : ys.length < 4611686018427387904) (n : Nat) (hn : n < 4611686018427387904) : ∀ f : F, f.size ≤ n → F.allF counted f = true → run tb 46 (f.enc ++ [strsD ys]) = some [.bool (f.val ys)] := by
  induction n with
  | zero => intro f hf; have := F.size_pos f; omega
  | succ n ih =>
    intro f hf hc
    rw [F.allF_eq, Bool.and_eq_true] at hc
    obtain ⟨hc1, hc2⟩ := hc
    have hlen : f.args.length < 4611686018427387904 := by
      have h1 := F.sizes_len f.args
      have h2 := F.size_eq f
      omega
    have h64 : ∀ g ∈ f.args, run tb 61 (g.enc ++ [strsD ys]) = some [.bool (g.val ys), strsD ys] := by
      intro g hg
      have hh := ih (by omega) g (by have := mem_size hg; omega) (allFs_mem hc2 g hg)
      rw [F.enc_eq] at hh ⊢
      simp only [List.cons_append, List.nil_append] at hh ⊢
      refine run_ir (x := ir61) rfl ?_
      simp only [ir61, den_op, den_call, den_ret, opD_some, val_c, val_v, List.map_cons, List.map_nil, getD_0, getD_s, List.cons_append, List.nil_append, hh, callD_1]
    have h74 := any74_run ys f.args hlen h64
    have h75 := not75_run ys f.args hlen h64
    have hcon := contains_run ys f.name hy
    have hrow : ∀ i, (hi : i < f.args.length) → PO.eval (.row 3) [.sl (F.encs f.args), .int .i64 i] = some [.int .i64 f.args[i].op, .str f.args[i].name, .sl (F.encs f.args[i].args)] :=
      fun i hi => ev_row (by omega) (by simpa [F.enc_eq] using F.encs_get f.args i hi) rfl
    have h65 : run tb 62 [.sl (F.encs f.args), strsD ys] = some [.bool (f.args.any (F.val ys)), strsD ys] := by
      refine run_ir (x := ir62) rfl ?_
      simp only [ir62, den_op, den_call, den_ret, opD_some, val_c, val_v, List.map_cons, List.map_nil, getD_0, getD_s, List.cons_append, List.nil_append, h74, callD_2, ev_binI, aBin, one1_s, reduceIte, if_true]
      rw [← anyOf_ge (F.val ys) f.args 0]
    have h66 : run tb 63 [.sl (F.encs f.args), strsD ys] = some [.bool (f.args.any (fun g => !F.val ys g)), strsD ys] := by
      refine run_ir (x := ir63) rfl ?_
      simp only [ir63, den_op, den_call, den_ret, opD_some, val_c, val_v, List.map_cons, List.map_nil, getD_0, getD_s, List.cons_append, List.nil_append, h75, callD_2, ev_binI, aBin, one1_s, reduceIte, if_true]
      rw [← anyOf_ge (fun g => !F.val ys g) f.args 0]
    have g64 : ∀ i, (hi : i < f.args.length) → run tb 61 [.int .i64 f.args[i].op, .str f.args[i].name, .sl (F.encs f.args[i].args), strsD ys] = some [.bool (f.args[i].val ys), strsD ys] := by
      intro i hi
      have := h64 f.args[i] (List.getElem_mem hi)
      rw [F.enc_eq] at this
      exact this
    rw [F.val_eq, F.enc_eq]
    simp only [List.cons_append, List.nil_append]
    refine run_ir (x := ir46) rfl ?_
    simp only [ir46, ir46p0, den_op, den_call, den_ite, den_letj, den_jump, den_ret, opD_some, iteD_b, jumpD_some, val_c, val_v, List.map_cons, List.map_nil, getD_0, getD_s, List.cons_append, List.nil_append, List.append_assoc, ev_binI, aBin, one1_s, reduceIte, if_true, hcon, h65, h66, callD_1, callD_2, ev_un, aUn, List.getElem?_cons_zero]
    unfold counted at hc1
    by_cases h1 : f.op = 1
    · simp [h1, valO]
    by_cases h3 : f.op = 3
    · simp [h3, valO]
    by_cases h4 : f.op = 4
    · have hl : f.args.length = 1 := by simp [h4] at hc1; omega
      have r0 : PO.eval (.row 3) [.sl (F.encs f.args), .int .i64 0] = some [.int .i64 f.args[0].op, .str f.args[0].name, .sl (F.encs f.args[0].args)] := hrow 0 (by omega)
      have g0 := g64 0 (by omega)
      have hv : (f.args.map (F.val ys)).getD 0 false = F.val ys f.args[0] := by simp [hl]
      simp only [h4, valO, hv, r0, g0, opD_some, callD_2, getD_0, getD_s, List.cons_append, List.nil_append, one1_s]
      simp
    by_cases h6 : f.op = 6
    · simp [h6, valO]
    by_cases h5 : f.op = 5
    · simp [h5, valO, List.all_eq_not_any_not]
      rfl
    by_cases h78 : f.op = 7 ∨ f.op = 8
    · have hl : f.args.length = 2 := by rcases h78 with h | h <;> simp [h] at hc1 <;> omega
      have r0 : PO.eval (.row 3) [.sl (F.encs f.args), .int .i64 0] = some [.int .i64 f.args[0].op, .str f.args[0].name, .sl (F.encs f.args[0].args)] := hrow 0 (by omega)
      have g0 := g64 0 (by omega)
      have r1 : PO.eval (.row 3) [.sl (F.encs f.args), .int .i64 1] = some [.int .i64 f.args[1].op, .str f.args[1].name, .sl (F.encs f.args[1].args)] := hrow 1 (by omega)
      have g1 := g64 1 (by omega)
      have hv : (f.args.map (F.val ys)).getD 0 false = F.val ys f.args[0] := by simp [hl]
      have hv1 : (f.args.map (F.val ys)).getD 1 false = F.val ys f.args[1] := by simp [hl]
      rcases h78 with h | h
      · simp only [h, valO, hv, hv1, r0, g0, r1, g1, opD_some, callD_2, getD_0, getD_s, List.cons_append, List.nil_append, one1_s, ev_binB, aBin, iteD_b]
        cases F.val ys f.args[0] <;> cases F.val ys f.args[1] <;> simp
      · simp only [h, valO, hv, hv1, r0, g0, r1, g1, opD_some, callD_2, getD_0, getD_s, List.cons_append, List.nil_append, one1_s, ev_binB, aBin, iteD_b]
        cases F.val ys f.args[0] <;> cases F.val ys f.args[1] <;> simp
    · have h7 : ¬ f.op = 7 := fun h => h78 (.inl h)
      have h8 : ¬ f.op = 8 := fun h => h78 (.inr h)
      simp [h1, h3, h4, h5, h6, h7, h8, valO]

/-- Eval, of a valid formula -/
theorem eval_run (ys : List (List UInt8)) (hy : ys.length < 4611686018427387904) (f : F) (hs : f.size < 4611686018427387903) (hg : good f = true) : run tb 26 (f.enc ++ [strsD ys]) = some [.bool (f.val ys)] := by
  simp only [good, Bool.and_eq_true] at hg
  have a1 := all39_run f.size (by omega) f (Nat.le_refl _)
  have a2 := all40_run f.size (by omega) f (Nat.le_refl _)
  have a3 := value_run ys hy f.size (by omega) f (Nat.le_refl _) hg.1
  rw [F.enc_eq] at a1 a2 a3 ⊢
  simp only [List.cons_append, List.nil_append] at a1 a2 a3 ⊢
  refine run_ir (x := ir26) rfl ?_
  simp only [ir26, ir26p0, den_op, den_call, den_ite, den_letj, den_jump, den_ret, opD_some, iteD_b, jumpD_some, val_c, val_v, List.map_cons, List.map_nil, getD_0, getD_s, List.cons_append, List.nil_append, List.append_assoc, one1_s, a1, a2, a3, callD_1, ev_un, aUn, hg.1, hg.2, Bool.not_true, Bool.false_eq_true, if_false, List.getElem?_cons_zero]
theorem node_run (o : Int) (a : List F) : run tb 24 [.int .i64 o, .sl (F.encs a)] = some (F.mk o [] a).enc := by
  refine run_ir (x := ir24) rfl ?_
  simp only [ir24, den_ret, val_c, val_v, List.map_cons, List.map_nil, getD_0, getD_s, F.enc]
end Go.Proofs.YtgmnlkjoiakoaaaDoor

namespace Go.Proofs.YtgmnlkjoiakoaaaDoor
open Go Am
set_option maxRecDepth 100000
set_option linter.unusedSimpArgs false
set_option linter.unusedVariables false
theorem wrap8 {c : Int} (h0 : 0 ≤ c) (h1 : c < 256) : IntKind.u8.wrap c = c := by
  simp [IntKind.wrap, IntKind.bits, IntKind.signed]; omega
theorem yes_run (l : List Int) (at_ : Nat) (hl : l.length ≤ 2000) (ha : at_ ≤ l.length) :
    ∃ (ys : List (List UInt8)) (b : Nat), ys.length ≤ 4 ∧ b ≤ l.length ∧ run tb 25 [.int .i64 4, numsD l, .int .i64 at_] = some [strsD ys, numsD l, .int .i64 b] := by
  have key := loop_ex (run := run tb) (body := ir25p1) (e := [.int .i64 4, numsD l, .int .i64 at_]) (J := []) (ι := Nat × Nat × List (List UInt8))
    (fun x => 4 - x.1) (fun x => x.1 ≤ 4 ∧ x.2.1 ≤ l.length ∧ x.2.2.length ≤ x.1) (fun x => [.int .i64 x.1, numsD l, .int .i64 x.2.1, strsD x.2.2])
    (fun r => ∃ (ys : List (List UInt8)) (b : Nat), ys.length ≤ 4 ∧ b ≤ l.length ∧ r = [strsD ys, numsD l, .int .i64 b]) (by
    intro x L hp hL
    obtain ⟨i, p, ys⟩ := x
    obtain ⟨h1, h2, h3⟩ := hp
    simp only at h1 h2 h3 hL
    by_cases hi : i < 4
    · have hlt : (i : Int) < 4 := by omega
      obtain ⟨r, b, r0, r1, hb, hr⟩ := n_run 2 l p hl h2 (by omega) (by omega)
      have hw : IntKind.i64.wrap ((i : Int) + 1) = ((i + 1 : Nat) : Int) := by rw [wr (by omega) (by omega)]; omega
      have hw2 : IntKind.i64.wrap (97 + (i : Int)) = 97 + (i : Int) := wr (by omega) (by omega)
      have hw3 : IntKind.u8.wrap (97 + (i : Int)) = 97 + (i : Int) := wrap8 (by omega) (by omega)
      have ht := ev_toS1 (c := 97 + (i : Int)) (by omega) (by omega)
      have happ : PO.eval (.app 1 16) [strsD ys, .sl [[.str [(97 + (i : Int)).toNat.toUInt8]]]] = some [strsD (ys ++ [[(97 + (i : Int)).toNat.toUInt8]])] := app_S (by omega)
      simp only [ir25p1, ir25p0, den_op, den_call, den_ite, den_letj, den_jump, den_ret, opD_some, iteD_b, jumpD_some, val_c, val_v, List.map_cons, List.map_nil, getD_0, getD_s, List.cons_append, List.nil_append, List.append_assoc, ev_binI, aBin, one1_s, reduceIte, if_true, hlt, decide_true, hr, callD_3, List.getElem?_cons_zero, List.getElem?_cons_succ, hw, hw2, ev_conv, hw3, ev_mk1, ht, happ]
      by_cases hr1 : r = 1
      · simp only [hr1, beq_self_eq_true, if_true]
        exact hL (i + 1, b, ys ++ [[(97 + (i : Int)).toNat.toUInt8]]) ⟨by omega, hb, by simp; omega⟩ (by simp; omega)
      · have hrb : (r == 1) = false := by simpa using hr1
        simp only [hrb, Bool.false_eq_true, if_false]
        exact hL (i + 1, b, ys) ⟨by omega, hb, by simp; omega⟩ (by simp; omega)
    · have hlt : ¬ (i : Int) < 4 := by omega
      refine ⟨[strsD ys, numsD l, .int .i64 p], ?_, ys, p, by omega, h2, rfl⟩
      simp [ir25p1, den_op, den_ite, den_ret, opD_some, iteD_b, val_c, val_v, ev_binI, aBin, one1_s, hlt])
  obtain ⟨r, h1, ys, b, h2, h3, rfl⟩ := key (0, at_, []) ⟨by omega, ha, by simp⟩
  refine ⟨ys, b, h2, h3, run_ir (x := ir25) rfl ?_⟩
  simp only [ir25, den_loop, val_c, val_v, List.map_cons, List.map_nil, getD_0, getD_s]
  exact h1
end Go.Proofs.YtgmnlkjoiakoaaaDoor

namespace Go.Proofs.YtgmnlkjoiakoaaaDoor
open Go Am
set_option maxRecDepth 100000
set_option linter.unusedSimpArgs false
set_option linter.unusedVariables false

/-! # the formula that the source makes -/
theorem formula_leaf (n : Nat) (h1 : 1 ≤ n) (h2 : n ≤ 26) (l : List Int) (hl : l.length ≤ 2000) (d : Nat) (dI c k : Int) (p : Nat) (hp : p ≤ l.length) : ∃ (f : F) (b : Nat), b ≤ l.length ∧ Made n d f ∧
      den (run tb) ir10p3 [.int .i64 n, .int .i64 dI, numsD l, .int .i64 c, .int .i64 k, numsD l, .int .i64 p, .bool true] [] = some [.int .i64 f.op, .str f.name, .sl (F.encs f.args), numsD l, .int .i64 b] := by
  by_cases hk : k = 0
  · obtain ⟨r, b, r0, r1, hb, hr⟩ := n_run 2 l p hl hp (by omega) (by omega)
    refine ⟨F.mk (1 + r) [] [], b, hb, ?_, ?_⟩
    · rcases (show r = 0 ∨ r = 1 by omega) with rfl | rfl
      · exact made_const (.inl rfl)
      · exact made_const (.inr rfl)
    · simp (disch := omega) only [ir10p3, stepQ, List.map_cons, List.map_nil, List.cons_append, List.nil_append, List.append_nil, List.length_map, List.getElem?_cons_zero, List.getElem?_cons_succ, eq_self, aBin, aUn, reduceIte, Int.reduceEq, Int.reduceLT, Int.reduceLE, Int.reduceGT, Int.reduceGE, hk, hr, wr, F.op, F.name, F.args, F.encs]
  · obtain ⟨r, b, r0, r1, hb, hr⟩ := n_run n l p hl hp (by omega) (by omega)
    refine ⟨F.mk 3 [(97 + r).toNat.toUInt8] [], b, hb, made_atom r0 r1 h2, ?_⟩
    simp (disch := omega) only [ir10p3, stepQ, List.map_cons, List.map_nil, List.cons_append, List.nil_append, List.append_nil, List.length_map, List.getElem?_cons_zero, List.getElem?_cons_succ, eq_self, aBin, aUn, reduceIte, Int.reduceEq, Int.reduceLT, Int.reduceLE, Int.reduceGT, Int.reduceGE, hk, hr, wr, w8, ev_toS1, F.op, F.name, F.args, F.encs]
theorem formula_loop (n : Nat) (l : List Int) (hl : l.length ≤ 2000) (d : Nat) (hd : d < 20) (dI : Int) (hdI : dI = (d : Int) + 1)
    (ih : ∀ p, p ≤ l.length → ∃ (f : F) (b : Nat), b ≤ l.length ∧ Made n d f ∧ run tb 10 [.int .i64 n, .int .i64 d, numsD l, .int .i64 p] = some [.int .i64 f.op, .str f.name, .sl (F.encs f.args), numsD l, .int .i64 b])
    (o : Int) (m : Nat) (mI : Int) (hmI : mI = m) (p0 : Nat) (x3 x4 x5 x6 x7 x8 x9 : D) (hm : m ≤ 3) (hM : ∀ gs : List F, gs.length = m → (∀ g ∈ gs, Made n d g) → Made n (d + 1) (F.mk o [] gs)) (hp0 : p0 ≤ l.length) : ∃ (f : F) (b : Nat), b ≤ l.length ∧ Made n (d + 1) f ∧
        den (run tb) ir10p1 [.int .i64 n, .int .i64 dI, numsD l, x3, x4, x5, x6, x7, x8, x9, .int .i64 o, .int .i64 mI, numsD l, .int .i64 p0] [] = some [.int .i64 f.op, .str f.name, .sl (F.encs f.args), numsD l, .int .i64 b] := by
  subst hmI
  subst hdI
  have hloop := loop_kx (run := run tb) (body := ir10p0) (e := [.int .i64 n, .int .i64 ((d : Int) + 1), numsD l, x3, x4, x5, x6, x7, x8, x9, .int .i64 o, .int .i64 m, numsD l, .int .i64 p0]) (J := []) (σ := Nat × List F) m
    (fun i s => s.1 ≤ l.length ∧ s.2.length = i ∧ ∀ g ∈ s.2, Made n d g) (fun i s => [.int .i64 i, numsD l, .int .i64 s.1, .sl (F.encs s.2)])
    (fun r => ∃ (f : F) (b : Nat), b ≤ l.length ∧ Made n (d + 1) f ∧ r = [.int .i64 f.op, .str f.name, .sl (F.encs f.args), numsD l, .int .i64 b])
    (by
      rintro i ⟨p, gs⟩ L hi ⟨q1, q2, q3⟩ hL
      dsimp only at q1 q2 q3 hL ⊢
      obtain ⟨f, b, hb, hf, hr⟩ := ih p q1
      simp (disch := omega) only [ir10p0, stepQ, List.map_cons, List.map_nil, List.cons_append, List.nil_append, List.append_nil, List.length_map, List.getElem?_cons_zero, List.getElem?_cons_succ, eq_self, aBin, aUn, reduceIte, Int.reduceEq, Int.reduceLT, Int.reduceLE, Int.reduceGT, Int.reduceGE, nat_lt, hi, hr, app_F, wr, natS]
      refine hL (b, gs ++ [f]) ⟨hb, by simp [q2], fun g hg => ?_⟩
      simp only [List.mem_append, List.mem_singleton] at hg
      rcases hg with hg | rfl
      · exact q3 g hg
      · exact hf)
    (by
      rintro ⟨p, gs⟩ L ⟨q1, q2, q3⟩
      dsimp only at q1 q2 q3 ⊢
      refine ⟨_, ?_, F.mk o [] gs, p, q1, hM gs q2 q3, rfl⟩
      simp (disch := omega) only [ir10p0, stepQ, List.map_cons, List.map_nil, List.cons_append, List.nil_append, List.append_nil, List.length_map, List.getElem?_cons_zero, List.getElem?_cons_succ, eq_self, aBin, aUn, reduceIte, Int.reduceEq, Int.reduceLT, Int.reduceLE, Int.reduceGT, Int.reduceGE, nat_lt, Nat.lt_irrefl, F.op, F.name, F.args])
  obtain ⟨r, hr, f, b, hb, hf, rfl⟩ := hloop 0 (p0, []) (by omega) ⟨hp0, rfl, by simp⟩
  refine ⟨f, b, hb, hf, ?_⟩
  simp only [ir10p1, k_loop, val_c, val_v, List.map_cons, List.map_nil, getD_0, getD_s]
  exact hr
abbrev opsD : D := .sl [[.int .i64 4], [.int .i64 4], [.int .i64 5], [.int .i64 5], [.int .i64 6], [.int .i64 6], [.int .i64 7], [.int .i64 8]]
theorem ops_mk : PO.eval (.mk 1 8) [.int .i64 4, .int .i64 4, .int .i64 5, .int .i64 5, .int .i64 6, .int .i64 6, .int .i64 7, .int .i64 8] = some [opsD] := rfl
theorem ops_chk {k : Int} (h : 0 ≤ k) (h1 : k < 8) : PO.eval .chk [opsD, .int .i64 k] = some [] := ev_chk h h1
def opAt (k : Int) : Int := if k < 2 then 4 else if k < 4 then 5 else if k < 6 then 6 else if k < 7 then 7 else 8
theorem ops_get {k : Int} (h : 0 ≤ k) (h1 : k < 8) : PO.eval (.get 0 1) [opsD, .int .i64 k] = some [.int .i64 (opAt k)] := by
  rcases (show k = 0 ∨ k = 1 ∨ k = 2 ∨ k = 3 ∨ k = 4 ∨ k = 5 ∨ k = 6 ∨ k = 7 by omega) with rfl | rfl | rfl | rfl | rfl | rfl | rfl | rfl <;> rfl
theorem formula_run (n : Nat) (h1 : 1 ≤ n) (h2 : n ≤ 26) (l : List Int) (hl : l.length ≤ 2000) : ∀ (d : Nat), d < 20 → ∀ p, p ≤ l.length →
    ∃ (f : F) (b : Nat), b ≤ l.length ∧ Made n d f ∧ run tb 10 [.int .i64 n, .int .i64 d, numsD l, .int .i64 p] = some [.int .i64 f.op, .str f.name, .sl (F.encs f.args), numsD l, .int .i64 b] := by
  intro d
  induction d with
  | zero =>
    intro _ p hp
    obtain ⟨k, b, k0, k1, hb, hr⟩ := n_run 12 l p hl hp (by omega) (by omega)
    obtain ⟨f, b', hb', hm, hf⟩ := formula_leaf n h1 h2 l hl 0 0 p k b hb
    refine ⟨f, b', hb', hm, run_ir (x := ir10) rfl ?_⟩
    simp (disch := omega) only [ir10, stepQ, List.map_cons, List.map_nil, List.cons_append, List.nil_append, List.append_nil, List.length_map, List.getElem?_cons_zero, List.getElem?_cons_succ, eq_self, aBin, aUn, reduceIte, Int.reduceEq, Int.reduceLT, Int.reduceLE, Int.reduceGT, Int.reduceGE, hr, nat0, hf]
  | succ d ih =>
    intro hd p hp
    obtain ⟨k, b, k0, k1, hb, hr⟩ := n_run 12 l p hl hp (by omega) (by omega)
    have hd1 : ¬ ((d + 1 : Nat) : Int) < 1 := by omega
    by_cases hk : k < 4
    · obtain ⟨f, b', hb', hm, hf⟩ := formula_leaf n h1 h2 l hl (d + 1) (d + 1 : Nat) p k b hb
      refine ⟨f, b', hb', hm, run_ir (x := ir10) rfl ?_⟩
      simp (disch := omega) only [ir10, stepQ, List.map_cons, List.map_nil, List.cons_append, List.nil_append, List.append_nil, List.length_map, List.getElem?_cons_zero, List.getElem?_cons_succ, eq_self, aBin, aUn, reduceIte, Int.reduceEq, Int.reduceLT, Int.reduceLE, Int.reduceGT, Int.reduceGE, hr, hd1, hk, hf]
    have hwk : IntKind.i64.wrap (k - 4) = k - 4 := wr (by omega) (by omega)
    obtain ⟨r, b2, r0, r1, hb2, hr2⟩ := n_run 2 l b hl hb (by omega) (by omega)
    have hwr : IntKind.i64.wrap (2 + r) = 2 + r := wr (by omega) (by omega)
    have hchk := ops_chk (k := k - 4) (by omega) (by omega)
    have hget := ops_get (k := k - 4) (by omega) (by omega)
    have ho : opAt (k - 4) = 4 ∨ opAt (k - 4) = 5 ∨ opAt (k - 4) = 6 ∨ opAt (k - 4) = 7 ∨ opAt (k - 4) = 8 := by unfold opAt; omega
    generalize opAt (k - 4) = o at hget ho
    have key := fun m mI hmI p0 hm hM hp0 => formula_loop n l hl d (by omega) (d + 1 : Nat) rfl (fun p hp => ih (by omega) p hp) o m mI hmI p0 (.int .i64 p) (.int .i64 k) (numsD l) (.int .i64 b) (.bool false) opsD (.int .i64 (k - 4)) hm hM hp0
    have fin : ∀ {mI p0}, (∃ (f : F) (c : Nat), c ≤ l.length ∧ Made n (d + 1) f ∧
        den (run tb) ir10p1 [.int .i64 n, .int .i64 (d + 1 : Nat), numsD l, .int .i64 p, .int .i64 k, numsD l, .int .i64 b, .bool false, opsD, .int .i64 (k - 4), .int .i64 o, .int .i64 mI, numsD l, .int .i64 p0] [] = some [.int .i64 f.op, .str f.name, .sl (F.encs f.args), numsD l, .int .i64 c]) →
        ((o = 4 ∧ mI = 1 ∧ p0 = (b : Int)) ∨ ((o = 5 ∨ o = 6) ∧ mI = 2 + r ∧ p0 = (b2 : Int)) ∨ ((o = 7 ∨ o = 8) ∧ mI = 2 ∧ p0 = (b : Int))) →
        ∃ (f : F) (b : Nat), b ≤ l.length ∧ Made n (d + 1) f ∧ run tb 10 [.int .i64 n, .int .i64 (d + 1 : Nat), numsD l, .int .i64 p] = some [.int .i64 f.op, .str f.name, .sl (F.encs f.args), numsD l, .int .i64 b] := by
      rintro mI p0 ⟨f, b', hb', hf, hrun⟩ ho
      refine ⟨f, b', hb', hf, run_ir (x := ir10) rfl ?_⟩
      rcases ho with ⟨rfl, rfl, rfl⟩ | ⟨rfl | rfl, rfl, rfl⟩ | ⟨rfl | rfl, rfl, rfl⟩ <;>
        simp only [ir10, ir10p3, ir10p2, stepQ, List.map_cons, List.map_nil, List.cons_append, List.nil_append, List.append_nil, List.length_map, List.getElem?_cons_zero, List.getElem?_cons_succ, eq_self, aBin, aUn, reduceIte, Int.reduceEq, Int.reduceLT, Int.reduceLE, Int.reduceGT, Int.reduceGE, hr, hd1, hk, ops_mk, hchk, hwk, hget, hr2, hwr, hrun]
    obtain ⟨r, rfl⟩ : ∃ m : Nat, r = m := ⟨r.toNat, by omega⟩
    rcases ho with rfl | rfl | rfl | rfl | rfl
    · exact fin (key 1 1 rfl b (by omega) (fun gs hl hg => made_node (by omega) hg) hb) (.inl ⟨rfl, rfl, rfl⟩)
    · exact fin (key (2 + r) (2 + r) (by omega) b2 (by omega) (fun gs hl hg => made_node (by omega) hg) hb2) (.inr (.inl ⟨.inl rfl, rfl, rfl⟩))
    · exact fin (key (2 + r) (2 + r) (by omega) b2 (by omega) (fun gs hl hg => made_node (by omega) hg) hb2) (.inr (.inl ⟨.inr rfl, rfl, rfl⟩))
    · exact fin (key 2 2 rfl b (by omega) (fun gs hl hg => made_node (by omega) hg) hb) (.inr (.inr ⟨.inl rfl, rfl, rfl⟩))
    · exact fin (key 2 2 rfl b (by omega) (fun gs hl hg => made_node (by omega) hg) hb) (.inr (.inr ⟨.inr rfl, rfl, rfl⟩))
end Go.Proofs.YtgmnlkjoiakoaaaDoor
