/- Plain programs of the functions of the program and lemmas about what they compute. -/
import Derived.Test.YtgmnlkjoiakoaaaDoorSb3
import Derived.Test.YtgmnlkjoiakoaaaDoorAm4
set_option linter.unusedSimpArgs false
set_option linter.unusedVariables false
set_option linter.unusedSectionVars false
namespace Go.Proofs.YtgmnlkjoiakoaaaDoor
open Go Am
set_option maxRecDepth 100000

/-! # plain proofs: the source of numbers -/
theorem step_add1 {n : Int} (h0 : 0 ≤ n) (h1 : n < 9223372036854775807) : IntKind.i64.wrap (n + 1) = n + 1 := wr (by omega) (by omega)

/-- Raw: a number, and the place does not pass the end -/
theorem raw_run (l : List Int) (at_ : Nat) (hl : l.length ≤ 2000) (ha : at_ ≤ l.length) : ∃ (x : Int) (b : Nat), b ≤ l.length ∧ run tb 47 [numsD l, .int .i64 at_] = some [.int .i64 x, numsD l, .int .i64 b] := by
  have e3 : IntKind.i64.wrap (at_ : Int) = (at_ : Int) := wr (by omega) (by omega)
  by_cases h : at_ < l.length
  · refine ⟨l[at_], at_ + 1, by omega, run_ir (x := ir47) rfl ?_⟩
    have e1 : IntKind.i64.wrap ((at_ : Int) + 1) = (at_ : Int) + 1 := wr (by omega) (by omega)
    have hd : decide (l.length ≤ at_) = false := by simp; omega
    simp [ir47, den, PO.eval, SA.val, one1, aBin, numsD, numR, go_sem, e1, e3, hd, h]
  · refine ⟨0, at_, ha, run_ir (x := ir47) rfl ?_⟩
    have hd : decide (l.length ≤ at_) = true := by simp; omega
    simp [ir47, den, PO.eval, SA.val, one1, aBin, numsD, numR, go_sem, hd]

/-- Mod: within the range -/
theorem mod_run (x n : Int) (h0 : 1 ≤ n) (h1 : n < 4611686018427387904) : ∃ r : Int, 0 ≤ r ∧ r < n ∧ run tb 23 [.int .i64 x, .int .i64 n] = some [.int .i64 r] := by
  have a1 : -n < Int.tmod x n := Int.lt_tmod_of_pos x (by omega)
  have a2 : Int.tmod x n < n := Int.tmod_lt_of_pos x (by omega)
  have hn : n ≠ 0 := by omega
  have hn1 : ¬ n < 1 := by omega
  have hw : IntKind.i64.wrap (Int.tmod x n) = Int.tmod x n := wr (by omega) (by omega)
  by_cases h : Int.tmod x n < 0
  · refine ⟨Int.tmod x n + n, by omega, by omega, run_ir (x := ir23) rfl ?_⟩
    have hw2 : IntKind.i64.wrap (Int.tmod x n + n) = Int.tmod x n + n := wr (by omega) (by omega)
    simp [ir23, ir23p0, den, PO.eval, SA.val, one1, aBin, hn, hn1, hw, h, hw2, go_sem]
  · refine ⟨Int.tmod x n, by omega, by omega, run_ir (x := ir23) rfl ?_⟩
    simp [ir23, ir23p0, den, PO.eval, SA.val, one1, aBin, hn, hn1, hw, h, go_sem]
/-- N: the next number, within the range -/
theorem n_run (n : Int) (l : List Int) (at_ : Nat) (hl : l.length ≤ 2000) (ha : at_ ≤ l.length) (h0 : 1 ≤ n) (h1 : n < 4611686018427387904) :
    ∃ (r : Int) (b : Nat), 0 ≤ r ∧ r < n ∧ b ≤ l.length ∧ run tb 27 [.int .i64 n, numsD l, .int .i64 at_] = some [.int .i64 r, numsD l, .int .i64 b] := by
  obtain ⟨x, b, hb, hr⟩ := raw_run l at_ hl ha
  obtain ⟨r, r0, r1, hm⟩ := mod_run x n h0 h1
  refine ⟨r, b, r0, r1, hb, run_ir (x := ir27) rfl ?_⟩
  simp [ir27, den, SA.val, hr, hm, numsD_sl]

theorem new_run (l : List Int) : ∃ l' : List Int, l'.length ≤ 2000 ∧ run tb 9 [numsD l] = some [numsD l', .int .i64 0] := by
  refine ⟨l.take (min l.length 2000), by simp; omega, run_ir (x := ir9) rfl ?_⟩
  by_cases h : (2000 : Int) < l.length
  · have h2 : (2000 : Int) ≤ l.length := by omega
    have h3 : min l.length 2000 = 2000 := by omega
    simp [ir9, den, PO.eval, SA.val, numsD, numR, h, h3, h2]
  · have h3 : min l.length 2000 = l.length := by omega
    have h4 : List.take l.length (List.map numR l) = List.map numR l := List.take_of_length_le (by simp)
    have h5 : ∀ x, x ∈ l → (numR x).length = 1 := fun x _ => rfl
    simp only [ir9, den, PO.eval, SA.val, numsD]
    simp [h, h3, h4]
    rw [if_pos h5]
    rfl
end Go.Proofs.YtgmnlkjoiakoaaaDoor

namespace Go.Proofs.YtgmnlkjoiakoaaaDoor
open Go Am
set_option maxRecDepth 100000
set_option linter.unusedSimpArgs false

/-! # plain proofs: what is valid -/
theorem counted_run (f : F) : run tb 55 f.enc = some [.bool (counted f)] := by
  refine run_ir (x := ir55) rfl ?_
  obtain ⟨o, s, a⟩ := f
  have hl : (F.encs a).length = a.length := F.encs_len a
  simp only [F.enc, counted, F.op, F.args]
  simp [ir55, ir55p0, ir55p1, ir55p2, den_op, den_ite, den_letj, den_jump, den_ret, opD_some, iteD_b, jumpD_some, PO.eval, SA.val, one1, aBin, go_sem, hl]
  by_cases h1 : o = 1
  · simp [h1]
  by_cases h2 : o = 2
  · simp [h2]
  by_cases h3 : o = 3
  · simp [h3]
  by_cases h4 : o = 4
  · simp [h4]
  by_cases h5 : o = 5
  · by_cases h : 2 ≤ (a.length : Int) <;> simp [h5, h]
    exact decide_eq_decide.mpr Iff.rfl
  by_cases h6 : o = 6
  · by_cases h : 2 ≤ (a.length : Int) <;> simp [h6, h]
    exact decide_eq_decide.mpr Iff.rfl
  by_cases h7 : o = 7
  · simp [h7]
  by_cases h8 : o = 8 <;> simp [h1, h2, h3, h4, h5, h6, h7, h8]

/-- one row of a list of formulas -/
theorem row_enc (a : List F) (i : Nat) (h : i < a.length) : (F.encs a)[i]? = some (a[i]).enc := F.encs_get a i h

/-- ValidName: the loop over the letters -/
theorem validName_run (s : List UInt8) : run tb 67 [.str s] = some [.bool (validName s)] := by
  refine run_ir (x := ir67) rfl ?_
  by_cases h0 : s.length = 0
  · have : s = [] := List.length_eq_zero_iff.1 h0
    subst this
    simp [ir67, ir67p4, den_op, den_ite, den_letj, den_jump, den_ret, opD_some, iteD_b, jumpD_some, ev_lenS, ev_binI, val_c, val_v, aBin, one1_s, validName]
  by_cases h1 : (s.length : Int) > 12
  · have h0' : ¬ (s.length : Int) = 0 := by omega
    simp [ir67, ir67p4, den_op, den_ite, den_letj, den_jump, den_ret, opD_some, iteD_b, jumpD_some, ev_lenS, ev_binI, val_c, val_v, aBin, one1_s, validName, h0', h1]
  have h0' : ¬ (s.length : Int) = 0 := by omega
  have h1' : decide ((s.length : Int) > 12) = false := by simpa using h1
  have h0b : ((s.length : Int) == 0) = false := by simpa using h0'
  have key := loop_run (run := run tb) (body := ir67p3) (e := [.str s, .bool false, .int .i64 s.length]) (J := [])
    (fun i : Nat => s.length - i) (fun i => i ≤ s.length) (fun i => [.int .i64 i]) (fun i => [.bool (nameFrom i (s.drop i))]) (by
    intro i L hp hL
    by_cases hi : i < s.length
    · have hlt : (i : Int) < s.length := by omega
      have hidx : PO.eval .idxS [.str s, .int .i64 i] = some [.int .u8 s[i].toNat] := ev_idxS (by omega) (by simp [hi])
      have hw : IntKind.i64.wrap ((i : Int) + 1) = ((i + 1 : Nat) : Int) := by rw [wr (by omega) (by omega)]; omega
      have hnext := hL (i + 1) (by omega) (by omega)
      rw [nameFrom_drop s i hi]
      simp only [ir67p3, ir67p2, ir67p1, ir67p0, den_op, den_ite, den_letj, den_jump, den_ret, opD_some, iteD_b, jumpD_some, val_c, val_v, List.map_cons, List.map_nil, getD_0, getD_s, List.cons_append, List.nil_append, List.append_assoc, ev_binI, aBin, one1_s, hlt, decide_true, if_true, hidx, List.getElem?_cons_zero, List.getElem?_cons_succ, hw, nameOk, hnext]
      by_cases c1 : (s[i].toNat : Int) ≥ 97 <;> by_cases c2 : (s[i].toNat : Int) ≤ 122 <;> by_cases c3 : 0 < i <;> by_cases c4 : (s[i].toNat : Int) ≥ 48 <;> by_cases c5 : (s[i].toNat : Int) ≤ 57 <;> by_cases c6 : (s[i].toNat : Int) = 95 <;> simp [c1, c2, c3, c4, c5, c6]
    · have hd : s.drop i = [] := List.drop_eq_nil_of_le (by omega)
      have hlt : ¬ (i : Int) < s.length := by omega
      simp [ir67p3, den_op, den_ite, den_letj, den_jump, den_ret, opD_some, iteD_b, val_c, val_v, ev_binI, aBin, one1_s, hlt, hd, nameFrom])
  have hk := key 0 (by omega)
  simp only [ir67, ir67p4, den_op, den_ite, den_letj, den_jump, den_ret, den_loop, opD_some, iteD_b, jumpD_some, ev_lenS, ev_binI, val_c, val_v, aBin, one1_s, validName, List.map_cons, List.map_nil, getD_0, getD_s, List.cons_append, List.nil_append, List.getElem?_cons_zero, h0b, h1', reduceIte, if_true, Bool.false_eq_true, if_false, Bool.or_self, Bool.not_false, Bool.true_and]
  exact hk
end Go.Proofs.YtgmnlkjoiakoaaaDoor

namespace Go.Proofs.YtgmnlkjoiakoaaaDoor
open Go Am
set_option maxRecDepth 100000
set_option linter.unusedSimpArgs false
theorem all39_run (n : Nat) (hn : n < 4611686018427387904) : ∀ f : F, f.size ≤ n → run tb 39 f.enc = some [.bool (F.allF counted f)] := by
  induction n with
  | zero => intro f hf; have := F.size_pos f; omega
  | succ n ih =>
    intro f hf
    have hc := counted_run f
    rw [F.enc_eq] at hc ⊢
    refine run_ir (x := ir39) rfl ?_
    have hl : (F.encs f.args).length = f.args.length := F.encs_len f.args
    have hlen : f.args.length < 4611686018427387904 := by
      have h1 := F.sizes_len f.args
      have h2 := F.size_eq f
      omega
    simp only [ir39, den_op, den_ite, den_letj, den_jump, den_ret, den_loop, den_call, opD_some, iteD_b, jumpD_some, val_c, val_v, List.map_cons, List.map_nil, getD_0, getD_s, List.cons_append, List.nil_append, List.append_assoc, hc, callD_1, ev_un, aUn, one1_s, ev_lenL, hl]
    cases hcf : counted f with
    | false => simp [F.allF_eq, hcf]
    | true =>
      simp only [Bool.not_true, Bool.false_eq_true, if_false]
      have key := loop_run (run := run tb) (body := ir39p0) (e := [.int .i64 f.op, .str f.name, .sl (F.encs f.args), .bool true, .bool false, .int .i64 f.args.length]) (J := [])
        (fun i : Nat => f.args.length - i) (fun i => i ≤ f.args.length) (fun i => [.int .i64 i]) (fun i => [.bool (F.allFs counted (f.args.drop i))]) (by
        intro i L hp hL
        by_cases hi' : i < f.args.length
        · have hlt : (i : Int) < f.args.length := by omega
          have hg := ih (by omega) (f.args[i]) (by have := F.size_arg f i hi'; omega)
          rw [F.enc_eq] at hg
          have hrow : PO.eval (.row 3) [.sl (F.encs f.args), .int .i64 i] = some [.int .i64 f.args[i].op, .str f.args[i].name, .sl (F.encs f.args[i].args)] := ev_row (by omega) (by simpa [F.enc_eq] using F.encs_get f.args i hi') rfl
          have hd : f.args.drop i = f.args[i] :: f.args.drop (i + 1) := List.drop_eq_getElem_cons hi'
          have hw : IntKind.i64.wrap ((i : Int) + 1) = ((i + 1 : Nat) : Int) := by rw [wr (by omega) (by omega)]; omega
          have hnext := hL (i + 1) (by omega) (by omega)
          rw [hd]
          simp only [F.allFs]
          simp only [ir39p0, den_op, den_ite, den_jump, den_ret, den_call, opD_some, iteD_b, val_c, val_v, List.map_cons, List.map_nil, getD_0, getD_s, List.cons_append, List.nil_append, List.append_assoc, ev_binI, aBin, one1_s, hlt, decide_true, if_true, hrow, hg, callD_1, ev_un, aUn]
          cases ha : F.allF counted f.args[i] with
          | false => simp
          | true =>
            simp only [Bool.not_true, Bool.false_eq_true, if_false, List.getElem?_cons_zero, jumpD_some, hw, Bool.true_and]
            exact hnext
        · have hd : f.args.drop i = [] := List.drop_eq_nil_of_le (by omega)
          have hlt : ¬ (i : Int) < f.args.length := by omega
          simp [ir39p0, den_op, den_ite, den_jump, den_ret, opD_some, iteD_b, val_c, val_v, ev_binI, aBin, one1_s, hlt, hd, F.allFs])
      have := key 0 (by omega)
      simp only [List.drop_zero] at this
      rw [F.allF_eq, hcf, Bool.true_and]
      exact this
theorem named_run (f : F) : run tb 56 f.enc = some [.bool (named f)] := by
  refine run_ir (x := ir56) rfl ?_
  obtain ⟨o, s, a⟩ := f
  simp only [F.enc, named, F.op, F.name]
  have hv := validName_run s
  simp only [ir56, den_op, den_ite, den_ret, den_call, opD_some, iteD_b, val_c, val_v, List.map_cons, List.map_nil, getD_0, getD_s, List.cons_append, List.nil_append, List.append_assoc, ev_binI, ev_binS, aBin, one1_s, reduceIte, if_true, hv, callD_1]
  by_cases h3 : o = 3
  · simp [h3]
  · simp [h3]
theorem all40_run (n : Nat) (hn : n < 4611686018427387904) : ∀ f : F, f.size ≤ n → run tb 40 f.enc = some [.bool (F.allF named f)] := by
  induction n with
  | zero => intro f hf; have := F.size_pos f; omega
  | succ n ih =>
    intro f hf
    have hc := named_run f
    rw [F.enc_eq] at hc ⊢
    refine run_ir (x := ir40) rfl ?_
    have hl : (F.encs f.args).length = f.args.length := F.encs_len f.args
    have hlen : f.args.length < 4611686018427387904 := by
      have h1 := F.sizes_len f.args
      have h2 := F.size_eq f
      omega
    simp only [ir40, den_op, den_ite, den_letj, den_jump, den_ret, den_loop, den_call, opD_some, iteD_b, jumpD_some, val_c, val_v, List.map_cons, List.map_nil, getD_0, getD_s, List.cons_append, List.nil_append, List.append_assoc, hc, callD_1, ev_un, aUn, one1_s, ev_lenL, hl]
    cases hcf : named f with
    | false => simp [F.allF_eq, hcf]
    | true =>
      simp only [Bool.not_true, Bool.false_eq_true, if_false]
      have key := loop_run (run := run tb) (body := ir40p0) (e := [.int .i64 f.op, .str f.name, .sl (F.encs f.args), .bool true, .bool false, .int .i64 f.args.length]) (J := [])
        (fun i : Nat => f.args.length - i) (fun i => i ≤ f.args.length) (fun i => [.int .i64 i]) (fun i => [.bool (F.allFs named (f.args.drop i))]) (by
        intro i L hp hL
        by_cases hi' : i < f.args.length
        · have hlt : (i : Int) < f.args.length := by omega
          have hg := ih (by omega) (f.args[i]) (by have := F.size_arg f i hi'; omega)
          rw [F.enc_eq] at hg
          have hrow : PO.eval (.row 3) [.sl (F.encs f.args), .int .i64 i] = some [.int .i64 f.args[i].op, .str f.args[i].name, .sl (F.encs f.args[i].args)] := ev_row (by omega) (by simpa [F.enc_eq] using F.encs_get f.args i hi') rfl
          have hd : f.args.drop i = f.args[i] :: f.args.drop (i + 1) := List.drop_eq_getElem_cons hi'
          have hw : IntKind.i64.wrap ((i : Int) + 1) = ((i + 1 : Nat) : Int) := by rw [wr (by omega) (by omega)]; omega
          have hnext := hL (i + 1) (by omega) (by omega)
          rw [hd]
          simp only [F.allFs]
          simp only [ir40p0, den_op, den_ite, den_jump, den_ret, den_call, opD_some, iteD_b, val_c, val_v, List.map_cons, List.map_nil, getD_0, getD_s, List.cons_append, List.nil_append, List.append_assoc, ev_binI, aBin, one1_s, hlt, decide_true, if_true, hrow, hg, callD_1, ev_un, aUn]
          cases ha : F.allF named f.args[i] with
          | false => simp
          | true =>
            simp only [Bool.not_true, Bool.false_eq_true, if_false, List.getElem?_cons_zero, jumpD_some, hw, Bool.true_and]
            exact hnext
        · have hd : f.args.drop i = [] := List.drop_eq_nil_of_le (by omega)
          have hlt : ¬ (i : Int) < f.args.length := by omega
          simp [ir40p0, den_op, den_ite, den_jump, den_ret, opD_some, iteD_b, val_c, val_v, ev_binI, aBin, one1_s, hlt, hd, F.allFs])
      have := key 0 (by omega)
      simp only [List.drop_zero] at this
      rw [F.allF_eq, hcf, Bool.true_and]
      exact this
end Go.Proofs.YtgmnlkjoiakoaaaDoor

namespace Go.Proofs.YtgmnlkjoiakoaaaDoor
open Go Am
set_option maxRecDepth 100000
set_option linter.unusedSimpArgs false
set_option linter.unusedVariables false

/-! # plain proofs: values -/
theorem index_run (ys : List (List UInt8)) (s : List UInt8) (hl : ys.length < 4611686018427387904) : run tb 70 [strsD ys, .str s] = some [.int .i64 (idxOf s 0 ys)] := by
  refine run_ir (x := ir70) rfl ?_
  have key := loop_run (run := run tb) (body := ir70p0) (e := [strsD ys, .str s, .int .i64 ys.length]) (J := [])
    (fun i : Nat => ys.length - i) (fun i => i ≤ ys.length) (fun i => [.int .i64 i]) (fun i => [.int .i64 (idxOf s i (ys.drop i))]) (by
    intro i L hp hL
    by_cases hi : i < ys.length
    · have hlt : (i : Int) < ys.length := by omega
      have hrow : PO.eval (.row 1) [strsD ys, .int .i64 i] = some [.str ys[i]] := row_S hi
      have hw : IntKind.i64.wrap ((i : Int) + 1) = ((i + 1 : Nat) : Int) := by rw [wr (by omega) (by omega)]; omega
      have hnext := hL (i + 1) (by omega) (by omega)
      have hd : ys.drop i = ys[i] :: ys.drop (i + 1) := List.drop_eq_getElem_cons hi
      rw [hd]
      simp only [idxOf]
      simp only [ir70p0, den_op, den_ite, den_letj, den_jump, den_ret, opD_some, iteD_b, jumpD_some, val_c, val_v, List.map_cons, List.map_nil, getD_0, getD_s, List.cons_append, List.nil_append, List.append_assoc, ev_binI, ev_binS, aBin, one1_s, hlt, decide_true, reduceIte, if_true, hrow, List.getElem?_cons_zero, hw, hnext]
      by_cases h : s = ys[i] <;> simp [h]
    · have hd : ys.drop i = [] := List.drop_eq_nil_of_le (by omega)
      have hlt : ¬ (i : Int) < ys.length := by omega
      simp [ir70p0, den_op, den_ite, den_letj, den_jump, den_ret, opD_some, iteD_b, val_c, val_v, ev_binI, aBin, one1_s, hlt, hd, idxOf])
  have hk := key 0 (by omega)
  have hlen : PO.eval .lenL [strsD ys] = some [.int .i64 ys.length] := len_S ys
  simp only [ir70, den_op, den_loop, opD_some, val_c, val_v, List.map_cons, List.map_nil, getD_0, getD_s, List.cons_append, List.nil_append, hlen]
  exact hk
theorem contains_run (ys : List (List UInt8)) (s : List UInt8) (hl : ys.length < 4611686018427387904) : run tb 60 [strsD ys, .str s] = some [.bool (ys.contains s)] := by
  refine run_ir (x := ir60) rfl ?_
  have h := index_run ys s hl
  simp only [ir60, den_op, den_call, den_ret, opD_some, val_c, val_v, List.map_cons, List.map_nil, getD_0, getD_s, List.cons_append, List.nil_append, h, callD_1, ev_binI, aBin, one1_s, reduceIte, if_true]
  rw [← idxOf_ge s ys 0]
end Go.Proofs.YtgmnlkjoiakoaaaDoor
