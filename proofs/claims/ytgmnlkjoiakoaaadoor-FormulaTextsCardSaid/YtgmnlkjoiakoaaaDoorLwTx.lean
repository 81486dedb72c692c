/- Plain programs of the functions of the program and lemmas about what they compute. -/
import Derived.Test.YtgmnlkjoiakoaaaDoorPl5
import Derived.Test.YtgmnlkjoiakoaaaDoorRw2
set_option linter.unusedSimpArgs false
set_option linter.unusedVariables false
set_option linter.unusedSectionVars false
namespace Go.Proofs.YtgmnlkjoiakoaaaDoor
open Go Am
set_option maxRecDepth 100000
set_option linter.unusedSimpArgs false
set_option linter.unusedVariables false
/-! # the specification's texts -/
def argT (least : Int) (g : F) : List UInt8 := if strength g < least then [40] ++ F.text g ++ [41] else F.text g
theorem piece_eq (o : Int) (i : Nat) (g : F) : F.piece o i g = (if i = 0 then [] else wordO o) ++ argT (neededO o i) g := by
  unfold F.piece argT
  rcases Nat.eq_zero_or_pos i with rfl | h
  · simp
  · have h1 : ((i : Int) > 0) := by omega
    have h2 : i ≠ 0 := by omega
    simp [h1, h2]
theorem strength_run (f : F) : run tb 66 (rowF f) = some [.int .i64 (strength f)] := by
  refine run_ir (x := ir66) rfl ?_
  unfold strength
  simp only [ibeq, decide_eq_true_eq]
  by_cases h8 : f.op = 8
  · simp only [ir66, rowF, stepQ, List.map_cons, List.map_nil, List.cons_append, List.nil_append, List.append_nil, List.length_map, List.getElem?_cons_zero, List.getElem?_cons_succ, eq_self, aBin, aUn, reduceIte, Int.reduceEq, Int.reduceLT, Int.reduceLE, Int.reduceGT, Int.reduceGE, h8]
  by_cases h7 : f.op = 7
  · simp only [ir66, rowF, stepQ, List.map_cons, List.map_nil, List.cons_append, List.nil_append, List.append_nil, List.length_map, List.getElem?_cons_zero, List.getElem?_cons_succ, eq_self, aBin, aUn, reduceIte, Int.reduceEq, Int.reduceLT, Int.reduceLE, Int.reduceGT, Int.reduceGE, h7]
  by_cases h6 : f.op = 6
  · simp only [ir66, rowF, stepQ, List.map_cons, List.map_nil, List.cons_append, List.nil_append, List.append_nil, List.length_map, List.getElem?_cons_zero, List.getElem?_cons_succ, eq_self, aBin, aUn, reduceIte, Int.reduceEq, Int.reduceLT, Int.reduceLE, Int.reduceGT, Int.reduceGE, h6]
  by_cases h5 : f.op = 5
  · simp only [ir66, rowF, stepQ, List.map_cons, List.map_nil, List.cons_append, List.nil_append, List.append_nil, List.length_map, List.getElem?_cons_zero, List.getElem?_cons_succ, eq_self, aBin, aUn, reduceIte, Int.reduceEq, Int.reduceLT, Int.reduceLE, Int.reduceGT, Int.reduceGE, h5]
  simp only [ir66, rowF, stepQ, List.map_cons, List.map_nil, List.cons_append, List.nil_append, List.append_nil, List.length_map, List.getElem?_cons_zero, List.getElem?_cons_succ, eq_self, aBin, aUn, reduceIte, Int.reduceEq, Int.reduceLT, Int.reduceLE, Int.reduceGT, Int.reduceGE, h8, h7, h6, h5]
theorem text_bound {g : F} (hg : good g = true) (hs : g.size < 1000000) : (F.text g).length ≤ 20000000 := by
  have := text_le g (by simp only [good, Bool.and_eq_true] at hg; exact hg.2)
  omega
theorem argT_bound {g : F} (hg : good g = true) (hs : g.size < 1000000) (least : Int) : (argT least g).length ≤ 20000002 := by
  have := text_bound hg hs
  unfold argT
  split
  · simp; omega
  · omega
theorem argument_run (g : F) (hg : good g = true) (hs : g.size < 1000000) (least : Int) (ht : run tb 38 (rowF g) = some [.str (F.text g)]) : run tb 53 (rowF g ++ [.int .i64 least]) = some [.str (argT least g)] := by
  refine run_ir (x := ir53) rfl ?_
  have h1 := strength_run g
  have hb := text_bound hg hs
  have a1 : ([40] : List UInt8).length + (F.text g).length ≤ 9223372036854775807 := by simp; omega
  have a2 : (40 :: F.text g).length + ([41] : List UInt8).length ≤ 9223372036854775807 := by simp; omega
  unfold argT
  simp only [rowF] at h1 ht
  by_cases h : strength g < least
  · simp only [ir53, rowF, stepQ, List.map_cons, List.map_nil, List.cons_append, List.nil_append, List.append_nil, List.length_map, List.getElem?_cons_zero, List.getElem?_cons_succ, eq_self, aBin, aUn, reduceIte, Int.reduceEq, Int.reduceLT, Int.reduceLE, Int.reduceGT, Int.reduceGE, h1, h, ht, a1, a2]
  · simp only [ir53, rowF, stepQ, List.map_cons, List.map_nil, List.cons_append, List.nil_append, List.append_nil, List.length_map, List.getElem?_cons_zero, List.getElem?_cons_succ, eq_self, aBin, aUn, reduceIte, Int.reduceEq, Int.reduceLT, Int.reduceLE, Int.reduceGT, Int.reduceGE, h1, h, ht]
theorem joined_run (o least : Int) (hn : ∀ i : Int, neededO o i = least) (gs : List F) (h0 : 0 < gs.length) (hg : ∀ g ∈ gs, good g = true) (hs : F.sizes gs < 1000000)
    (ht : ∀ g ∈ gs, run tb 38 (rowF g) = some [.str (F.text g)]) : run tb 54 [.sl (F.encs gs), .str (wordO o), .int .i64 least] = some [.str (F.texts o 0 gs)] := by
  refine run_ir (x := ir54) rfl ?_
  have hsz : ∀ g ∈ gs, g.size < 1000000 := fun g hg => by
    obtain ⟨i, hi, rfl⟩ := List.getElem_of_mem hg
    have := F.sizes_take gs i hi
    have := F.sizes_take_le gs (i + 1)
    omega
  have harg : ∀ i (h : i < gs.length), run tb 53 (rowF gs[i] ++ [.int .i64 least]) = some [.str (argT least gs[i])] := fun i h =>
    argument_run _ (hg _ (List.getElem_mem h)) (hsz _ (List.getElem_mem h)) least (ht _ (List.getElem_mem h))
  have hw : (wordO o).length ≤ 5 := wordO_le o
  have hlen : gs.length ≤ F.sizes gs := F.sizes_len gs
  have htb : ∀ i, (F.texts o 0 (gs.take i)).length ≤ 20000000 := fun i => by
    have := texts_le o 0 (gs.take i) (by
      rw [allFs_all, List.all_eq_true]
      intro x hx
      have := hg x (List.mem_of_mem_take hx)
      simp only [good, Bool.and_eq_true] at this
      exact this.2)
    have h2 := F.sizes_take_le gs i
    omega
  simp only [rowF, List.cons_append, List.nil_append] at harg
  have key := loop_km (run := run tb) (body := ir54p0) (e := [.sl (F.encs gs), .str (wordO o), .int .i64 least, .int .i64 gs[0].op, .str gs[0].name, .sl (F.encs gs[0].args), .str (argT least gs[0])]) (J := []) (ι := Nat) (fun i => gs.length - i)
    (fun i => 1 ≤ i ∧ i ≤ gs.length) (fun i => [.str (F.texts o 0 (gs.take i)), .int .i64 i]) (fun _ => [.str (F.texts o 0 gs)])
    (by
      rintro i L ⟨h1, h2⟩ hL
      by_cases hi : i < gs.length
      · have hr := harg i hi
        have hb := argT_bound (hg _ (List.getElem_mem hi)) (hsz _ (List.getElem_mem hi)) least
        have hb2 := htb i
        have hnext := hL (i + 1) ⟨by omega, by omega⟩ (by omega)
        rw [F.texts_take o gs 0 i hi, piece_eq, if_neg (by omega), hn, ← List.append_assoc] at hnext
        have a1 : (F.texts o 0 (gs.take i)).length + (wordO o).length ≤ 9223372036854775807 := by omega
        have a2 : (F.texts o 0 (gs.take i) ++ wordO o).length + (argT least gs[i]).length ≤ 9223372036854775807 := by rw [List.length_append]; omega
        simp (disch := omega) only [ir54p0, stepQ, List.map_cons, List.map_nil, List.cons_append, List.nil_append, List.append_nil, List.length_map, List.getElem?_cons_zero, List.getElem?_cons_succ, eq_self, aBin, aUn, reduceIte, Int.reduceEq, Int.reduceLT, Int.reduceLE, Int.reduceGT, Int.reduceGE, ev_lenL, hi, row_F, hr, a1, a2, wr, natS, hnext]
      · obtain rfl : i = gs.length := by omega
        rw [List.take_length]
        simp (disch := omega) only [ir54p0, stepQ, List.map_cons, List.map_nil, List.cons_append, List.nil_append, List.append_nil, List.length_map, List.getElem?_cons_zero, List.getElem?_cons_succ, eq_self, aBin, aUn, reduceIte, Int.reduceEq, Int.reduceLT, Int.reduceLE, Int.reduceGT, Int.reduceGE, ev_lenL, Nat.lt_irrefl])
  have h1 := F.texts_take o gs 0 0 h0
  rw [piece_eq, if_pos (by omega), hn, List.nil_append, List.take_zero] at h1
  have hk := key 1 ⟨by omega, by omega⟩
  rw [show (1 : Nat) = 0 + 1 from rfl, h1] at hk
  simp only [F.texts, List.nil_append, Nat.zero_add, Int.cast_ofNat_Int] at hk
  have hr := harg 0 h0
  simp (disch := omega) only [ir54, stepQ, List.map_cons, List.map_nil, List.cons_append, List.nil_append, List.append_nil, List.length_map, List.getElem?_cons_zero, List.getElem?_cons_succ, eq_self, aBin, aUn, reduceIte, Int.reduceEq, Int.reduceLT, Int.reduceLE, Int.reduceGT, Int.reduceGE, row_F0, hr, hk]
theorem text38_run : ∀ (f : F), f.size < 1000000 → good f = true → run tb 38 (rowF f) = some [.str (F.text f)] := by
  refine bySizeF fun f ih hs hg => ?_
  refine run_ir (x := ir38) rfl ?_
  have hse := F.size_eq f
  obtain ⟨hc, hn, hga⟩ := (good_iff f).1 hg
  rw [counted_eq] at hc
  have ht : ∀ g ∈ f.args, run tb 38 (rowF g) = some [.str (F.text g)] := fun g h => ih g h (by have := mem_size h; omega) (hga g h)
  have harg : ∀ i (h : i < f.args.length) (least : Int), run tb 53 (rowF f.args[i] ++ [.int .i64 least]) = some [.str (argT least f.args[i])] := fun i h least =>
    argument_run _ (hga _ (List.getElem_mem h)) (by have := mem_size (List.getElem_mem h); omega) least (ht _ (List.getElem_mem h))
  have hab : ∀ i (h : i < f.args.length) (least : Int), (argT least f.args[i]).length ≤ 20000002 := fun i h least =>
    argT_bound (hga _ (List.getElem_mem h)) (by have := mem_size (List.getElem_mem h); omega) least
  simp only [rowF, List.cons_append, List.nil_append] at harg
  rw [F.text_eq]
  by_cases h1 : f.op = 1
  · have hl : f.args = [] := by simpa [h1] using hc
    simp only [ir38, rowF, stepQ, List.map_cons, List.map_nil, List.cons_append, List.nil_append, List.append_nil, List.length_map, List.getElem?_cons_zero, List.getElem?_cons_succ, eq_self, aBin, aUn, reduceIte, Int.reduceEq, Int.reduceLT, Int.reduceLE, Int.reduceGT, Int.reduceGE, h1, hl, F.texts, headO, ibeq]
  by_cases h2 : f.op = 2
  · have hl : f.args = [] := by simpa [h2] using hc
    simp only [ir38, rowF, stepQ, List.map_cons, List.map_nil, List.cons_append, List.nil_append, List.append_nil, List.length_map, List.getElem?_cons_zero, List.getElem?_cons_succ, eq_self, aBin, aUn, reduceIte, Int.reduceEq, Int.reduceLT, Int.reduceLE, Int.reduceGT, Int.reduceGE, h2, hl, F.texts, headO, ibeq, if_false, Bool.false_eq_true]
  by_cases h3 : f.op = 3
  · have hl : f.args = [] := by simpa [h3] using hc
    simp only [ir38, rowF, stepQ, List.map_cons, List.map_nil, List.cons_append, List.nil_append, List.append_nil, List.length_map, List.getElem?_cons_zero, List.getElem?_cons_succ, eq_self, aBin, aUn, reduceIte, Int.reduceEq, Int.reduceLT, Int.reduceLE, Int.reduceGT, Int.reduceGE, h3, hl, F.texts, headO, ibeq, if_false, Bool.false_eq_true]
  by_cases h4 : f.op = 4
  · have hl : f.args.length = 1 := by simpa [h4] using hc
    have hr := harg 0 (by omega) 5
    have hb := hab 0 (by omega) 5
    have a1 : ([126] : List UInt8).length + (argT 5 f.args[0]).length ≤ 9223372036854775807 := by simp; omega
    have htx : F.texts f.op 0 f.args = argT 5 f.args[0] := by
      have h := F.texts_take f.op f.args 0 0 (by omega)
      rw [piece_eq, if_pos (by omega), List.take_of_length_le (by omega), List.nil_append, List.take_zero] at h
      rw [h, h4]; simp [F.texts, neededO]
    have hh : headO f.op f.name = [126] := by simp [headO, h4]
    rw [htx, hh]
    simp (disch := omega) only [ir38, rowF, stepQ, List.map_cons, List.map_nil, List.cons_append, List.nil_append, List.append_nil, List.length_map, List.getElem?_cons_zero, List.getElem?_cons_succ, eq_self, aBin, aUn, reduceIte, Int.reduceEq, Int.reduceLT, Int.reduceLE, Int.reduceGT, Int.reduceGE, h4, row_F0, hr, a1]
  have hj : ∀ (o : Int), (∀ i j : Int, neededO o i = neededO o j) → 0 < f.args.length → run tb 54 [.sl (F.encs f.args), .str (wordO o), .int .i64 (neededO o 0)] = some [.str (F.texts o 0 f.args)] := fun o hn h0 =>
    joined_run o (neededO o 0) (fun i => hn i 0) f.args h0 hga (by omega) ht
  by_cases h5 : f.op = 5
  · have hl : 2 ≤ f.args.length := by simp only [h5, Int.reduceEq, or_self, true_or, if_true, if_false, Bool.and_eq_true, decide_eq_true_eq] at hc; exact hc.1
    have hr := hj 5 (fun i j => rfl) (by omega)
    simp only [show wordO 5 = [32, 38, 32] from rfl, show neededO 5 0 = 5 from rfl] at hr
    have hh : headO f.op f.name = [] := by simp [headO, h5]
    rw [hh, h5]
    simp (disch := omega) only [ir38, rowF, stepQ, List.map_cons, List.map_nil, List.cons_append, List.nil_append, List.append_nil, List.length_map, List.getElem?_cons_zero, List.getElem?_cons_succ, eq_self, aBin, aUn, reduceIte, Int.reduceEq, Int.reduceLT, Int.reduceLE, Int.reduceGT, Int.reduceGE, h5, hr]
  by_cases h6 : f.op = 6
  · have hl : 2 ≤ f.args.length := by simp only [h6, Int.reduceEq, or_self, or_true, if_true, if_false, Bool.and_eq_true, decide_eq_true_eq] at hc; exact hc.1
    have hr := hj 6 (fun i j => rfl) (by omega)
    simp only [show wordO 6 = [32, 124, 32] from rfl, show neededO 6 0 = 4 from rfl] at hr
    have hh : headO f.op f.name = [] := by simp [headO, h6]
    rw [hh, h6]
    simp (disch := omega) only [ir38, rowF, stepQ, List.map_cons, List.map_nil, List.cons_append, List.nil_append, List.append_nil, List.length_map, List.getElem?_cons_zero, List.getElem?_cons_succ, eq_self, aBin, aUn, reduceIte, Int.reduceEq, Int.reduceLT, Int.reduceLE, Int.reduceGT, Int.reduceGE, h6, hr]
  by_cases h7 : f.op = 7
  · have hl : f.args.length = 2 := by simpa [h7] using hc
    have hr := harg 0 (by omega) 3
    have hb := hab 0 (by omega) 3
    have hr1 := harg 1 (by omega) 2
    have hb1 := hab 1 (by omega) 2
    have a1 : (argT 3 f.args[0]).length + ([32, 45, 62, 32] : List UInt8).length ≤ 9223372036854775807 := by simp; omega
    have a2 : (argT 3 f.args[0] ++ ([32, 45, 62, 32] : List UInt8)).length + (argT 2 f.args[1]).length ≤ 9223372036854775807 := by simp; omega
    have htx : F.texts f.op 0 f.args = argT 3 f.args[0] ++ ([32, 45, 62, 32] : List UInt8) ++ argT 2 f.args[1] := by
      have e1 := F.texts_take f.op f.args 0 0 (by omega)
      have e2 := F.texts_take f.op f.args 0 1 (by omega)
      rw [piece_eq, if_pos (by omega), List.nil_append, List.take_zero] at e1
      rw [piece_eq, if_neg (by omega), List.take_of_length_le (by omega)] at e2
      rw [e2, e1, h7]
      simp [F.texts, neededO, wordO]
    have hh : headO f.op f.name = [] := by simp [headO, h7]
    rw [htx, hh]
    simp (disch := omega) only [ir38, rowF, stepQ, List.map_cons, List.map_nil, List.cons_append, List.nil_append, List.append_nil, List.length_map, List.getElem?_cons_zero, List.getElem?_cons_succ, eq_self, aBin, aUn, reduceIte, Int.reduceEq, Int.reduceLT, Int.reduceLE, Int.reduceGT, Int.reduceGE, h7, row_F0, row_F1, hr, hr1, a1, a2]
  by_cases h8 : f.op = 8
  · have hl : f.args.length = 2 := by simpa [h8] using hc
    have hr := hj 8 (fun i j => rfl) (by omega)
    simp only [show wordO 8 = [32, 60, 45, 62, 32] from rfl, show neededO 8 0 = 2 from rfl] at hr
    have hh : headO f.op f.name = [] := by simp [headO, h8]
    rw [hh, h8]
    simp (disch := omega) only [ir38, rowF, stepQ, List.map_cons, List.map_nil, List.cons_append, List.nil_append, List.append_nil, List.length_map, List.getElem?_cons_zero, List.getElem?_cons_succ, eq_self, aBin, aUn, reduceIte, Int.reduceEq, Int.reduceLT, Int.reduceLE, Int.reduceGT, Int.reduceGE, h8, hr]
  simp [h1, h2, h3, h4, h5, h6, h7, h8] at hc
theorem format13_run (f : F) (hs : f.size < 1000000000) (hnb : F.allF nameB f = true) : run tb 13 (rowF f) = some [.str (formatS f), .int .i64 (formatE f)] := by
  refine run_ir (x := ir13) rfl ?_
  have h1 := validate19_run f hs hnb
  simp only [rowF] at h1
  unfold formatS formatE
  by_cases h : validate f = 0
  · obtain ⟨hg, hsz, _⟩ := valid_good h
    have h2 := text38_run f (by omega) hg
    simp only [rowF] at h2
    have hb : (validate f != 0) = false := by simp [h]
    by_cases hl : ((F.text f).length : Int) > 4096
    · simp (disch := omega) only [ir13, rowF, stepQ, List.map_cons, List.map_nil, List.cons_append, List.nil_append, List.append_nil, List.length_map, List.getElem?_cons_zero, List.getElem?_cons_succ, eq_self, aBin, aUn, reduceIte, Int.reduceEq, Int.reduceLT, Int.reduceLE, Int.reduceGT, Int.reduceGE, h1, ibne, h, h2, hl, if_true, if_false, Bool.false_eq_true]
    · simp (disch := omega) only [ir13, rowF, stepQ, List.map_cons, List.map_nil, List.cons_append, List.nil_append, List.append_nil, List.length_map, List.getElem?_cons_zero, List.getElem?_cons_succ, eq_self, aBin, aUn, reduceIte, Int.reduceEq, Int.reduceLT, Int.reduceLE, Int.reduceGT, Int.reduceGE, h1, ibne, h, h2, hl, if_true, if_false, Bool.false_eq_true]
  · simp (disch := omega) only [ir13, rowF, stepQ, List.map_cons, List.map_nil, List.cons_append, List.nil_append, List.append_nil, List.length_map, List.getElem?_cons_zero, List.getElem?_cons_succ, eq_self, aBin, aUn, reduceIte, Int.reduceEq, Int.reduceLT, Int.reduceLE, Int.reduceGT, Int.reduceGE, h1, ibne, h, if_true]
theorem format12_run (f : F) (hs : f.size < 1000000000) (hd : f.depth < 1000) : run tb 12 (rowF f) = some [.str (formatS f), .int .i64 (formatE f)] := by
  refine run_ext (E := fmtE) rfl ?_
  unfold fmtE
  rw [show rowF f = f.enc from (F.enc_eq f).symm, F.decN_enc f _ hd]
  simp only [show f.size < 4611686018427387904 by omega, if_true]
end Go.Proofs.YtgmnlkjoiakoaaaDoor

namespace Go.Proofs.YtgmnlkjoiakoaaaDoor
open Go Am
set_option maxRecDepth 100000
set_option linter.unusedSimpArgs false
set_option linter.unusedVariables false
def FitT (f : F) : Prop := f.size ≤ 1000 ∧ f.depth ≤ 100 ∧ F.allF nameB f = true
theorem encs_4t (a b c d : F) : F.encs [a, b, c, d] = [rowF a, rowF b, rowF c, rowF d] := by simp [F.encs, F.enc_eq]
theorem texts_run (l0 : List Int) (raw : F) (aw : run tb 20 [] = some [.bool true]) : run tb 0 (rowF raw ++ [numsD l0]) = some [.bool true] := by
  refine run_ir (x := ir0) rfl ?_
  have r1 := small_run raw
  simp only [rowF] at r1
  by_cases c1 : smallF raw = true
  case neg =>
    have c1' : smallF raw = false := by simpa using c1
    rw [c1'] at r1
    simp (disch := omega) only [ir0, rowF, stepQ, List.map_cons, List.map_nil, List.cons_append, List.nil_append, List.append_nil, List.length_map, List.getElem?_cons_zero, List.getElem?_cons_succ, eq_self, aBin, aUn, reduceIte, Int.reduceEq, Int.reduceLT, Int.reduceLE, Int.reduceGT, Int.reduceGE, r1]
  rw [c1] at r1
  simp only [smallF, Bool.and_eq_true, decide_eq_true_eq] at c1
  obtain ⟨l, hl, hn⟩ := new_run l0
  obtain ⟨good, p, hp, hg, hrg⟩ := formula_run 4 (by omega) (by omega) l hl 4 (by omega) 0 (by omega)
  have sg : good.size ≤ 1024 := hg.2.2.1
  have dg : good.depth ≤ 4 := hg.2.1
  have lg := good_lenB hg.1
  have mono : ∀ (M : Nat), M < 1000000 → ∀ f, F.allF (lenB M) f = true → F.allF nameB f = true := fun M hM f hf => allF_mono (fun g hg => by simp only [lenB, decide_eq_true_eq] at hg; exact decide_eq_true (by omega)) f hf
  have l100 : F.allF (lenB 100) good = true := allF_mono (fun g hg => by simp only [lenB, decide_eq_true_eq] at hg ⊢; omega) good lg
  obtain ⟨sp, q, hq, ⟨s1, s2, s3⟩, hrs⟩ := spoilt_run l hl good (by omega) (mono 12 (by omega) _ lg) p hp
  have l1 := s3 100 (by omega) l100
  obtain ⟨st, u, hu, ⟨t1, t2, t3⟩, hrt⟩ := spoilt_run l hl good (by omega) (mono 12 (by omega) _ lg) q hq
  have l2 := t3 100 (by omega) l100
  obtain ⟨sv, v, hv, ⟨v1, v2, v3⟩, hrv⟩ := spoilt_run l hl st (by omega) (mono 101 (by omega) _ l2) u hu
  have l3 := v3 101 (by omega) l2
  have nraw : F.allF nameB raw = true := allF_mono (fun g hg => by simp only [shortB, decide_eq_true_eq] at hg; exact decide_eq_true (by omega)) raw c1.2.2
  have hall : ∀ f ∈ [raw, good, sp, sv], f.size ≤ 1100 ∧ f.depth ≤ 100 ∧ F.allF nameB f = true := by
    intro f hf
    simp only [List.mem_cons, List.not_mem_nil, or_false] at hf
    rcases hf with rfl | rfl | rfl | rfl
    · exact ⟨by omega, by omega, nraw⟩
    · exact ⟨by omega, by omega, mono 12 (by omega) _ lg⟩
    · exact ⟨by omega, by omega, mono 101 (by omega) _ l1⟩
    · exact ⟨by omega, by omega, mono 102 (by omega) _ l3⟩
  have hmk : PO.eval (.mk 3 4) (rowF raw ++ rowF good ++ rowF sp ++ rowF sv) = some [.sl (F.encs [raw, good, sp, sv])] := by rw [encs_4t]; rfl
  have hlen : PO.eval .lenL [.sl (F.encs [raw, good, sp, sv])] = some [.int .i64 4] := by rw [len_F]; rfl
  have h4 : [raw, good, sp, sv].length = 4 := rfl
  generalize [raw, good, sp, sv] = fs at hall hmk hlen h4
  have key := loop_k (run := run tb) (body := ir0p1) (e := rowF raw ++ [numsD l0, .bool true, .bool false, numsD l, .int .i64 0] ++ rowF good ++ [numsD l, .int .i64 p] ++ rowF sp ++ [numsD l, .int .i64 q] ++ rowF st ++ [numsD l, .int .i64 u] ++ rowF sv ++ [numsD l, .int .i64 v, .sl (F.encs fs), .int .i64 4]) (J := []) (σ := Unit) 4
    (fun _ _ => True) (fun i _ => [.int .i64 i]) (fun _ _ => [.bool true])
    (by
      rintro i _ L hi _ hL
      have hnext := hL () trivial
      have hi' : i < fs.length := by omega
      have hi4 : (i : Int) < 4 := by omega
      obtain ⟨f1, f2, f3⟩ := hall _ (List.getElem_mem hi')
      have hget := get_F hi'
      have hchk := chk_F hi'
      generalize fs[i] = f at hget f1 f2 f3
      have a1 := format12_run f (by omega) (by omega)
      have a2 := format13_run f (by omega) f3
      have a3 := size14_run f (by omega)
      have a4 := size15_run f (by omega)
      have a5 := depth16_run f (by omega)
      have a6 := depth17_run f (by omega)
      have a7 := validate18_run f (by omega)
      have a8 := validate19_run f (by omega) f3
      have hb : (formatS f == formatS f) = true := by simp
      simp only [rowF, Int.cast_ofNat_Int, nat0, List.cons_append, List.nil_append] at hget a1 a2 a3 a4 a5 a6 a7 a8
      simp (disch := omega) only [ir0p1, ir0p0, rowF, stepQ, List.map_cons, List.map_nil, List.cons_append, List.nil_append, List.append_nil, List.length_map, List.getElem?_cons_zero, List.getElem?_cons_succ, eq_self, aBin, aUn, reduceIte, Int.reduceEq, Int.reduceLT, Int.reduceLE, Int.reduceGT, Int.reduceGE, hi4, hchk, hget, a1, a2, a3, a4, a5, a6, a7, a8, ibne, hb, wr, natS, hnext])
    (by
      rintro _ L _
      simp (disch := omega) only [ir0p1, rowF, stepQ, List.map_cons, List.map_nil, List.cons_append, List.nil_append, List.append_nil, List.length_map, List.getElem?_cons_zero, List.getElem?_cons_succ, eq_self, aBin, aUn, reduceIte, Int.reduceEq, Int.reduceLT, Int.reduceLE, Int.reduceGT, Int.reduceGE, aw])
  have hk := key 0 () (by omega) trivial
  simp only [rowF, Int.cast_ofNat_Int, nat0, List.cons_append, List.nil_append] at hrg hrs hrt hrv hk hmk
  simp (disch := omega) only [ir0, rowF, stepQ, List.map_cons, List.map_nil, List.cons_append, List.nil_append, List.append_nil, List.length_map, List.getElem?_cons_zero, List.getElem?_cons_succ, eq_self, aBin, aUn, reduceIte, Int.reduceEq, Int.reduceLT, Int.reduceLE, Int.reduceGT, Int.reduceGE, r1, hn, hrg, hrs, hrt, hrv, hmk, hlen, hk]
theorem formulaTexts_true (I : List (List D)) (hI : Ins Tryd.prog Tryd.f3.params.toList I) : run tb 0 I.flatten = some [.bool true] := by
  rw [Tryd.params3] at hI
  obtain _ | ⟨n1, h1, _, hI⟩ := hI
  obtain _ | ⟨n2, h2, _, hI⟩ := hI
  cases hI
  obtain ⟨raw, rfl⟩ := wt_form _ _ (Nat.le_refl _) _ h1
  obtain ⟨l, rfl, _⟩ := wt_ints h2
  exact texts_run l raw awake_run
end Go.Proofs.YtgmnlkjoiakoaaaDoor
