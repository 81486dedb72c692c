/- What functions of the program compute: lemmas. -/
import Derived.Test.YtccjhfmemghccaaDoorLb1
import Derived.Test.YtccjhfmemghccaaDoorPs
set_option linter.unusedSimpArgs false
set_option linter.unusedVariables false
set_option linter.unusedSectionVars false
namespace Go.Proofs.YtccjhfmemghccaaDoor
open Go Am
set_option maxRecDepth 100000
theorem strength_run (f : F) : run tb 36 (rowF f) = some [.int .i64 (strength f)] := by
 refine run_ir (x := ir36) rfl ?_
 unfold strength
 simp only [ibeq, decide_eq_true_eq]
 by_cases h8 : f.op = 8
 · simp only [ir36, rowF, stepQ, stepL, eq_self, aBin, reduceIte, Int.reduceEq, Int.reduceLT, Int.reduceLE, Int.reduceGT, Int.reduceGE, List.cons_append, List.nil_append, List.append_nil, h8]
 by_cases h7 : f.op = 7
 · simp only [ir36, rowF, stepQ, stepL, eq_self, aBin, reduceIte, Int.reduceEq, Int.reduceLT, Int.reduceLE, Int.reduceGT, Int.reduceGE, List.cons_append, List.nil_append, List.append_nil, h7]
 by_cases h6 : f.op = 6
 · simp only [ir36, rowF, stepQ, stepL, eq_self, aBin, reduceIte, Int.reduceEq, Int.reduceLT, Int.reduceLE, Int.reduceGT, Int.reduceGE, List.cons_append, List.nil_append, List.append_nil, h6]
 by_cases h5 : f.op = 5
 · simp only [ir36, rowF, stepQ, stepL, eq_self, aBin, reduceIte, Int.reduceEq, Int.reduceLT, Int.reduceLE, Int.reduceGT, Int.reduceGE, List.cons_append, List.nil_append, List.append_nil, h5]
 simp only [ir36, rowF, stepQ, stepL, eq_self, aBin, reduceIte, Int.reduceEq, Int.reduceLT, Int.reduceLE, Int.reduceGT, Int.reduceGE, List.cons_append, List.nil_append, List.append_nil, h8, h7, h6, h5]
theorem text_bound {g : F} (hg : good g = true) (hs : g.size < 1000000) : (F.text g).length ≤ 20000000 := by
 have := text_le g (by simp only [good, Bool.and_eq_true] at hg; exact hg.2)
 omega
theorem argT_bound {g : F} (hg : good g = true) (hs : g.size < 1000000) (least : Int) : (argT least g).length ≤ 20000002 := by
 have := text_bound hg hs
 unfold argT
 split
 · simp; omega
 · omega
theorem argument_run (g : F) (hg : good g = true) (hs : g.size < 1000000) (least : Int) (ht : run tb 14 (rowF g) = some [.str (F.text g)]) : run tb 28 (rowF g ++ [.int .i64 least]) = some [.str (argT least g)] := by
 refine run_ir (x := ir28) rfl ?_
 have h1 := strength_run g
 have hb := text_bound hg hs
 have a1 : ([40] : List UInt8).length + (F.text g).length ≤ 9223372036854775807 := by simp; omega
 have a2 : (40 :: F.text g).length + ([41] : List UInt8).length ≤ 9223372036854775807 := by simp; omega
 unfold argT
 simp only [rowF] at h1 ht
 by_cases h : strength g < least
 · simp only [ir28, rowF, stepQ, stepL, eq_self, aBin, reduceIte, Int.reduceEq, Int.reduceLT, Int.reduceLE, Int.reduceGT, Int.reduceGE, List.cons_append, List.nil_append, List.append_nil, h1, h, ht, a1, a2]
 · simp only [ir28, rowF, stepQ, stepL, eq_self, aBin, reduceIte, Int.reduceEq, Int.reduceLT, Int.reduceLE, Int.reduceGT, Int.reduceGE, List.cons_append, List.nil_append, List.append_nil, h1, h, ht]
theorem joined_run (o least : Int) (hn : ∀ i : Int, neededO o i = least) (gs : List F) (h0 : 0 < gs.length) (hg : ∀ g ∈ gs, good g = true) (hs : F.sizes gs < 1000000)
 (ht : ∀ g ∈ gs, run tb 14 (rowF g) = some [.str (F.text g)]) : run tb 29 [.sl (F.encs gs), .str (wordO o), .int .i64 least] = some [.str (F.texts o 0 gs)] := by
 refine run_ir (x := ir29) rfl ?_
 have hsz : ∀ g ∈ gs, g.size < 1000000 := fun g hg => by
  obtain ⟨i, hi, rfl⟩ := List.getElem_of_mem hg
  have := F.sizes_take gs i hi
  have := F.sizes_take_le gs (i + 1)
  omega
 have harg : ∀ i (h : i < gs.length), run tb 28 (rowF gs[i] ++ [.int .i64 least]) = some [.str (argT least gs[i])] := fun i h =>
  argument_run _ (hg _ (List.getElem_mem h)) (hsz _ (List.getElem_mem h)) least (ht _ (List.getElem_mem h))
 have hw : (wordO o).length ≤ 5 := wordO_le o
 have hlen : gs.length ≤ F.sizes gs := F.sizes_len gs
 have htb : ∀ i, (F.texts o 0 (gs.take i)).length ≤ 20000000 := fun i => by
  have := texts_le o 0 (gs.take i) (by
   rw [allFs_all, List.all_eq_true]
   intro x hx
   have := hg x (List.mem_of_mem_take hx)
   simp only [good, Bool.and_eq_true] at this
   exact this.2)
  have h2 := F.sizes_take_le gs i
  omega
 simp only [rowF, List.cons_append, List.nil_append] at harg
 have key := loop_km (run := run tb) (body := ir29p0) (e := [.sl (F.encs gs), .str (wordO o), .int .i64 least, .int .i64 gs[0].op, .str gs[0].name, .sl (F.encs gs[0].args), .str (argT least gs[0])]) (J := []) (ι := Nat) (fun i => gs.length - i)
  (fun i => 1 ≤ i ∧ i ≤ gs.length) (fun i => [.str (F.texts o 0 (gs.take i)), .int .i64 i]) (fun _ => [.str (F.texts o 0 gs)])
  (by
   rintro i L ⟨h1, h2⟩ hL
   by_cases hi : i < gs.length
   · have hr := harg i hi
     have hb := argT_bound (hg _ (List.getElem_mem hi)) (hsz _ (List.getElem_mem hi)) least
     have hb2 := htb i
     have hnext := hL (i + 1) ⟨by omega, by omega⟩ (by omega)
     rw [F.texts_take o gs 0 i hi, piece_eq, if_neg (by omega), hn, ← List.append_assoc] at hnext
     have a1 : (F.texts o 0 (gs.take i)).length + (wordO o).length ≤ 9223372036854775807 := by omega
     have a2 : (F.texts o 0 (gs.take i) ++ wordO o).length + (argT least gs[i]).length ≤ 9223372036854775807 := by rw [List.length_append]; omega
     simp (disch := omega) only [ir29p0, stepQ, stepL, eq_self, aBin, reduceIte, Int.reduceEq, Int.reduceLT, Int.reduceLE, Int.reduceGT, Int.reduceGE, List.cons_append, List.nil_append, List.append_nil, ev_lenL, hi, row_F, hr, a1, a2, wr, natS, hnext]
   · obtain rfl : i = gs.length := by omega
     rw [List.take_length]
     simp (disch := omega) only [ir29p0, stepQ, stepL, eq_self, aBin, reduceIte, Int.reduceEq, Int.reduceLT, Int.reduceLE, Int.reduceGT, Int.reduceGE, List.cons_append, List.nil_append, List.append_nil, ev_lenL, Nat.lt_irrefl])
 have h1 := F.texts_take o gs 0 0 h0
 rw [piece_eq, if_pos (by omega), hn, List.nil_append, List.take_zero] at h1
 have hk := key 1 ⟨by omega, by omega⟩
 rw [show (1 : Nat) = 0 + 1 from rfl, h1] at hk
 simp only [F.texts, List.nil_append, Nat.zero_add, Int.cast_ofNat_Int] at hk
 have hr := harg 0 h0
 simp (disch := omega) only [ir29, stepQ, stepL, eq_self, aBin, reduceIte, Int.reduceEq, Int.reduceLT, Int.reduceLE, Int.reduceGT, Int.reduceGE, List.cons_append, List.nil_append, List.append_nil, row_F0, hr, hk]
theorem text38_run : ∀ (f : F), f.size < 1000000 → good f = true → run tb 14 (rowF f) = some [.str (F.text f)] := by
 refine bySizeF fun f ih hs hg => ?_
 refine run_ir (x := ir14) rfl ?_
 have hse := F.size_eq f
 obtain ⟨hc, hn, hga⟩ := (good_iff f).1 hg
 rw [counted_eq] at hc
 have ht : ∀ g ∈ f.args, run tb 14 (rowF g) = some [.str (F.text g)] := fun g h => ih g h (by have := mem_size h; omega) (hga g h)
 have harg : ∀ i (h : i < f.args.length) (least : Int), run tb 28 (rowF f.args[i] ++ [.int .i64 least]) = some [.str (argT least f.args[i])] := fun i h least =>
  argument_run _ (hga _ (List.getElem_mem h)) (by have := mem_size (List.getElem_mem h); omega) least (ht _ (List.getElem_mem h))
 have hab : ∀ i (h : i < f.args.length) (least : Int), (argT least f.args[i]).length ≤ 20000002 := fun i h least =>
  argT_bound (hga _ (List.getElem_mem h)) (by have := mem_size (List.getElem_mem h); omega) least
 simp only [rowF, List.cons_append, List.nil_append] at harg
 rw [F.text_eq]
 by_cases h1 : f.op = 1
 · have hl : f.args = [] := by simpa [h1] using hc
   simp only [ir14, rowF, stepQ, stepL, eq_self, aBin, reduceIte, Int.reduceEq, Int.reduceLT, Int.reduceLE, Int.reduceGT, Int.reduceGE, List.cons_append, List.nil_append, List.append_nil, h1, hl, F.texts, headO, ibeq]
 by_cases h2 : f.op = 2
 · have hl : f.args = [] := by simpa [h2] using hc
   simp only [ir14, rowF, stepQ, stepL, eq_self, aBin, reduceIte, Int.reduceEq, Int.reduceLT, Int.reduceLE, Int.reduceGT, Int.reduceGE, List.cons_append, List.nil_append, List.append_nil, h2, hl, F.texts, headO, ibeq, if_false, Bool.false_eq_true]
 by_cases h3 : f.op = 3
 · have hl : f.args = [] := by simpa [h3] using hc
   simp only [ir14, rowF, stepQ, stepL, eq_self, aBin, reduceIte, Int.reduceEq, Int.reduceLT, Int.reduceLE, Int.reduceGT, Int.reduceGE, List.cons_append, List.nil_append, List.append_nil, h3, hl, F.texts, headO, ibeq, if_false, Bool.false_eq_true]
 by_cases h4 : f.op = 4
 · have hl : f.args.length = 1 := by simpa [h4] using hc
   have hr := harg 0 (by omega) 5
   have hb := hab 0 (by omega) 5
   have a1 : ([126] : List UInt8).length + (argT 5 f.args[0]).length ≤ 9223372036854775807 := by simp; omega
   have htx : F.texts f.op 0 f.args = argT 5 f.args[0] := by
    have h := F.texts_take f.op f.args 0 0 (by omega)
    rw [piece_eq, if_pos (by omega), List.take_of_length_le (by omega), List.nil_append, List.take_zero] at h
    rw [h, h4]; simp [F.texts, neededO]
   have hh : headO f.op f.name = [126] := by simp [headO, h4]
   rw [htx, hh]
   simp (disch := omega) only [ir14, rowF, stepQ, stepL, eq_self, aBin, reduceIte, Int.reduceEq, Int.reduceLT, Int.reduceLE, Int.reduceGT, Int.reduceGE, List.cons_append, List.nil_append, List.append_nil, h4, row_F0, hr, a1]
 have hj : ∀ (o : Int), (∀ i j : Int, neededO o i = neededO o j) → 0 < f.args.length → run tb 29 [.sl (F.encs f.args), .str (wordO o), .int .i64 (neededO o 0)] = some [.str (F.texts o 0 f.args)] := fun o hn h0 =>
  joined_run o (neededO o 0) (fun i => hn i 0) f.args h0 hga (by omega) ht
 by_cases h5 : f.op = 5
 · have hl : 2 ≤ f.args.length := by simp only [h5, Int.reduceEq, or_self, true_or, if_true, if_false, Bool.and_eq_true, decide_eq_true_eq] at hc; exact hc.1
   have hr := hj 5 (fun i j => rfl) (by omega)
   simp only [show wordO 5 = [32, 38, 32] from rfl, show neededO 5 0 = 5 from rfl] at hr
   have hh : headO f.op f.name = [] := by simp [headO, h5]
   rw [hh, h5]
   simp (disch := omega) only [ir14, rowF, stepQ, stepL, eq_self, aBin, reduceIte, Int.reduceEq, Int.reduceLT, Int.reduceLE, Int.reduceGT, Int.reduceGE, List.cons_append, List.nil_append, List.append_nil, h5, hr]
 by_cases h6 : f.op = 6
 · have hl : 2 ≤ f.args.length := by simp only [h6, Int.reduceEq, or_self, or_true, if_true, if_false, Bool.and_eq_true, decide_eq_true_eq] at hc; exact hc.1
   have hr := hj 6 (fun i j => rfl) (by omega)
   simp only [show wordO 6 = [32, 124, 32] from rfl, show neededO 6 0 = 4 from rfl] at hr
   have hh : headO f.op f.name = [] := by simp [headO, h6]
   rw [hh, h6]
   simp (disch := omega) only [ir14, rowF, stepQ, stepL, eq_self, aBin, reduceIte, Int.reduceEq, Int.reduceLT, Int.reduceLE, Int.reduceGT, Int.reduceGE, List.cons_append, List.nil_append, List.append_nil, h6, hr]
 by_cases h7 : f.op = 7
 · have hl : f.args.length = 2 := by simpa [h7] using hc
   have hr := harg 0 (by omega) 3
   have hb := hab 0 (by omega) 3
   have hr1 := harg 1 (by omega) 2
   have hb1 := hab 1 (by omega) 2
   have a1 : (argT 3 f.args[0]).length + ([32, 45, 62, 32] : List UInt8).length ≤ 9223372036854775807 := by simp; omega
   have a2 : (argT 3 f.args[0] ++ ([32, 45, 62, 32] : List UInt8)).length + (argT 2 f.args[1]).length ≤ 9223372036854775807 := by simp; omega
   have htx : F.texts f.op 0 f.args = argT 3 f.args[0] ++ ([32, 45, 62, 32] : List UInt8) ++ argT 2 f.args[1] := by
    have e1 := F.texts_take f.op f.args 0 0 (by omega)
    have e2 := F.texts_take f.op f.args 0 1 (by omega)
    rw [piece_eq, if_pos (by omega), List.nil_append, List.take_zero] at e1
    rw [piece_eq, if_neg (by omega), List.take_of_length_le (by omega)] at e2
    rw [e2, e1, h7]
    simp [F.texts, neededO, wordO]
   have hh : headO f.op f.name = [] := by simp [headO, h7]
   rw [htx, hh]
   simp (disch := omega) only [ir14, rowF, stepQ, stepL, eq_self, aBin, reduceIte, Int.reduceEq, Int.reduceLT, Int.reduceLE, Int.reduceGT, Int.reduceGE, List.cons_append, List.nil_append, List.append_nil, h7, row_F0, row_F1, hr, hr1, a1, a2]
 by_cases h8 : f.op = 8
 · have hl : f.args.length = 2 := by simpa [h8] using hc
   have hr := hj 8 (fun i j => rfl) (by omega)
   simp only [show wordO 8 = [32, 60, 45, 62, 32] from rfl, show neededO 8 0 = 2 from rfl] at hr
   have hh : headO f.op f.name = [] := by simp [headO, h8]
   rw [hh, h8]
   simp (disch := omega) only [ir14, rowF, stepQ, stepL, eq_self, aBin, reduceIte, Int.reduceEq, Int.reduceLT, Int.reduceLE, Int.reduceGT, Int.reduceGE, List.cons_append, List.nil_append, List.append_nil, h8, hr]
 simp [h1, h2, h3, h4, h5, h6, h7, h8] at hc
theorem format13_run (f : F) (hs : f.size < 1000000000) (hnb : F.allF nameB f = true) : run tb 4 (rowF f) = some [.str (formatS f), .int .i64 (formatE f)] := by
 refine run_ir (x := ir4) rfl ?_
 have h1 := validate19_run f hs hnb
 simp only [rowF] at h1
 unfold formatS formatE
 by_cases h : validate f = 0
 · obtain ⟨hg, hsz, _⟩ := valid_good h
   have h2 := text38_run f (by omega) hg
   simp only [rowF] at h2
   have hb : (validate f != 0) = false := by simp [h]
   by_cases hl : ((F.text f).length : Int) > 4096
   · simp (disch := omega) only [ir4, rowF, stepQ, stepL, eq_self, aBin, reduceIte, Int.reduceEq, Int.reduceLT, Int.reduceLE, Int.reduceGT, Int.reduceGE, List.cons_append, List.nil_append, List.append_nil, h1, ibne, h, h2, hl, if_true, if_false, Bool.false_eq_true]
   · simp (disch := omega) only [ir4, rowF, stepQ, stepL, eq_self, aBin, reduceIte, Int.reduceEq, Int.reduceLT, Int.reduceLE, Int.reduceGT, Int.reduceGE, List.cons_append, List.nil_append, List.append_nil, h1, ibne, h, h2, hl, if_true, if_false, Bool.false_eq_true]
 · simp (disch := omega) only [ir4, rowF, stepQ, stepL, eq_self, aBin, reduceIte, Int.reduceEq, Int.reduceLT, Int.reduceLE, Int.reduceGT, Int.reduceGE, List.cons_append, List.nil_append, List.append_nil, h1, ibne, h, if_true]
theorem format12_run (f : F) (hs : f.size < 1000000000) (hd : f.depth < 1000) : run tb 12 (rowF f) = some [.str (formatS f), .int .i64 (formatE f)] := by
 refine run_ext (E := fmtE) rfl ?_
 unfold fmtE
 rw [show rowF f = f.enc from (F.enc_eq f).symm, F.decN_enc f _ hd]
 simp only [show f.size < 4611686018427387904 by omega, if_true]
end Go.Proofs.YtccjhfmemghccaaDoor
