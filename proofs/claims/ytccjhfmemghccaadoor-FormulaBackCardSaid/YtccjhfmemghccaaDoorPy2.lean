/- What functions of the program compute: lemmas. -/
import Derived.Test.YtccjhfmemghccaaDoorPx3
import Derived.Test.YtccjhfmemghccaaDoorPlTx
set_option linter.unusedSimpArgs false
set_option linter.unusedVariables false
set_option linter.unusedSectionVars false
namespace Go.Proofs.YtccjhfmemghccaaDoor
open Go Am
set_option maxRecDepth 100000
def oneB (f : F) : Bool := decide (f.op ≠ 3 ∨ f.name.length = 1)
theorem text_four : ∀ n : Nat, ∀ f : F, f.size ≤ n → good f = true → F.allF oneB f = true → (argT 5 f).length + 3 ≤ 4 * f.size := by
 intro n
 induction n with
 | zero => intro f h; have := F.size_pos f; omega
 | succ n ih =>
  intro f hs hg ho
  obtain ⟨o, nm, a⟩ := f
  obtain ⟨hc, hn, ha⟩ := good_mk' hg
  have ho' := ho
  rw [F.allF_eq] at ho'
  simp only [Bool.and_eq_true] at ho'
  have hone : ∀ g ∈ a, F.allF oneB g = true := fun g hm => by
   have := ho'.2
   rw [allFs_all, List.all_eq_true] at this
   exact this g hm
  have hb : ∀ g ∈ a, (argT 5 g).length + 3 ≤ 4 * g.size := fun g hm => by
   obtain ⟨i, hi, rfl⟩ := List.getElem_of_mem hm
   have := F.size_arg (F.mk o nm a) i hi
   exact ih _ (by simp only [F.args] at this; omega) (ha _ hm) (hone _ hm)
  have hle : ∀ (least : Int) (g : F), least ≤ 5 → (argT least g).length ≤ (argT 5 g).length := fun least g hl => by
   unfold argT
   split
   · rw [if_pos (by omega)]; exact Nat.le_refl _
   · split
     · simp; omega
     · exact Nat.le_refl _
  have htx : ∀ (gs : List F) (i : Nat), 0 < i → (∀ g ∈ gs, (argT 5 g).length + 3 ≤ 4 * g.size) → (o = 5 ∨ o = 6) → (F.texts o i gs).length ≤ 4 * F.sizes gs := by
   intro gs
   induction gs with
   | nil => intro i hi h ho; simp [F.texts, F.sizes]
   | cons g gs ihg =>
    intro i hi h ho
    rw [F.texts_cons, piece_eq, if_neg (by omega)]
    have h1 := ihg (i + 1) (by omega) (fun g hm => h g (by simp [hm])) ho
    have h2 := h g (by simp)
    have h3 := hle (neededO o i) g (by rcases ho with rfl | rfl <;> simp [neededO])
    have h4 : (wordO o).length = 3 := by rcases ho with rfl | rfl <;> rfl
    simp only [List.length_append, F.sizes]
    omega
  have harg : (argT 5 (F.mk o nm a)).length ≤ (F.text (F.mk o nm a)).length + 2 := by
   unfold argT; split <;> simp
  have hop : o = 1 ∨ o = 2 ∨ o = 3 ∨ o = 4 ∨ o = 5 ∨ o = 6 ∨ o = 7 ∨ o = 8 := by
   simp only [counted, F.op] at hc
   by_cases h1 : o = 1; · exact .inl h1
   by_cases h2 : o = 2; · exact .inr (.inl h2)
   by_cases h3 : o = 3; · exact .inr (.inr (.inl h3))
   by_cases h4 : o = 4; · simp [h4]
   by_cases h5 : o = 5; · simp [h5]
   by_cases h6 : o = 6; · simp [h6]
   by_cases h7 : o = 7; · simp [h7]
   by_cases h8 : o = 8; · simp [h8]
   simp [h1, h2, h3, h4, h5, h6, h7, h8] at hc
  have low : ∀ {o : Int} {nm a}, o = 1 ∨ o = 2 ∨ o = 3 ∨ o = 4 → argT 5 (F.mk o nm a) = F.text (F.mk o nm a) := fun h => by
   unfold argT
   rw [if_neg]
   rcases h with rfl | rfl | rfl | rfl <;> simp [strength, F.op]
  rcases hop with rfl | rfl | rfl | rfl | rfl | rfl | rfl | rfl
  · have h0 : a = [] := by simpa [counted, F.op, F.args] using hc
    subst h0
    rw [low (.inl rfl)]
    simp [F.text, F.texts, headO, F.size, F.sizes]
  · have h0 : a = [] := by simpa [counted, F.op, F.args] using hc
    subst h0
    rw [low (.inr (.inl rfl))]
    simp [F.text, F.texts, headO, F.size, F.sizes]
  · have h0 : a = [] := by simpa [counted, F.op, F.args] using hc
    subst h0
    have h1 : nm.length = 1 := by
     have := ho'.1
     simpa [oneB, F.op, F.name] using this
    rw [low (.inr (.inr (.inl rfl)))]
    simp [F.text, F.texts, headO, F.size, F.sizes, h1]
  · obtain ⟨g, rfl⟩ : ∃ g, a = [g] := by
     have : a.length = 1 := by simp [counted, F.op, F.args] at hc; omega
     exact List.length_eq_one_iff.1 this
    have ht : F.text (F.mk 4 nm [g]) = 126 :: argT 5 g := by
     rw [F.text_eq]
     show headO 4 nm ++ F.texts 4 0 [g] = _
     rw [texts_0]
     simp [headO, F.texts, neededO]
    have := hb g (by simp)
    rw [low (.inr (.inr (.inr rfl))), ht]
    simp only [F.size, F.sizes, List.length_cons]
    omega
  · obtain ⟨g, gs, rfl⟩ : ∃ g gs, a = g :: gs := by
     match a, hc with
     | g :: gs, _ => exact ⟨g, gs, rfl⟩
    have ht : F.text (F.mk 5 nm (g :: gs)) = F.texts 5 0 (g :: gs) := by rw [F.text_eq]; rfl
    have h1 := hb g (by simp)
    have h2 := htx gs 1 (by omega) (fun g hm => hb g (by simp [hm])) (.inl rfl)
    have h3 := hle (neededO 5 0) g (by simp [neededO])
    rw [ht, texts_0] at harg
    simp only [List.length_append, F.size, F.sizes] at harg ⊢
    omega
  · obtain ⟨g, gs, rfl⟩ : ∃ g gs, a = g :: gs := by
     match a, hc with
     | g :: gs, _ => exact ⟨g, gs, rfl⟩
    have ht : F.text (F.mk 6 nm (g :: gs)) = F.texts 6 0 (g :: gs) := by rw [F.text_eq]; rfl
    have h1 := hb g (by simp)
    have h2 := htx gs 1 (by omega) (fun g hm => hb g (by simp [hm])) (.inr rfl)
    have h3 := hle (neededO 6 0) g (by simp [neededO])
    rw [ht, texts_0] at harg
    simp only [List.length_append, F.size, F.sizes] at harg ⊢
    omega
  · have hl : a.length = 2 := by simp [counted, F.op, F.args] at hc; omega
    obtain ⟨g, g2, rfl⟩ : ∃ g g2, a = [g, g2] := by
     match a, hl with
     | [g, g2], _ => exact ⟨g, g2, rfl⟩
    have ht : F.text (F.mk 7 nm [g, g2]) = argT 3 g ++ (32 :: 45 :: 62 :: 32 :: argT 2 g2) := by
     rw [F.text_eq]
     show headO 7 nm ++ F.texts 7 0 [g, g2] = _
     rw [texts_0, F.texts_cons, piece_eq]
     simp [headO, F.texts, neededO, wordO]
    have h1 := hb g (by simp)
    have h2 := hb g2 (by simp)
    have h3 := hle 3 g (by omega)
    have h4 := hle 2 g2 (by omega)
    rw [ht] at harg
    simp only [List.length_append, List.length_cons, F.size, F.sizes] at harg ⊢
    omega
  · have hl : a.length = 2 := by simp [counted, F.op, F.args] at hc; omega
    obtain ⟨g, g2, rfl⟩ : ∃ g g2, a = [g, g2] := by
     match a, hl with
     | [g, g2], _ => exact ⟨g, g2, rfl⟩
    have ht : F.text (F.mk 8 nm [g, g2]) = argT 2 g ++ (32 :: 60 :: 45 :: 62 :: 32 :: argT 2 g2) := by
     rw [F.text_eq]
     show headO 8 nm ++ F.texts 8 0 [g, g2] = _
     rw [texts_0, F.texts_cons, piece_eq]
     simp [headO, F.texts, neededO, wordO]
    have h1 := hb g (by simp)
    have h2 := hb g2 (by simp)
    have h3 := hle 2 g (by omega)
    have h4 := hle 2 g2 (by omega)
    rw [ht] at harg
    simp only [List.length_append, List.length_cons, F.size, F.sizes] at harg ⊢
    omega
theorem good_valid {f : F} (hg : good f = true) : validate f = if 600 < f.size ∨ 20 < f.depth then 2 else 0 := by
 simp only [good, Bool.and_eq_true] at hg
 unfold validate
 rw [hg.1, hg.2]
 by_cases h1 : 600 < f.size
 · have h1' : ((f.size : Int) > 600) := by omega
   simp [h1, h1']
 · have h1' : ¬ ((f.size : Int) > 600) := by omega
   by_cases h2 : 20 < f.depth
   · have h2' : ((f.depth : Int) > 20) := by omega
     simp [h1, h1', h2, h2']
   · have h2' : ¬ ((f.depth : Int) > 20) := by omega
     simp [h1, h1', h2, h2']
theorem back_fin (text : List UInt8) (c0 : text.length ≤ 4096) (aw : run tb 11 [] = some [.bool true]) (ts : List (List UInt8)) (h3 : ts.length = 3) (f : F) (hsz : f.size < 1000000)
 (hP : ∀ t ∈ ts, run tb 8 [.str t] = some (rowF f ++ [.int .i64 0, .int .i64 0])) (x1 x2 x3 x4 x5 x9 x10 x11 x12 x13 x14 x15 x16 x17 : D) :
 loopQ (run tb) ir1p3 [.str text, x1, x2, x3, x4, x5, .int .i64 f.op, .str f.name, .sl (F.encs f.args), x9, x10, x11, x12, x13, x14, x15, x16, x17, strsD ts, .int .i64 3] [] [.int .i64 0] = some [.bool true] := by
 have key := loop_k (run := run tb) (body := ir1p3) (e := [.str text, x1, x2, x3, x4, x5, .int .i64 f.op, .str f.name, .sl (F.encs f.args), x9, x10, x11, x12, x13, x14, x15, x16, x17, strsD ts, .int .i64 3]) (J := []) (σ := Unit) 3
  (fun _ _ => True) (fun i _ => [.int .i64 i]) (fun _ _ => [.bool true])
  (by
   rintro i _ L hi _ hL
   have hnext := hL () trivial
   have hi3 : (i : Int) < 3 := by omega
   have hi' : i < ts.length := by omega
   have hget := get_S hi'
   have hchk := chk_S hi'
   have hPt := hP _ (List.getElem_mem hi')
   generalize ts[i] = t at hget hPt
   have hsame := same22_run f f (by omega) (by omega)
   rw [F.beq_refl] at hsame
   simp only [rowF, List.cons_append, List.nil_append] at hPt hsame
   simp (disch := omega) only [ir1p3, ir1p0, stepQ, stepL, eq_self, aBin, reduceIte, Int.reduceEq, Int.reduceLT, Int.reduceLE, Int.reduceGT, Int.reduceGE, hi3, hchk, hget, hPt, ibne, ne_eq, not_true, hsame, Bool.not_true, wr, natS, hnext])
  (by
   rintro _ L _
   obtain ⟨g, a, e, hgs, hPt, _, hgood⟩ := parse_both text
   simp only [rowF, List.cons_append, List.nil_append] at hPt
   by_cases he : e = 0
   · subst he
     obtain ⟨hgg, hs6, hd2⟩ := hgood rfl
     have hfm := format12_run g (by omega) (by omega)
     have hva : validate g = 0 := by rw [good_valid hgg, if_neg (by omega)]
     by_cases hlong : (((F.text g).length : Int) > 4096)
     · have hS : formatS g = [] := by simp [formatS, hva, hlong]
       have hE : formatE g = 2 := by simp [formatE, hva, hlong]
       rw [hS, hE] at hfm
       obtain ⟨k, a2, e2, hks, hPu, _, _⟩ := parse_both []
       simp only [rowF, List.cons_append, List.nil_append] at hPu hfm
       simp (disch := omega) only [ir1p3, ir1p2, ir1p1, stepQ, stepL, eq_self, aBin, reduceIte, Int.reduceEq, Int.reduceLT, Int.reduceLE, Int.reduceGT, Int.reduceGE, hPt, hfm, hPu, ibne, ne_eq, not_true, aw]
     · have hS : formatS g = F.text g := by simp [formatS, hva, hlong]
       have hE : formatE g = 0 := by simp [formatE, hva, hlong]
       rw [hS, hE] at hfm
       have hPu := parse_good (F.text g) (by omega) g hs6 hd2 (ps_plain hgg)
       have hsame := same22_run g g (by omega) (by omega)
       rw [F.beq_refl] at hsame
       simp only [rowF, List.cons_append, List.nil_append] at hPu hfm hsame
       simp (disch := omega) only [ir1p3, ir1p2, ir1p1, stepQ, stepL, eq_self, aBin, reduceIte, Int.reduceEq, Int.reduceLT, Int.reduceLE, Int.reduceGT, Int.reduceGE, hPt, hfm, hPu, ibne, ne_eq, not_true, hsame, Bool.not_true, aw]
   · simp (disch := omega) only [ir1p3, ir1p2, ir1p1, stepQ, stepL, eq_self, aBin, reduceIte, Int.reduceEq, Int.reduceLT, Int.reduceLE, Int.reduceGT, Int.reduceGE, hPt, he, aw])
 exact key 0 () (by omega) trivial
theorem back_run (text : List UInt8) (l0 : List Int) (aw : run tb 11 [] = some [.bool true]) :
 run tb 1 [.str text, numsD l0] = some [.bool true] := by
 refine run_ir (x := ir1) rfl ?_
 by_cases c0 : ((text.length : Int) > 300)
 · simp only [ir1, stepQ, stepL, eq_self, aBin, reduceIte, Int.reduceEq, Int.reduceLT, Int.reduceLE, Int.reduceGT, Int.reduceGE, c0]
 obtain ⟨l, hl, hn⟩ := new_run l0
 obtain ⟨f, p, hp, hg, hrg⟩ := formula_run 5 (by omega) (by omega) l hl 4 (by omega) 0 (by omega)
 have sg : f.size ≤ 1024 := hg.2.2.1
 have dg : f.depth ≤ 4 := hg.2.1
 have hgood := hg.1
 have hone : F.allF oneB f = true := allF_mono (fun g hl => by
  unfold oneB
  by_cases h3 : g.op = 3
  · have h : letter 5 g.name = true := by simpa [lettered, h3] using hl
    unfold letter at h
    split at h
    · rename_i c hc; simp [hc]
    · cases h
  · simp [h3]) f hg.2.2.2
 have lg := good_lenB hg.1
 have nb : F.allF nameB f = true := allF_mono (fun g hg => by simp only [lenB, decide_eq_true_eq] at hg; exact decide_eq_true (by omega)) f lg
 have hfm := format12_run f (by omega) (by omega)
 have hva := validate19_run f (by omega) nb
 have hgv := good_valid hgood
 have hlen : f.size ≤ 600 → (F.text f).length ≤ 2400 := fun h => by
  have h1 := text_four f.size f (Nat.le_refl _) hgood hone
  have h2 : (F.text f).length ≤ (argT 5 f).length := by unfold argT; split <;> simp; omega
  omega
 simp only [rowF, Int.cast_ofNat_Int, nat0, List.cons_append, List.nil_append] at hrg
 by_cases hbig : 600 < f.size
 · have hv2 : validate f = 2 := by rw [hgv, if_pos (.inl hbig)]
   have hE : formatE f = 2 := by simp [formatE, hv2]
   rw [hE] at hfm
   rw [hv2] at hva
   simp only [rowF, List.cons_append, List.nil_append] at hfm hva
   simp (disch := omega) only [ir1, stepQ, stepL, eq_self, aBin, reduceIte, Int.reduceEq, Int.reduceLT, Int.reduceLE, Int.reduceGT, Int.reduceGE, c0, hn, hrg, hfm, hva, aw]
 · have hv0 : validate f = 0 := by rw [hgv, if_neg (by omega)]
   have hl4 := hlen (by omega)
   have hlong : ¬ (((F.text f).length : Int) > 4096) := by omega
   have hS : formatS f = F.text f := by simp [formatS, hv0]; omega
   have hE : formatE f = 0 := by simp [formatE, hv0]; omega
   rw [hS, hE] at hfm
   have a1 : (([32, 32] : List UInt8).length + (F.text f).length ≤ 9223372036854775807) := by simp; omega
   have a2 : (([40, 40] : List UInt8).length + (F.text f).length ≤ 9223372036854775807) := by simp; omega
   have a3 : (([40, 40] ++ F.text f).length + ([32, 41, 32, 41] : List UInt8).length ≤ 9223372036854775807) := by simp; omega
   obtain ⟨s, hs1, hs2⟩ := ps_wrapped hgood
   obtain ⟨ts, hts⟩ : ∃ ts, ts = [F.text f, [32, 32] ++ F.text f, [40, 40] ++ F.text f ++ [32, 41, 32, 41]] := ⟨_, rfl⟩
   have hmk : PO.eval (.mk 1 3) [.str (F.text f), .str ([32, 32] ++ F.text f), .str ([40, 40] ++ F.text f ++ [32, 41, 32, 41])] = some [strsD ts] := by rw [hts]; rfl
   have hlen : PO.eval .lenL [strsD ts] = some [.int .i64 3] := by rw [hts]; rfl
   have hfin := back_fin text (by omega) aw ts (by rw [hts]; rfl) f (by omega) (fun t ht => by
    rw [hts] at ht
    simp only [List.mem_cons, List.not_mem_nil, or_false] at ht
    rcases ht with rfl | rfl | rfl
    · exact parse_good _ (by omega) f (by omega) (by omega) (ps_plain hgood)
    · exact parse_good _ (by simp; omega) f (by omega) (by omega) (ps_spaced hgood)
    · rw [← hs1]
      exact parse_good _ (by rw [hs1]; simp; omega) f (by omega) (by omega) hs2)
   simp only [rowF, List.cons_append, List.nil_append] at hfm
   have hz : ((0 : Int) != 0) = false := rfl
   simp (disch := omega) only [ir1, stepQ, stepL, eq_self, aBin, reduceIte, Int.reduceEq, Int.reduceLT, Int.reduceLE, Int.reduceGT, Int.reduceGE, c0, hn, hrg, hfm, hz, a1, a2, a3, hmk, hlen, hfin]
end Go.Proofs.YtccjhfmemghccaaDoor
