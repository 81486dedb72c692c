/- What functions of the program compute: lemmas. -/
import Derived.Test.YtccjhfmemghccaaDoorPx3
import Derived.Test.YtccjhfmemghccaaDoorPlTx
set_option linter.unusedSimpArgs false
set_option linter.unusedVariables false
set_option linter.unusedSectionVars false
namespace Go.Proofs.YtccjhfmemghccaaDoor
open Go Am
set_option maxRecDepth 100000
def bytesR (l : List UInt8) : List (List D) := l.map fun c => [.int .u8 c.toNat]
theorem bytes_toS (l : List UInt8) : PO.eval .toS [.sl (bytesR l)] = some [.str l] := by
 have h : ∀ l : List UInt8, bytesD (bytesR l) = some l := by
  intro l
  induction l with
  | nil => rfl
  | cons c l ih =>
   have ih' : bytesD (List.map (fun c : UInt8 => [D.int .u8 c.toNat]) l) = some l := ih
   have h1 : (0 : Int) ≤ (c.toNat : Int) := by omega
   have h2 : (c.toNat : Int) < 256 := by have := c.toNat_lt; omega
   have h3 : ((c.toNat : Int)).toNat.toUInt8 = c := by simp
   simp only [bytesR, List.map_cons, bytesD, h1, h2, and_self, if_true, ih', h3]
 simp only [PO.eval, h, Option.map_some]
theorem bytes_len (l : List UInt8) : (bytesR l).length = l.length := by simp [bytesR]
theorem bytes_set (l : List UInt8) (i : Nat) (h : i < l.length) (c : UInt8) : PO.eval (.set 0 1) [.sl (bytesR l), .int .i64 i, .int .u8 c.toNat] = some [.sl (bytesR (l.set i c))] := by
 have h1 : (bytesR l)[i]? = some [.int .u8 (l[i]).toNat] := by simp [bytesR, h]
 simp only [PO.eval, Int.toNat_natCast, h1]
 simp [bytesR, setD, List.map_set]
theorem bytes_chk (l : List UInt8) (i : Nat) (h : i < l.length) : PO.eval .chk [.sl (bytesR l), .int .i64 i] = some [] := ev_chk (by omega) (by rw [bytes_len]; omega)
def words15 : List (List UInt8) := [[97], [98, 95, 49], [126], [38], [124], [45, 62], [60, 45, 62], [40], [41], [32], [48], [49], [45], [65], [49, 97]]
theorem parses_fin (ts : List (List UInt8)) (h7 : ts.length = 7) (aw : run tb 11 [] = some [.bool true]) (J0 : PF) (x0 x1 x2 x3 x4 x5 x6 x7 x8 x9 x10 x11 x12 x13 x14 x15 x16 x17 x18 x19 x20 x21 x22 x23 x24 x25 x26 x27 x28 x29 x30 x31 x32 x33 x34 : D) :
 loopQ (run tb) ir0p1 [x0, x1, x2, x3, x4, x5, x6, x7, x8, x9, x10, x11, x12, x13, x14, x15, x16, x17, x18, x19, x20, x21, x22, x23, x24, x25, x26, x27, x28, x29, x30, x31, x32, x33, x34, strsD ts, .int .i64 7] [J0] [.int .i64 0] = some [.bool true] := by
 have key := loop_k (run := run tb) (body := ir0p1) (e := [x0, x1, x2, x3, x4, x5, x6, x7, x8, x9, x10, x11, x12, x13, x14, x15, x16, x17, x18, x19, x20, x21, x22, x23, x24, x25, x26, x27, x28, x29, x30, x31, x32, x33, x34, strsD ts, .int .i64 7]) (J := [J0]) (σ := Unit) 7
  (fun _ _ => True) (fun i _ => [.int .i64 i]) (fun _ _ => [.bool true])
  (by
   rintro i _ L hi _ hL
   have hnext := hL () trivial
   have hi7 : (i : Int) < 7 := by omega
   have hi' : i < ts.length := by omega
   have hget := get_S hi'
   have hchk := chk_S hi'
   generalize ts[i] = t at hget
   obtain ⟨f, a, e, hsz, hP, hR, _⟩ := parse_both t
   have hsame := same22_run f f (by omega) (by omega)
   rw [F.beq_refl] at hsame
   simp only [rowF, List.cons_append, List.nil_append] at hP hR hsame
   simp (disch := omega) only [ir0p1, ir0p0, stepQ, stepL, eq_self, aBin, reduceIte, Int.reduceEq, Int.reduceLT, Int.reduceLE, Int.reduceGT, Int.reduceGE, hi7, hchk, hget, hP, hR, ibne, ne_eq, not_true, hsame, Bool.not_true, wr, natS, hnext])
  (by
   rintro _ L _
   simp (disch := omega) only [ir0p1, stepQ, stepL, eq_self, aBin, reduceIte, Int.reduceEq, Int.reduceLT, Int.reduceLE, Int.reduceGT, Int.reduceGE, aw])
 exact key 0 () (by omega) trivial
theorem parses_run (text : List UInt8) (l0 : List Int) (at_ : Int) (by_ : UInt8) (aw : run tb 11 [] = some [.bool true]) :
 run tb 0 [.str text, numsD l0, .int .i64 at_, .int .u8 by_.toNat] = some [.bool true] := by
 refine run_ir (x := ir0) rfl ?_
 by_cases c0 : ((text.length : Int) > 300)
 · simp only [ir0, stepQ, stepL, eq_self, aBin, reduceIte, Int.reduceEq, Int.reduceLT, Int.reduceLE, Int.reduceGT, Int.reduceGE, c0]
 obtain ⟨l, hl, hn⟩ := new_run l0
 obtain ⟨good, p, hp, hg, hrg⟩ := formula_run 4 (by omega) (by omega) l hl 4 (by omega) 0 (by omega)
 have sg : good.size ≤ 1024 := hg.2.2.1
 have lg := good_lenB hg.1
 have nb : F.allF nameB good = true := allF_mono (fun g hg => by simp only [lenB, decide_eq_true_eq] at hg; exact decide_eq_true (by omega)) good lg
 have hfm := format13_run good (by omega) nb
 have hfl : (formatS good).length ≤ 4096 := by
  unfold formatS
  split
  · simp
  · split
    · simp
    · rename_i h; simp at h; omega
 generalize formatS good = gs at hfm hfl
 obtain ⟨k0, p2, k0a, k0b, hp2, hrk⟩ := n_run 14 l p hl hp (by omega) (by omega)
 obtain ⟨k, rfl⟩ : ∃ k : Nat, k0 = k := ⟨k0.toNat, by omega⟩
 have rest : ∀ bent : List UInt8, bent.length ≤ 4096 → den (run tb) ir0p3 [.str text, numsD l0, .int .i64 at_, .int .u8 by_.toNat, .int .i64 text.length, .bool false, numsD l, .int .i64 0, .int .i64 good.op, .str good.name, .sl (F.encs good.args), numsD l, .int .i64 p, .str gs, .int .i64 (formatE good), .sl (bytesR gs), .sl (bytesR bent)] [] = some [.bool true] := by
  intro bent hbent
  have key := loop_km (run := run tb) (body := ir0p2) (e := [.str text, numsD l0, .int .i64 at_, .int .u8 by_.toNat, .int .i64 text.length, .bool false, numsD l, .int .i64 0, .int .i64 good.op, .str good.name, .sl (F.encs good.args), numsD l, .int .i64 p, .str gs, .int .i64 (formatE good), .sl (bytesR gs), .sl (bytesR bent), .int .i64 k, numsD l, .int .i64 p2]) (J := []) (ι := List UInt8 × Nat × Nat) (fun x => x.2.1)
   (fun x => x.2.1 < 14 ∧ x.1.length + 3 * x.2.1 ≤ 42 ∧ x.2.2 ≤ l.length) (fun x => [.str x.1, .int .i64 x.2.1, numsD l, .int .i64 x.2.2]) (fun _ => [.bool true])
   (by
    rintro ⟨w, k, u⟩ L ⟨h1, h2, h3⟩ hL
    simp only at h1 h2 h3
    by_cases hk : 0 < k
    · have hk1 : ((k : Int) > 0) := by omega
      have hmk : PO.eval (.mk 1 15) [.str [97], .str [98, 95, 49], .str [126], .str [38], .str [124], .str [45, 62], .str [60, 45, 62], .str [40], .str [41], .str [32], .str [48], .str [49], .str [45], .str [65], .str [49, 97]] = some [strsD words15] := rfl
      obtain ⟨t, u2, ht, hu2, hrt⟩ := text_run words15 (by decide) (by decide) l hl u h3
      have htl : t.length ≤ 3 := by
       have : ∀ t ∈ words15, t.length ≤ 3 := by decide
       exact this t ht
      have hadd : (w.length + t.length ≤ 9223372036854775807) := by omega
      have hsub : IntKind.i64.wrap ((k : Int) - 1) = ((k - 1 : Nat) : Int) := by rw [wr (by omega) (by omega)]; omega
      have hnext := hL (w ++ t, k - 1, u2) ⟨by simp only; omega, by simp only [List.length_append]; omega, hu2⟩ (by simp only; omega)
      simp only at hnext
      simp (disch := omega) only [ir0p2, stepQ, stepL, eq_self, aBin, reduceIte, Int.reduceEq, Int.reduceLT, Int.reduceLE, Int.reduceGT, Int.reduceGE, hk1, hmk, hrt, hadd, hsub, hnext]
    · have hk1 : ¬ ((k : Int) > 0) := by omega
      have a1 : (([32, 40] : List UInt8).length + gs.length ≤ 9223372036854775807) := by simp; omega
      have a2 : (([32, 40] ++ gs).length + ([41, 32] : List UInt8).length ≤ 9223372036854775807) := by simp; omega
      have a3 : IntKind.i64.wrap ((gs.length : Int) + 1) = (gs.length : Int) + 1 := wr (by omega) (by omega)
      obtain ⟨m0, u2, m0a, m0b, hu2, hrm⟩ := n_run ((gs.length : Int) + 1) l u hl h3 (by omega) (by omega)
      obtain ⟨m, rfl⟩ : ∃ m : Nat, m0 = m := ⟨m0.toNat, by omega⟩
      have a4 := sub_str0 (s := gs) (b := m) (by omega)
      have a5 : (gs.length + w.length ≤ 9223372036854775807) := by omega
      have hts := bytes_toS bent
      obtain ⟨ts, hts2⟩ : ∃ ts, ts = [text, gs, bent, ([32, 40] ++ gs) ++ [41, 32], w, gs.take m, gs ++ w] := ⟨_, rfl⟩
      have hmk : PO.eval (.mk 1 7) [.str text, .str gs, .str bent, .str (([32, 40] ++ gs) ++ [41, 32]), .str w, .str (gs.take m), .str (gs ++ w)] = some [strsD ts] := by rw [hts2]; rfl
      have hlen : PO.eval .lenL [strsD ts] = some [.int .i64 7] := by rw [hts2]; rfl
      have hfin := parses_fin ts (by rw [hts2]; rfl) aw
      simp (disch := omega) only [ir0p2, stepQ, stepL, eq_self, aBin, reduceIte, Int.reduceEq, Int.reduceLT, Int.reduceLE, Int.reduceGT, Int.reduceGE, hk1, hts, a1, a2, a3, hrm, a4, a5, hmk, hlen, hfin])
  have hk := key ([], k, p2) ⟨by simp only; omega, by simp only [List.length_nil]; omega, hp2⟩
  simp only at hk
  simp (disch := omega) only [ir0p3, stepQ, stepL, eq_self, aBin, reduceIte, Int.reduceEq, Int.reduceLT, Int.reduceLE, Int.reduceGT, Int.reduceGE, hrk, hk]
 have e0 : PO.eval .toB [.str gs] = some [.sl (bytesR gs)] := rfl
 have e1 : PO.eval .lenL [.sl (bytesR gs)] = some [.int .i64 gs.length] := by rw [← bytes_len gs]; rfl
 simp only [rowF, Int.cast_ofNat_Int, nat0, List.cons_append, List.nil_append] at hrg hfm
 by_cases hz : 0 < gs.length
 · have hz1 : ((gs.length : Int) > 0) := by omega
   obtain ⟨r0, r0a, r0b, hrm⟩ := mod_run at_ gs.length (by omega) (by omega)
   obtain ⟨r, rfl⟩ : ∃ r : Nat, r0 = r := ⟨r0.toNat, by omega⟩
   have hset := bytes_set gs r (by omega) by_
   have hchk := bytes_chk gs r (by omega)
   have hr := rest (gs.set r by_) (by simp; omega)
   simp (disch := omega) only [ir0, stepQ, stepL, eq_self, aBin, reduceIte, Int.reduceEq, Int.reduceLT, Int.reduceLE, Int.reduceGT, Int.reduceGE, c0, hn, hrg, hfm, e0, e1, hz1, hrm, hchk, hset, hr]
 · have hz1 : ¬ ((gs.length : Int) > 0) := by omega
   have hr := rest gs hfl
   simp (disch := omega) only [ir0, stepQ, stepL, eq_self, aBin, reduceIte, Int.reduceEq, Int.reduceLT, Int.reduceLE, Int.reduceGT, Int.reduceGE, c0, hn, hrg, hfm, e0, e1, hz1, hr]
end Go.Proofs.YtccjhfmemghccaaDoor
