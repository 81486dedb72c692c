/- Plain programs of the functions of the program and lemmas about what they compute. -/
import Derived.Test.YtojkhlijbpmgpaaGreatIt2
import Derived.Test.YtojkhlijbpmgpaaGreatOd
set_option linter.unusedSimpArgs false
set_option linter.unusedVariables false
set_option linter.unusedSectionVars false
namespace Go.Proofs.YtojkhlijbpmgpaaGreat
open Go Am
set_option maxRecDepth 100000
set_option linter.unusedSimpArgs false
set_option linter.unusedVariables false
theorem formulas35_run (most n : Nat) (hm : most < 1000) (h1 : 1 ≤ n) (h2 : n ≤ 26) (l : List Int) (hl : l.length ≤ 2000) (p : Nat) (hp : p ≤ l.length) :
 ∃ (fs : List F) (b : Nat), b ≤ l.length ∧ fs.length ≤ most ∧ (∀ f ∈ fs, Made n 3 f) ∧ run tb 13 [.int .i64 most, .int .i64 n, numsD l, .int .i64 p] = some [.sl (F.encs fs), numsD l, .int .i64 b] := by
 obtain ⟨c, b0, c0, c1, hb0, hc⟩ := n_run ((most + 1 : Nat) : Int) l p hl hp (by omega) (by omega)
 obtain ⟨c, rfl⟩ := Int.eq_ofNat_of_zero_le c0
 have hmax : (if (1 : Int) > (n : Int) then (1 : Int) else (n : Int)) = (n : Int) := if_neg (by omega)
 have key := loop_kx (run := run tb) (body := ir13p0) (e := [.int .i64 most, .int .i64 n, numsD l, .int .i64 p, .int .i64 ((most + 1 : Nat) : Int), .int .i64 c, numsD l, .int .i64 b0]) (J := []) (σ := Nat × List F) c
  (fun j s => s.1 ≤ l.length ∧ s.2.length = j ∧ ∀ f ∈ s.2, Made n 3 f) (fun j s => [.int .i64 ((c - j : Nat) : Int), numsD l, .int .i64 s.1, .sl (F.encs s.2)]) (fun r => ∃ (fs : List F) (b : Nat), b ≤ l.length ∧ fs.length ≤ most ∧ (∀ f ∈ fs, Made n 3 f) ∧ r = [.sl (F.encs fs), numsD l, .int .i64 b])
  (by
   rintro j ⟨q, fs⟩ L hj ⟨hq, hfl, hfs⟩ hL
   simp only at hq hfl hfs
   obtain ⟨f, q', hq', hf, hr⟩ := formula_run n h1 h2 l hl 3 (by omega) q hq
   have hr : run tb 33 [.int .i64 n, .int .i64 3, numsD l, .int .i64 q] = some [.int .i64 f.op, .str f.name, .sl (F.encs f.args), numsD l, .int .i64 q'] := hr
   obtain ⟨r, hr1, hpost⟩ := hL (q', fs ++ [f]) ⟨hq', by simp [hfl], fun g hg => by
    rcases List.mem_append.1 hg with hg | hg
    · exact hfs g hg
    · rw [List.mem_singleton.1 hg]; exact hf⟩
   refine ⟨r, ?_, hpost⟩
   simp only at hr1
   have hpos : 0 < c - j := by omega
   have hgt : ((c - j : Nat) : Int) > 0 := by omega
   have hsub : IntKind.i64.wrap (((c - j : Nat) : Int) - 1) = ((c - (j + 1) : Nat) : Int) := by rw [wr (by omega) (by omega)]; omega
   simp (disch := omega) only [ir13p0, stepQ, stepL, eq_self, aBin, reduceIte, Int.reduceEq, Int.reduceLT, Int.reduceLE, Int.reduceGT, Int.reduceGE, hgt, hmax, hr, app_F, hsub, hr1])
  (by
   rintro ⟨q, fs⟩ L ⟨hq, hfl, hfs⟩
   simp only at hq hfl hfs
   refine ⟨_, ?_, fs, q, hq, by omega, hfs, rfl⟩
   have hgt : ¬ ((c - c : Nat) : Int) > 0 := by omega
   simp (disch := omega) only [ir13p0, stepQ, stepL, eq_self, aBin, reduceIte, Int.reduceEq, Int.reduceLT, Int.reduceLE, Int.reduceGT, Int.reduceGE, hgt])
 obtain ⟨r, hr, fs, b, k1, k2, k3, rfl⟩ := key 0 (b0, []) (Nat.zero_le _) ⟨hb0, rfl, by simp⟩
 refine ⟨fs, b, k1, k2, k3, run_ir (x := ir13) rfl ?_⟩
 simp only [Nat.sub_zero, F.encs] at hr
 simp (disch := omega) only [ir13, stepQ, stepL, eq_self, aBin, reduceIte, Int.reduceEq, Int.reduceLT, Int.reduceLE, Int.reduceGT, Int.reduceGE, wr, natS, hc]
 simpa only [List.cons_append, List.nil_append] using hr
def seqS (names : List (List UInt8)) (k : Int) (R : List Int) (fs : List F) : List Int := fs.foldl (fun o f => nextS names k o (modelsS names f)) R
theorem seqS_snoc (names : List (List UInt8)) (k : Int) (R : List Int) (fs : List F) (f : F) : seqS names k R (fs ++ [f]) = nextS names k (seqS names k R fs) (modelsS names f) := by simp [seqS]
theorem seqS_ord {n : Nat} (hn : n ≤ 6) {k : Int} {R : List Int} (hR : Ord (vocN n) (2 ^ n) R) : ∀ fs : List F, Ord (vocN n) (2 ^ n) (seqS (vocN n) k R fs) := by
 have key : ∀ (fs : List F) (T : List Int), Ord (vocN n) (2 ^ n) T → Ord (vocN n) (2 ^ n) (seqS (vocN n) k T fs) := by
  intro fs
  induction fs with
  | nil => intro T hT; exact hT
  | cons f fs ih => intro T hT; exact ih _ ⟨some_ok hn (by simp [nxtPL, hT.rk.1]), next_rk hT.rk _ _ _⟩
 exact fun fs => key fs R hR
theorem nextF_run {n : Nat} (hn : n ≤ 6) {T : List Int} (hT : Ord (vocN n) (2 ^ n) T) {k : Int} (hk : k = 1 ∨ k = 2 ∨ k = 3) {f : F} (hs : f.size < 1000000000) (he : modelsE (vocN n) f = 0) :
 run tb 9 [strsD (vocN n), numsD T, .int .i64 f.op, .str f.name, .sl (F.encs f.args), .int .i64 k] = some (if modelsS (vocN n) f = 0#64 then [.sl [], .sl [], .int .i64 9] else [strsD (vocN n), numsD (nextS (vocN n) k T (modelsS (vocN n) f)), .int .i64 0]) := by
 have h64 := pow6 hn
 have := nextP_run (vocN n) T f k (by rw [vocN_len]; omega) (by rw [hT.rk.1]; omega) hs
 have hi : itE (vocN n) T f k = if modelsS (vocN n) f = 0#64 then 9 else 0 := by
  unfold itE
  rw [if_neg (by simp [hT.ok]), if_neg (by simp; omega), if_neg (by simp [he])]
 rw [hi] at this
 by_cases hz : modelsS (vocN n) f = 0#64
 · rw [if_pos hz, if_neg (by decide)] at this; rw [if_pos hz]; exact this
 · rw [if_neg hz, if_pos rfl] at this; rw [if_neg hz]; exact this
theorem sequence_run {n : Nat} (hn : n ≤ 6) {R : List Int} (hR : Ord (vocN n) (2 ^ n) R) (hnn : normS R = R) {k : Int} (hk : k = 1 ∨ k = 2 ∨ k = 3) (fs : List F) (hfl : fs.length < 1000000000)
 (hf : ∀ f ∈ fs, f.size < 1000000000 ∧ modelsE (vocN n) f = 0 ∧ modelsS (vocN n) f ≠ 0#64) :
 run tb 15 [strsD (vocN n), numsD R, .sl (F.encs fs), .int .i64 k] = some [strsD (vocN n), numsD (seqS (vocN n) k R fs), .int .i64 fs.length, .int .i64 0] := by
 have h64 := pow6 hn
 refine run_ir (x := ir15) rfl ?_
 have h1 := check_run (vocN n) R k (by rw [vocN_len]; omega) (by rw [hR.rk.1]; omega)
 have hck : ckE (vocN n) R k = 0 := by unfold ckE; rw [if_neg (by simp [hR.ok]), if_neg (by simp; omega)]
 rw [hck] at h1
 have hno := normal_run (vocN n) R (by rw [vocN_len]; omega) (by rw [hR.rk.1]; omega)
 rw [if_pos (by simp [normE, vocN_ok hn, vocN_len, hR.rk.1]), hnn] at hno
 simp (disch := omega) only [ir15, stepQ, stepL, eq_self, aBin, reduceIte, Int.reduceEq, Int.reduceLT, Int.reduceLE, Int.reduceGT, Int.reduceGE, h1, ibne, hno, callQ_tvi, len_F]
 refine loop_k (σ := Unit) fs.length (fun _ _ => True) (fun i _ => [.int .i64 i, strsD (vocN n), numsD (seqS (vocN n) k R (fs.take i))]) (fun _ _ => [strsD (vocN n), numsD (seqS (vocN n) k R fs), .int .i64 fs.length, .int .i64 0]) ?_ ?_ 0 () (Nat.zero_le _) trivial
 · rintro i _ M hi _ hM
   have hnext := hM () trivial
   have htk : fs.take (i + 1) = fs.take i ++ [fs[i]] := by rw [List.take_add_one, List.getElem?_eq_getElem hi]; rfl
   rw [htk, seqS_snoc] at hnext
   obtain ⟨f1, f2, f3⟩ := hf fs[i] (List.getElem_mem hi)
   have hr := nextF_run hn (seqS_ord hn (k := k) hR (fs.take i)) hk f1 f2
   rw [if_neg f3] at hr
   generalize seqS (vocN n) k R (fs.take i) = T at *
   generalize nextS (vocN n) k T (modelsS (vocN n) fs[i]) = T' at *
   simp (disch := omega) only [ir15p0, rowF, stepQ, stepL, eq_self, aBin, reduceIte, Int.reduceEq, Int.reduceLT, Int.reduceLE, Int.reduceGT, Int.reduceGE, hi, row_F, hr, callQ_tvi, ibne, wr, natS, hnext]
 · rintro _ M _
   rw [List.take_length]
   simp (disch := omega) only [ir15p0, rowF, stepQ, stepL, eq_self, aBin, reduceIte, Int.reduceEq, Int.reduceLT, Int.reduceLE, Int.reduceGT, Int.reduceGE, len_F, Nat.lt_irrefl]
end Go.Proofs.YtojkhlijbpmgpaaGreat
