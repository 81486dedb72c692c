/- Plain programs of the functions of the program and lemmas about what they compute. -/
import Derived.Test.YtojkhlijbpmgpaaGreatIt2
import Derived.Test.YtojkhlijbpmgpaaGreatCa0
set_option linter.unusedSimpArgs false
set_option linter.unusedVariables false
set_option linter.unusedSectionVars false
namespace Go.Proofs.YtojkhlijbpmgpaaGreat
open Go Am
set_option maxRecDepth 100000
set_option linter.unusedSimpArgs false
set_option linter.unusedVariables false
theorem formulas35g_run (most n n1 : Nat) (hm : most < 1000) (h1 : 1 ≤ n1) (h2 : n1 ≤ 26) (hn1 : n1 = max n 1) (l : List Int) (hl : l.length ≤ 2000) (p : Nat) (hp : p ≤ l.length) :
 ∃ (fs : List F) (b : Nat), b ≤ l.length ∧ fs.length ≤ most ∧ (∀ f ∈ fs, Made n1 3 f) ∧ run tb 5 [.int .i64 most, .int .i64 n, numsD l, .int .i64 p] = some [.sl (F.encs fs), numsD l, .int .i64 b] := by
 obtain ⟨c, b0, c0, c1, hb0, hc⟩ := n_run ((most + 1 : Nat) : Int) l p hl hp (by omega) (by omega)
 obtain ⟨c, rfl⟩ := Int.eq_ofNat_of_zero_le c0
 have hmax : (if (1 : Int) > (n : Int) then (1 : Int) else (n : Int)) = (n1 : Int) := by split <;> omega
 have key := loop_kx (run := run tb) (body := ir5p0) (e := [.int .i64 most, .int .i64 n, numsD l, .int .i64 p, .int .i64 ((most + 1 : Nat) : Int), .int .i64 c, numsD l, .int .i64 b0]) (J := []) (σ := Nat × List F) c
  (fun j s => s.1 ≤ l.length ∧ s.2.length = j ∧ ∀ f ∈ s.2, Made n1 3 f) (fun j s => [.int .i64 ((c - j : Nat) : Int), numsD l, .int .i64 s.1, .sl (F.encs s.2)]) (fun r => ∃ (fs : List F) (b : Nat), b ≤ l.length ∧ fs.length ≤ most ∧ (∀ f ∈ fs, Made n1 3 f) ∧ r = [.sl (F.encs fs), numsD l, .int .i64 b])
  (by
   rintro j ⟨q, fs⟩ L hj ⟨hq, hfl, hfs⟩ hL
   simp only at hq hfl hfs
   obtain ⟨f, q', hq', hf, hr⟩ := formula_run n1 h1 h2 l hl 3 (by omega) q hq
   have hr : run tb 23 [.int .i64 n1, .int .i64 3, numsD l, .int .i64 q] = some [.int .i64 f.op, .str f.name, .sl (F.encs f.args), numsD l, .int .i64 q'] := hr
   obtain ⟨r, hr1, hpost⟩ := hL (q', fs ++ [f]) ⟨hq', by simp [hfl], fun g hg => by
    rcases List.mem_append.1 hg with hg | hg
    · exact hfs g hg
    · rw [List.mem_singleton.1 hg]; exact hf⟩
   refine ⟨r, ?_, hpost⟩
   simp only at hr1
   have hpos : 0 < c - j := by omega
   have hgt : ((c - j : Nat) : Int) > 0 := by omega
   have hsub : IntKind.i64.wrap (((c - j : Nat) : Int) - 1) = ((c - (j + 1) : Nat) : Int) := by rw [wr (by omega) (by omega)]; omega
   simp (disch := omega) only [ir5p0, stepQ, stepL, eq_self, aBin, reduceIte, Int.reduceEq, Int.reduceLT, Int.reduceLE, Int.reduceGT, Int.reduceGE, hgt, hmax, hr, app_F, hsub, hr1])
  (by
   rintro ⟨q, fs⟩ L ⟨hq, hfl, hfs⟩
   simp only at hq hfl hfs
   refine ⟨_, ?_, fs, q, hq, by omega, hfs, rfl⟩
   have hgt : ¬ ((c - c : Nat) : Int) > 0 := by omega
   simp (disch := omega) only [ir5p0, stepQ, stepL, eq_self, aBin, reduceIte, Int.reduceEq, Int.reduceLT, Int.reduceLE, Int.reduceGT, Int.reduceGE, hgt])
 obtain ⟨r, hr, fs, b, k1, k2, k3, rfl⟩ := key 0 (b0, []) (Nat.zero_le _) ⟨hb0, rfl, by simp⟩
 refine ⟨fs, b, k1, k2, k3, run_ir (x := ir5) rfl ?_⟩
 simp only [Nat.sub_zero, F.encs] at hr
 simp (disch := omega) only [ir5, stepQ, stepL, eq_self, aBin, reduceIte, Int.reduceEq, Int.reduceLT, Int.reduceLE, Int.reduceGT, Int.reduceGE, wr, natS, hc]
 simpa only [List.cons_append, List.nil_append] using hr
theorem formulas35_run (most n : Nat) (hm : most < 1000) (h1 : 1 ≤ n) (h2 : n ≤ 26) (l : List Int) (hl : l.length ≤ 2000) (p : Nat) (hp : p ≤ l.length) :
 ∃ (fs : List F) (b : Nat), b ≤ l.length ∧ fs.length ≤ most ∧ (∀ f ∈ fs, Made n 3 f) ∧ run tb 5 [.int .i64 most, .int .i64 n, numsD l, .int .i64 p] = some [.sl (F.encs fs), numsD l, .int .i64 b] :=
 formulas35g_run most n n hm h1 h2 (by omega) l hl p hp
end Go.Proofs.YtojkhlijbpmgpaaGreat
