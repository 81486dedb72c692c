/- Plain programs of the functions of the program and lemmas about what they compute. -/
import Derived.Test.YtojkhlijbpmgpaaGreatOd
import Derived.Test.YtojkhlijbpmgpaaGreatAm5
set_option linter.unusedSimpArgs false
set_option linter.unusedVariables false
set_option linter.unusedSectionVars false
namespace Go.Proofs.YtojkhlijbpmgpaaGreat
open Go Am
set_option maxRecDepth 100000
set_option linter.unusedSimpArgs false
set_option linter.unusedVariables false
def ordsD (os : List (List (List UInt8) × List Int)) : D := .sl (os.map fun o => [strsD o.1, numsD o.2])
theorem get_O {os : List (List (List UInt8) × List Int)} {i : Nat} (h : i < os.length) : PO.eval (.get 0 2) [ordsD os, .int .i64 i] = some [strsD os[i].1, numsD os[i].2] := by
 simp [PO.eval, ordsD, h]
theorem chk_O {os : List (List (List UInt8) × List Int)} {i : Nat} (h : i < os.length) : PO.eval .chk [ordsD os, .int .i64 i] = some [] := ev_chk (by omega) (by simp; omega)
theorem len_O (os : List (List (List UInt8) × List Int)) : PO.eval .lenL [ordsD os] = some [.int .i64 os.length] := by simp [ordsD, ev_lenL]
theorem small_size {f : F} (h : smallF f = true) : f.size ≤ 800 ∧ f.depth ≤ 30 ∧ F.allF nameB f = true := by
 unfold smallF at h
 simp only [Bool.and_eq_true, decide_eq_true_eq] at h
 exact ⟨h.1, h.2.1, allF_mono (fun g hg => by simp only [shortB, nameB, decide_eq_true_eq] at hg ⊢; omega) f h.2.2⟩
end Go.Proofs.YtojkhlijbpmgpaaGreat
