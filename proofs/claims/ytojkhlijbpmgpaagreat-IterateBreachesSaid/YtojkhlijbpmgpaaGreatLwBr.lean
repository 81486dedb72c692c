/- What functions of the program compute: lemmas. -/
import Derived.Test.YtojkhlijbpmgpaaGreatBr4
import Derived.Test.YtojkhlijbpmgpaaGreatRw1z
set_option linter.unusedSimpArgs false
set_option linter.unusedVariables false
set_option linter.unusedSectionVars false
namespace Go.Proofs.YtojkhlijbpmgpaaGreat
open Go Am
set_option maxRecDepth 100000
theorem iterateBreaches_true (I : List (List D)) (hI : Ins Tryz.prog Tryz.f10.params.toList I) : run tb 0 I.flatten = some [.bool true] := by
 rw [Tryz.params10] at hI
 obtain _ | ⟨m1, h1, _, hI⟩ := hI
 obtain _ | ⟨m2, h2, _, hI⟩ := hI
 obtain _ | ⟨m3, h3, _, hI⟩ := hI
 obtain _ | ⟨m4, h4, _, hI⟩ := hI
 cases hI
 obtain ⟨n1, r1, rfl, g1⟩ := wt_order h1
 obtain ⟨n2, r2, rfl, g2⟩ := wt_order h2
 obtain ⟨x3, rfl⟩ := wt_form _ _ (Nat.le_refl _) _ h3
 obtain ⟨x4, rfl, _⟩ := wt_ints h4
 exact ibreach_run n1 n2 r1 r2 x4 x3 (fun s hs => Nat.lt_of_le_of_lt (g1 s hs) (by decide)) (fun s hs => Nat.lt_of_le_of_lt (g2 s hs) (by decide))
end Go.Proofs.YtojkhlijbpmgpaaGreat
