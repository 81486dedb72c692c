/- What functions of the program compute: lemmas. -/
import Derived.Test.YtejddbdoioppgaaGreatDoorMg
import Derived.Test.YtejddbdoioppgaaGreatDoorRw1u
set_option linter.unusedSimpArgs false
set_option linter.unusedVariables false
set_option linter.unusedSectionVars false
namespace Go.Proofs.YtejddbdoioppgaaGreatDoor
open Go Am
set_option maxRecDepth 100000
theorem mergeAnswers_true (I : List (List D)) (hI : Ins Tryz.prog Tryz.f7.params.toList I) : run tb 0 I.flatten = some [.bool true] := by
 rw [Tryz.params7] at hI
 obtain _ | ⟨m1, h1, _, hI⟩ := hI
 obtain _ | ⟨m2, h2, _, hI⟩ := hI
 obtain _ | ⟨m3, h3, _, hI⟩ := hI
 obtain _ | ⟨m4, h4, _, hI⟩ := hI
 obtain _ | ⟨m5, h5, _, hI⟩ := hI
 obtain _ | ⟨m6, h6, _, hI⟩ := hI
 cases hI
 obtain ⟨x1, rfl, g1, k1⟩ := wt_strs h1
 obtain ⟨x2, rfl, g2⟩ := wt_forms h2
 obtain ⟨x3, rfl⟩ := wt_form _ _ (Nat.le_refl _) _ h3
 obtain ⟨x4, rfl, _⟩ := wt_ints h4
 obtain ⟨x5, rfl⟩ := wt_int h5
 obtain ⟨x6, rfl⟩ := wt_int h6
 exact manswers_run score_ok x1 x2 x3 x4 x5 x6 (fun s hs => Nat.lt_of_le_of_lt (k1 s hs) (by decide))
end Go.Proofs.YtejddbdoioppgaaGreatDoor
