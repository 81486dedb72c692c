/- Plain programs of the functions of the program and lemmas about what they compute. -/
import Derived.Test.YtojkhlijbpmgpaaGreatIt6
import Derived.Test.YtojkhlijbpmgpaaGreatRw1z
set_option linter.unusedSimpArgs false
set_option linter.unusedVariables false
set_option linter.unusedSectionVars false
namespace Go.Proofs.YtojkhlijbpmgpaaGreat
open Go Am
set_option maxRecDepth 100000
theorem iterateAnswers_true (I : List (List D)) (hI : Ins Tryz.prog Tryz.f6.params.toList I) : run tb 1 I.flatten = some [.bool true] := by
 rw [Tryz.params6] at hI
 obtain _ | ⟨n1, h1, _, hI⟩ := hI
 obtain _ | ⟨n2, h2, _, hI⟩ := hI
 obtain _ | ⟨n3, h3, _, hI⟩ := hI
 obtain _ | ⟨n4, h4, _, hI⟩ := hI
 cases hI
 obtain ⟨nr, rr, rfl, hnr⟩ := wt_order h1
 obtain ⟨f, rfl⟩ := wt_form _ _ (Nat.le_refl _) _ h2
 obtain ⟨l, rfl, _⟩ := wt_ints h3
 obtain ⟨k, rfl⟩ := wt_int h4
 exact ianswers_run nr rr l f k fun s hs => Nat.lt_of_le_of_lt (hnr s hs) (by decide)
end Go.Proofs.YtojkhlijbpmgpaaGreat
