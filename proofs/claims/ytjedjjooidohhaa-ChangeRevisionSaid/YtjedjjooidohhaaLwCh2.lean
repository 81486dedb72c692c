/- Plain programs of the functions of the program and lemmas about what they compute. -/
import Derived.Test.YtjedjjooidohhaaCh3
import Derived.Test.YtjedjjooidohhaaRw0
set_option linter.unusedSimpArgs false
set_option linter.unusedVariables false
set_option linter.unusedSectionVars false
namespace Go.Proofs.Ytjedjjooidohhaa
open Go Am
set_option maxRecDepth 100000
theorem changeWithdrawal_true (I : List (List D)) (hI : Ins Try.prog Try.f8.params.toList I) : run tb 5 I.flatten = some [.bool true] := by
  rw [Try.params8] at hI
  cases hI with
  | cons n h hl hr =>
    cases hr
    obtain ⟨l, rfl, hl⟩ := wt_ints h
    exact withdrawal_run l
theorem changeIdentities_true (I : List (List D)) (hI : Ins Try.prog Try.f9.params.toList I) : run tb 6 I.flatten = some [.bool true] := by
  rw [Try.params9] at hI
  cases hI with
  | cons n h hl hr =>
    cases hr
    obtain ⟨l, rfl, hl⟩ := wt_ints h
    exact identities_run l
theorem changeRevision_true (I : List (List D)) (hI : Ins Try.prog Try.f10.params.toList I) : run tb 7 I.flatten = some [.bool true] := by
  rw [Try.params10] at hI
  cases hI with
  | cons n h hl hr =>
    cases hr
    obtain ⟨l, rfl, hl⟩ := wt_ints h
    exact revision_run l
end Go.Proofs.Ytjedjjooidohhaa
