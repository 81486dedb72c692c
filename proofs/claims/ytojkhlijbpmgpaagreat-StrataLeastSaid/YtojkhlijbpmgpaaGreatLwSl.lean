/- What functions of the program compute: lemmas. -/
import Derived.Test.YtojkhlijbpmgpaaGreatSn2
import Derived.Test.YtojkhlijbpmgpaaGreatRw0
set_option linter.unusedSimpArgs false
set_option linter.unusedVariables false
set_option linter.unusedSectionVars false
namespace Go.Proofs.YtojkhlijbpmgpaaGreat
open Go Am
set_option maxRecDepth 100000
theorem strataLeast_true (I : List (List D)) (hI : Ins Tryz.prog Tryz.f9.params.toList I) : run tb 0 I.flatten = some [.bool true] := by
 rw [Tryz.params9] at hI
 obtain _ | ⟨m1, h1, _, hI⟩ := hI
 cases hI
 obtain ⟨x1, rfl, _⟩ := wt_ints h1
 exact least32_run _
end Go.Proofs.YtojkhlijbpmgpaaGreat
