/- What functions of the program compute: lemmas. -/
import Derived.Test.YtojkhlijbpmgpaaGreatBr5
import Derived.Test.YtojkhlijbpmgpaaGreatRw1z
set_option linter.unusedSimpArgs false
set_option linter.unusedVariables false
set_option linter.unusedSectionVars false
namespace Go.Proofs.YtojkhlijbpmgpaaGreat
open Go Am
set_option maxRecDepth 100000
theorem iteratePostulates_true (I : List (List D)) (hI : Ins Tryz.prog Tryz.f11.params.toList I) : run tb 1 I.flatten = some [.bool true] := by
 rw [Tryz.params11] at hI
 obtain _ | ⟨m1, h1, _, hI⟩ := hI
 cases hI
 obtain ⟨x1, rfl, _⟩ := wt_ints h1
 exact ipost_run x1
end Go.Proofs.YtojkhlijbpmgpaaGreat
