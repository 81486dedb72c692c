/- What functions of the program compute: lemmas. -/
import Derived.Test.YtojkhlijbpmgpaaGreatSn1
import Derived.Test.YtojkhlijbpmgpaaGreatRw0
set_option linter.unusedSimpArgs false
set_option linter.unusedVariables false
set_option linter.unusedSectionVars false
namespace Go.Proofs.YtojkhlijbpmgpaaGreat
open Go Am
set_option maxRecDepth 100000
theorem strataRational_true (I : List (List D)) (hI : Ins Tryz.prog Tryz.f8.params.toList I) : run tb 0 I.flatten = some [.bool true] := by
 rw [Tryz.params8] at hI
 obtain _ | ⟨m1,h1,_,hI⟩ := hI
 cases hI
 obtain ⟨x1,rfl,_⟩ := wt_ints h1
 exact rational_run x1
end Go.Proofs.YtojkhlijbpmgpaaGreat
