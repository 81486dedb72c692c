/- What functions of the program compute: lemmas. -/
import Derived.Test.YtnfecjmddbehiaaGreatPo
import Derived.Test.YtnfecjmddbehiaaGreatRw0
set_option linter.unusedSimpArgs false
set_option linter.unusedVariables false
set_option linter.unusedSectionVars false
namespace Go.Proofs.YtnfecjmddbehiaaGreat
open Go Am
set_option maxRecDepth 100000
theorem postulateRepresents_true (I : List (List D)) (hI : Ins Tryz.prog Tryz.f3.params.toList I) : run tb 0 I.flatten=some [.bool true]:=by
 rw [Tryz.params3] at hI
 obtain _ | ⟨m1,h1,_,hI⟩:=hI
 cases hI
 obtain ⟨x1,rfl,_⟩:=wt_ints h1
 exact represents_run x1
end Go.Proofs.YtnfecjmddbehiaaGreat
