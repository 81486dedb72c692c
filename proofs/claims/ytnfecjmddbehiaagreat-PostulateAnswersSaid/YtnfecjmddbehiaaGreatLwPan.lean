/- What functions of the program compute: lemmas. -/
import Derived.Test.YtnfecjmddbehiaaGreatAn37
import Derived.Test.YtnfecjmddbehiaaGreatRw0
set_option linter.unusedSimpArgs false
set_option linter.unusedVariables false
set_option linter.unusedSectionVars false
namespace Go.Proofs.YtnfecjmddbehiaaGreat
open Go Am
set_option maxRecDepth 100000
theorem postulateAnswers_true (I:List (List D)) (hI:Ins Tryz.prog Tryz.f4.params.toList I):run tb 0 I.flatten=some [.bool true]:=by
 rw[Tryz.params4] at hI;obtain _|⟨m1,h1,_,hI⟩:=hI;obtain _|⟨m2,h2,_,hI⟩:=hI;obtain _|⟨m3,h3,_,hI⟩:=hI;obtain _|⟨m4,h4,_,hI⟩:=hI;cases hI;obtain ⟨x1,y1,rfl,g1,k1⟩:=qtkb h1;obtain ⟨x2,rfl,g2,k2⟩:=qttb h2;obtain ⟨x3,rfl,_⟩:=qieb h3;obtain ⟨x4,rfl⟩:=qzgb h4;exact qmt x1 y1 x2 x3 x4 (by unfold maxLen at g1;omega) (fun r hr=>by have:=k1 r hr;unfold maxLen at this;omega) (fun s hs=>by have:=k2 s hs;unfold maxLen at this;omega)
end Go.Proofs.YtnfecjmddbehiaaGreat
