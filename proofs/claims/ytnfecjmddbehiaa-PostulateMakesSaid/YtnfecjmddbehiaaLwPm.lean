/- What functions of the program compute: lemmas. -/
import Derived.Test.YtnfecjmddbehiaaLk
import Derived.Test.YtnfecjmddbehiaaRw0
set_option linter.unusedSimpArgs false
set_option linter.unusedVariables false
set_option linter.unusedSectionVars false
namespace Go.Proofs.Ytnfecjmddbehiaa
open Go Am
set_option maxRecDepth 100000
theorem postulateMakes_true (I : List (List D)) (hI : Ins Try.prog Try.f4.params.toList I) : run tb 1 I.flatten = some [.bool true] := by
 rw [Try.params4] at hI
 obtain _ | ⟨m1,h1,_,hI⟩ := hI
 obtain _ | ⟨m2,h2,_,hI⟩ := hI
 obtain _ | ⟨m3,h3,_,hI⟩ := hI
 cases hI
 obtain ⟨n1,r1,rfl,g1⟩ := wt_order h1
 obtain ⟨x2,rfl,_⟩ := wt_ints h2
 obtain ⟨x3,rfl⟩ := wt_int h3
 exact makes_run n1 r1 (fun s hs => by have := g1 s hs; unfold maxLen at this; omega) x2 x3
end Go.Proofs.Ytnfecjmddbehiaa
