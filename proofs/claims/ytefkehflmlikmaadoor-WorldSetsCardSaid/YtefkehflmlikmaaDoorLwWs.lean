/- Plain programs of the functions of the program and lemmas about what they compute. -/
import Derived.Test.YtefkehflmlikmaaDoorWv
import Derived.Test.YtefkehflmlikmaaDoorRw0
set_option linter.unusedSimpArgs false
set_option linter.unusedVariables false
set_option linter.unusedSectionVars false
namespace Go.Proofs.YtefkehflmlikmaaDoor
open Go Am
set_option maxRecDepth 100000
theorem worldSets_true (I : List (List D)) (hI : Ins Tryd.prog Tryd.f12.params.toList I) : run tb 0 I.flatten = some [.bool true] := by
 rw [Tryd.params12] at hI
 obtain _ | ⟨m1, h1, _, hI⟩ := hI
 obtain _ | ⟨m2, h2, _, hI⟩ := hI
 obtain _ | ⟨m3, h3, _, hI⟩ := hI
 obtain _ | ⟨m4, h4, _, hI⟩ := hI
 cases hI
 obtain ⟨x1, rfl, g1, k1⟩ := wt_strs h1
 obtain ⟨x2, rfl⟩ := wt_u64 h2
 obtain ⟨x3, rfl, g3⟩ := wt_str h3
 obtain ⟨x4, rfl, _⟩ := wt_ints h4
 exact sets03_run x1 x2 x3 x4 g1
end Go.Proofs.YtefkehflmlikmaaDoor
