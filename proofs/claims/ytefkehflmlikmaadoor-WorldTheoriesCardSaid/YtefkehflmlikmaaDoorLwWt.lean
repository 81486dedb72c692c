/- Plain programs of the functions of the program and lemmas about what they compute. -/
import Derived.Test.YtefkehflmlikmaaDoorWv
import Derived.Test.YtefkehflmlikmaaDoorRw0
set_option linter.unusedSimpArgs false
set_option linter.unusedVariables false
set_option linter.unusedSectionVars false
namespace Go.Proofs.YtefkehflmlikmaaDoor
open Go Am
set_option maxRecDepth 100000
theorem worldTheories_true (I : List (List D)) (hI : Ins Tryd.prog Tryd.f7.params.toList I) : run tb 0 I.flatten = some [.bool true] := by
 rw [Tryd.params7] at hI
 obtain _ | ⟨n1, h1, _, hI⟩ := hI
 obtain _ | ⟨n2, h2, _, hI⟩ := hI
 obtain _ | ⟨n3, h3, _, hI⟩ := hI
 cases hI
 obtain ⟨raw, rfl, hr, _⟩ := wt_strs h1
 obtain ⟨S, rfl⟩ := wt_u64 h2
 obtain ⟨l, rfl, _⟩ := wt_ints h3
 exact theories_run raw S l hr
end Go.Proofs.YtefkehflmlikmaaDoor
