/- What functions of the program compute: lemmas. -/
import Derived.Test.YtjicfdolcieliaaFl7
import Derived.Test.YtjicfdolcieliaaRw1o
set_option linter.unusedSimpArgs false
set_option linter.unusedVariables false
set_option linter.unusedSectionVars false
namespace Go.Proofs.Ytjicfdolcieliaa
open Go Am
set_option maxRecDepth 100000
theorem orderMakes_true (I : List (List D)) (hI : Ins Try.prog Try.f4.params.toList I) : run tb 1 I.flatten = some [.bool true] := by
 rw [Try.params4] at hI
 obtain _ | ⟨m1,h1,_,hI⟩ := hI
 obtain _ | ⟨m2,h2,_,hI⟩ := hI
 obtain _ | ⟨m3,h3,_,hI⟩ := hI
 obtain _ | ⟨m4,h4,_,hI⟩ := hI
 obtain _ | ⟨m5,h5,_,hI⟩ := hI
 cases hI
 obtain ⟨n1,r1,rfl,g1⟩ := wt_order h1
 obtain ⟨n2,r2,rfl,g2⟩ := wt_order h2
 obtain ⟨x3,rfl,_⟩ := wt_ints h3
 obtain ⟨x4,rfl,_⟩ := wt_ints h4
 obtain ⟨x5,rfl⟩ := wt_u64s h5
 exact makes_run n1 r1 n2 r2 x3 x4 x5 (fun s hs => Nat.lt_of_le_of_lt (g1 s hs) (by decide)) fun s hs => Nat.lt_of_le_of_lt (g2 s hs) (by decide)
end Go.Proofs.Ytjicfdolcieliaa
