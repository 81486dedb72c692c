/- What functions of the program compute: lemmas. -/
import Derived.Test.YtojkhlijbpmgpaaGreatSk1
import Derived.Test.YtojkhlijbpmgpaaGreatRw1
set_option linter.unusedSimpArgs false
set_option linter.unusedVariables false
set_option linter.unusedSectionVars false
namespace Go.Proofs.YtojkhlijbpmgpaaGreat
open Go Am
set_option maxRecDepth 100000
theorem strataRanks_true (I : List (List D)) (hI : Ins Tryz.prog Tryz.f12.params.toList I) : run tb 0 I.flatten = some [.bool true] := by
 rw [Tryz.params12] at hI
 obtain _ | ⟨m1,h1,_,hI⟩ := hI
 obtain _ | ⟨m2,h2,_,hI⟩ := hI
 obtain _ | ⟨m3,h3,_,hI⟩ := hI
 cases hI
 obtain ⟨n1,r1,rfl,g1⟩ := wt_order h1
 obtain ⟨x2,rfl,g2⟩ := wt_forms h2
 obtain ⟨x3,rfl,_⟩ := wt_ints h3
 exact ranks_run _ _ _ _ (Nat.lt_of_le_of_lt g2 (by decide)) (fun s hs => Nat.lt_of_le_of_lt (g1 s hs) (by decide))
end Go.Proofs.YtojkhlijbpmgpaaGreat
