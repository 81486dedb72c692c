/-
  No cell of these rows narrows 'for every input' (looked for: loops, veiled, ifaces, maps, wideKeys, modest, calm, conditions, laid).
  DERIVED. THE GIVEN ROWS OF THIS SEAT. 8 by the template 'for every input the law returns true; each argument reads behind the call as it read before'; 0 by the template 'total and deterministic' (their statements: YtjedjjooidohhaaTotals.lean).
  GIVEN WITH THE SEED: the statements are not yours to turn. If you find one false, say at which input.
  Laid BY PROGRAM, IN A SANDBOX (cutbox-rows.mjs): the forced cells as the released guide's own fill.sh prints them over the translation 4fb5447cd1ad9de6… (all of the seat's roots in one cut). By AI agents, Wed Nov 11 2026. No macro, syntax, notation, axiom, sorry.
-/
import Derived.Test.YtjedjjooidohhaaChecked
import GoSem.Claim
import GoSem.ClaimJoined
import GoSem.ClaimMapViews
import Derived.JoinedTies
import Derived.KernelRfl
namespace Go.Proofs.Ytjedjjooidohhaa
/- THE CELL 'sum', in the pinned program and in every row, IS THE sha256 OF THE DUMP (.gsa) THAT YtjedjjooidohhaaProg.lean LOADS. Nothing in Lean hashes anything: it is a label: what it is worth is what the hold of that sum in a sandbox is worth. -/
noncomputable def Try.pinned : Pinned := { name := "ytjedjjooidohhaa", sum := "4fb5447cd1ad9de65338135c3f899cbed237d54d023a8636529e70f65032539c", checked := Try.checked }
namespace Rows
def none {H : Type} : Left H := { results := [], args := [] }

/-- 'deliberationlaw31.OrderLeast': WHATEVER THE INPUT: true; the input reads as it did. -/
def orderLeastSpec : ChangeSpec := { name := "orderLeast", fn := fun _ => fun
  | [d] => { results := [.lit (.bool true)], args := [d] }
  | _ => none }
def orderLeastRow : OpenClaim := { program := "ytjedjjooidohhaa", sum := "4fb5447cd1ad9de65338135c3f899cbed237d54d023a8636529e70f65032539c", func := "deliberation/deliberationlaw31.OrderLeast", spec := "orderLeast", unfollowed := true, recurses := true, apart := false }
def OrderLeastSaid : Prop := orderLeastRow.holds Try.pinned (OpenSpec.ofChange orderLeastSpec)

/-- ITS FALSE NEIGHBOUR: 'it returns false'. Refute it at one input. -/
def orderLeastWrong : ChangeSpec := { name := "orderLeast", fn := fun _ => fun
  | [d] => { results := [.lit (.bool false)], args := [d] }
  | _ => none }
def OrderLeastWrongFalsely : Prop := orderLeastRow.holds Try.pinned (OpenSpec.ofChange orderLeastWrong)

/-- 'deliberationlaw31.OrderLevels': WHATEVER THE INPUT: true; the input reads as it did. -/
def orderLevelsSpec : ChangeSpec := { name := "orderLevels", fn := fun _ => fun
  | [d1, d2] => { results := [.lit (.bool true)], args := [d1, d2] }
  | _ => none }
def orderLevelsRow : OpenClaim := { program := "ytjedjjooidohhaa", sum := "4fb5447cd1ad9de65338135c3f899cbed237d54d023a8636529e70f65032539c", func := "deliberation/deliberationlaw31.OrderLevels", spec := "orderLevels", unfollowed := true, recurses := true, apart := false }
def OrderLevelsSaid : Prop := orderLevelsRow.holds Try.pinned (OpenSpec.ofChange orderLevelsSpec)

/-- ITS FALSE NEIGHBOUR: 'it returns false'. Refute it at one input. -/
def orderLevelsWrong : ChangeSpec := { name := "orderLevels", fn := fun _ => fun
  | [d1, d2] => { results := [.lit (.bool false)], args := [d1, d2] }
  | _ => none }
def OrderLevelsWrongFalsely : Prop := orderLevelsRow.holds Try.pinned (OpenSpec.ofChange orderLevelsWrong)

/-- 'deliberationlaw31.OrderRefines': WHATEVER THE INPUT: true; the input reads as it did. -/
def orderRefinesSpec : ChangeSpec := { name := "orderRefines", fn := fun _ => fun
  | [d] => { results := [.lit (.bool true)], args := [d] }
  | _ => none }
def orderRefinesRow : OpenClaim := { program := "ytjedjjooidohhaa", sum := "4fb5447cd1ad9de65338135c3f899cbed237d54d023a8636529e70f65032539c", func := "deliberation/deliberationlaw31.OrderRefines", spec := "orderRefines", unfollowed := true, recurses := true, apart := false }
def OrderRefinesSaid : Prop := orderRefinesRow.holds Try.pinned (OpenSpec.ofChange orderRefinesSpec)

/-- ITS FALSE NEIGHBOUR: 'it returns false'. Refute it at one input. -/
def orderRefinesWrong : ChangeSpec := { name := "orderRefines", fn := fun _ => fun
  | [d] => { results := [.lit (.bool false)], args := [d] }
  | _ => none }
def OrderRefinesWrongFalsely : Prop := orderRefinesRow.holds Try.pinned (OpenSpec.ofChange orderRefinesWrong)

/-- 'deliberationlaw31.OrderMakes': WHATEVER THE INPUT: true; the input reads as it did. -/
def orderMakesSpec : ChangeSpec := { name := "orderMakes", fn := fun _ => fun
  | [d1, d2, d3, d4, d5] => { results := [.lit (.bool true)], args := [d1, d2, d3, d4, d5] }
  | _ => none }
def orderMakesRow : OpenClaim := { program := "ytjedjjooidohhaa", sum := "4fb5447cd1ad9de65338135c3f899cbed237d54d023a8636529e70f65032539c", func := "deliberation/deliberationlaw31.OrderMakes", spec := "orderMakes", unfollowed := true, recurses := true, apart := false }
def OrderMakesSaid : Prop := orderMakesRow.holds Try.pinned (OpenSpec.ofChange orderMakesSpec)

/-- ITS FALSE NEIGHBOUR: 'it returns false'. Refute it at one input. -/
def orderMakesWrong : ChangeSpec := { name := "orderMakes", fn := fun _ => fun
  | [d1, d2, d3, d4, d5] => { results := [.lit (.bool false)], args := [d1, d2, d3, d4, d5] }
  | _ => none }
def OrderMakesWrongFalsely : Prop := orderMakesRow.holds Try.pinned (OpenSpec.ofChange orderMakesWrong)

/-- 'deliberationlaw33.ChangeContraction': WHATEVER THE INPUT: true; the input reads as it did. -/
def changeContractionSpec : ChangeSpec := { name := "changeContraction", fn := fun _ => fun
  | [d] => { results := [.lit (.bool true)], args := [d] }
  | _ => none }
def changeContractionRow : OpenClaim := { program := "ytjedjjooidohhaa", sum := "4fb5447cd1ad9de65338135c3f899cbed237d54d023a8636529e70f65032539c", func := "deliberation/deliberationlaw33.ChangeContraction", spec := "changeContraction", unfollowed := true, recurses := true, apart := false }
def ChangeContractionSaid : Prop := changeContractionRow.holds Try.pinned (OpenSpec.ofChange changeContractionSpec)

/-- ITS FALSE NEIGHBOUR: 'it returns false'. Refute it at one input. -/
def changeContractionWrong : ChangeSpec := { name := "changeContraction", fn := fun _ => fun
  | [d] => { results := [.lit (.bool false)], args := [d] }
  | _ => none }
def ChangeContractionWrongFalsely : Prop := changeContractionRow.holds Try.pinned (OpenSpec.ofChange changeContractionWrong)

/-- 'deliberationlaw33.ChangeWithdrawal': WHATEVER THE INPUT: true; the input reads as it did. -/
def changeWithdrawalSpec : ChangeSpec := { name := "changeWithdrawal", fn := fun _ => fun
  | [d] => { results := [.lit (.bool true)], args := [d] }
  | _ => none }
def changeWithdrawalRow : OpenClaim := { program := "ytjedjjooidohhaa", sum := "4fb5447cd1ad9de65338135c3f899cbed237d54d023a8636529e70f65032539c", func := "deliberation/deliberationlaw33.ChangeWithdrawal", spec := "changeWithdrawal", unfollowed := true, recurses := true, apart := false }
def ChangeWithdrawalSaid : Prop := changeWithdrawalRow.holds Try.pinned (OpenSpec.ofChange changeWithdrawalSpec)

/-- ITS FALSE NEIGHBOUR: 'it returns false'. Refute it at one input. -/
def changeWithdrawalWrong : ChangeSpec := { name := "changeWithdrawal", fn := fun _ => fun
  | [d] => { results := [.lit (.bool false)], args := [d] }
  | _ => none }
def ChangeWithdrawalWrongFalsely : Prop := changeWithdrawalRow.holds Try.pinned (OpenSpec.ofChange changeWithdrawalWrong)

/-- 'deliberationlaw33.ChangeIdentities': WHATEVER THE INPUT: true; the input reads as it did. -/
def changeIdentitiesSpec : ChangeSpec := { name := "changeIdentities", fn := fun _ => fun
  | [d] => { results := [.lit (.bool true)], args := [d] }
  | _ => none }
def changeIdentitiesRow : OpenClaim := { program := "ytjedjjooidohhaa", sum := "4fb5447cd1ad9de65338135c3f899cbed237d54d023a8636529e70f65032539c", func := "deliberation/deliberationlaw33.ChangeIdentities", spec := "changeIdentities", unfollowed := true, recurses := true, apart := false }
def ChangeIdentitiesSaid : Prop := changeIdentitiesRow.holds Try.pinned (OpenSpec.ofChange changeIdentitiesSpec)

/-- ITS FALSE NEIGHBOUR: 'it returns false'. Refute it at one input. -/
def changeIdentitiesWrong : ChangeSpec := { name := "changeIdentities", fn := fun _ => fun
  | [d] => { results := [.lit (.bool false)], args := [d] }
  | _ => none }
def ChangeIdentitiesWrongFalsely : Prop := changeIdentitiesRow.holds Try.pinned (OpenSpec.ofChange changeIdentitiesWrong)

/-- 'deliberationlaw33.ChangeRevision': WHATEVER THE INPUT: true; the input reads as it did. -/
def changeRevisionSpec : ChangeSpec := { name := "changeRevision", fn := fun _ => fun
  | [d] => { results := [.lit (.bool true)], args := [d] }
  | _ => none }
def changeRevisionRow : OpenClaim := { program := "ytjedjjooidohhaa", sum := "4fb5447cd1ad9de65338135c3f899cbed237d54d023a8636529e70f65032539c", func := "deliberation/deliberationlaw33.ChangeRevision", spec := "changeRevision", unfollowed := true, recurses := true, apart := false }
def ChangeRevisionSaid : Prop := changeRevisionRow.holds Try.pinned (OpenSpec.ofChange changeRevisionSpec)

/-- ITS FALSE NEIGHBOUR: 'it returns false'. Refute it at one input. -/
def changeRevisionWrong : ChangeSpec := { name := "changeRevision", fn := fun _ => fun
  | [d] => { results := [.lit (.bool false)], args := [d] }
  | _ => none }
def ChangeRevisionWrongFalsely : Prop := changeRevisionRow.holds Try.pinned (OpenSpec.ofChange changeRevisionWrong)

/- THE SECOND FORM. 'bulk': how many values and letters a reading holds, each counted each time it is reached (what is shared counts as often as it is met; a slice's spare places count too). A statement '..UptoSaid' is the law's where the arguments, and the package variables that the reading takes, are together of bulk at most 1048576: NARROWER than '..Said'. Prove '..Said' where nothing that the law and all that it calls make is longer than what came in: it says more and counts as full. Else prove '..UptoSaid'. A law counts once. -/
mutual
def uptoBulk {H : Type} : DataW H → Nat
  | .lit (.string bytes) => bytes.length + 1
  | .lit _ => 1
  | .nil => 1
  | .ptr d => uptoBulk d + 1
  | .slice elems spare => uptoBulkAll elems + uptoBulkAll spare + 1
  | .agg parts => uptoBulkAll parts + 1
  | .iface _ d => uptoBulk d + 1
  | .map entries => uptoBulkEntries entries + 1
  | .held _ => 1
def uptoBulkAll {H : Type} : List (DataW H) → Nat
  | [] => 0
  | d :: r => uptoBulk d + uptoBulkAll r
def uptoBulkEntries {H : Type} : List (Lit × DataW H) → Nat
  | [] => 0
  | x :: r => uptoBulkEntry x + uptoBulkEntries r
def uptoBulkEntry {H : Type} : Lit × DataW H → Nat
  | (.string bytes, d) => bytes.length + uptoBulk d + 1
  | (_, d) => uptoBulk d + 1
 end
def uptoSmall : (H : Type) → List (DataW H) → Bool := fun _ ds => decide (uptoBulkAll ds ≤ 1048576)
def OpenSpec.upto (s : _root_.Go.ChangeSpec) : _root_.Go.OpenSpec := { _root_.Go.OpenSpec.ofChange s with cond := some uptoSmall }

/-- 'deliberationlaw31.OrderLeast', WHERE WHAT IT READS IS OF BULK AT MOST 1048576: true; the input reads as it did. -/
def orderLeastUptoRow : OpenClaim := { program := "ytjedjjooidohhaa", sum := "4fb5447cd1ad9de65338135c3f899cbed237d54d023a8636529e70f65032539c", func := "deliberation/deliberationlaw31.OrderLeast", spec := "orderLeast", unfollowed := true, recurses := true, apart := false, narrowed := true }
def OrderLeastUptoSaid : Prop := orderLeastUptoRow.holds Try.pinned (OpenSpec.upto orderLeastSpec)

/-- 'deliberationlaw31.OrderLevels', WHERE WHAT IT READS IS OF BULK AT MOST 1048576: true; the input reads as it did. -/
def orderLevelsUptoRow : OpenClaim := { program := "ytjedjjooidohhaa", sum := "4fb5447cd1ad9de65338135c3f899cbed237d54d023a8636529e70f65032539c", func := "deliberation/deliberationlaw31.OrderLevels", spec := "orderLevels", unfollowed := true, recurses := true, apart := false, narrowed := true }
def OrderLevelsUptoSaid : Prop := orderLevelsUptoRow.holds Try.pinned (OpenSpec.upto orderLevelsSpec)

/-- 'deliberationlaw31.OrderRefines', WHERE WHAT IT READS IS OF BULK AT MOST 1048576: true; the input reads as it did. -/
def orderRefinesUptoRow : OpenClaim := { program := "ytjedjjooidohhaa", sum := "4fb5447cd1ad9de65338135c3f899cbed237d54d023a8636529e70f65032539c", func := "deliberation/deliberationlaw31.OrderRefines", spec := "orderRefines", unfollowed := true, recurses := true, apart := false, narrowed := true }
def OrderRefinesUptoSaid : Prop := orderRefinesUptoRow.holds Try.pinned (OpenSpec.upto orderRefinesSpec)

/-- 'deliberationlaw31.OrderMakes', WHERE WHAT IT READS IS OF BULK AT MOST 1048576: true; the input reads as it did. -/
def orderMakesUptoRow : OpenClaim := { program := "ytjedjjooidohhaa", sum := "4fb5447cd1ad9de65338135c3f899cbed237d54d023a8636529e70f65032539c", func := "deliberation/deliberationlaw31.OrderMakes", spec := "orderMakes", unfollowed := true, recurses := true, apart := false, narrowed := true }
def OrderMakesUptoSaid : Prop := orderMakesUptoRow.holds Try.pinned (OpenSpec.upto orderMakesSpec)

/-- 'deliberationlaw33.ChangeContraction', WHERE WHAT IT READS IS OF BULK AT MOST 1048576: true; the input reads as it did. -/
def changeContractionUptoRow : OpenClaim := { program := "ytjedjjooidohhaa", sum := "4fb5447cd1ad9de65338135c3f899cbed237d54d023a8636529e70f65032539c", func := "deliberation/deliberationlaw33.ChangeContraction", spec := "changeContraction", unfollowed := true, recurses := true, apart := false, narrowed := true }
def ChangeContractionUptoSaid : Prop := changeContractionUptoRow.holds Try.pinned (OpenSpec.upto changeContractionSpec)

/-- 'deliberationlaw33.ChangeWithdrawal', WHERE WHAT IT READS IS OF BULK AT MOST 1048576: true; the input reads as it did. -/
def changeWithdrawalUptoRow : OpenClaim := { program := "ytjedjjooidohhaa", sum := "4fb5447cd1ad9de65338135c3f899cbed237d54d023a8636529e70f65032539c", func := "deliberation/deliberationlaw33.ChangeWithdrawal", spec := "changeWithdrawal", unfollowed := true, recurses := true, apart := false, narrowed := true }
def ChangeWithdrawalUptoSaid : Prop := changeWithdrawalUptoRow.holds Try.pinned (OpenSpec.upto changeWithdrawalSpec)

/-- 'deliberationlaw33.ChangeIdentities', WHERE WHAT IT READS IS OF BULK AT MOST 1048576: true; the input reads as it did. -/
def changeIdentitiesUptoRow : OpenClaim := { program := "ytjedjjooidohhaa", sum := "4fb5447cd1ad9de65338135c3f899cbed237d54d023a8636529e70f65032539c", func := "deliberation/deliberationlaw33.ChangeIdentities", spec := "changeIdentities", unfollowed := true, recurses := true, apart := false, narrowed := true }
def ChangeIdentitiesUptoSaid : Prop := changeIdentitiesUptoRow.holds Try.pinned (OpenSpec.upto changeIdentitiesSpec)

/-- 'deliberationlaw33.ChangeRevision', WHERE WHAT IT READS IS OF BULK AT MOST 1048576: true; the input reads as it did. -/
def changeRevisionUptoRow : OpenClaim := { program := "ytjedjjooidohhaa", sum := "4fb5447cd1ad9de65338135c3f899cbed237d54d023a8636529e70f65032539c", func := "deliberation/deliberationlaw33.ChangeRevision", spec := "changeRevision", unfollowed := true, recurses := true, apart := false, narrowed := true }
def ChangeRevisionUptoSaid : Prop := changeRevisionUptoRow.holds Try.pinned (OpenSpec.upto changeRevisionSpec)

end Rows
end Go.Proofs.Ytjedjjooidohhaa
