/-
  NARROWER THAN 'FOR EVERY INPUT', by the rows' own cells (each row's printed sentence says how): OrderAnswers: loops · ChangeAnswers: loops.
  DERIVED. THE GIVEN ROWS OF THIS SEAT. 2 by the template 'for every input the law returns true; each argument reads behind the call as it read before'; 0 by the template 'total and deterministic' (their statements: YtjedjjooidohhaaGreatTotals.lean).
  GIVEN WITH THE SEED: the statements are not yours to turn. If you find one false, say at which input.
  Laid BY PROGRAM, IN A SANDBOX (cutbox-rows.mjs): the forced cells as the released guide's own fill.sh prints them over the translation db43bda02050d8b0… (all of the seat's roots in one cut). By AI agents, Wed Nov 11 2026. No macro, syntax, notation, axiom, sorry.
-/
import Derived.Test.YtjedjjooidohhaaGreatChecked
import GoSem.Claim
import GoSem.ClaimJoined
import GoSem.ClaimMapViews
import Derived.JoinedTies
import Derived.KernelRfl
namespace Go.Proofs.YtjedjjooidohhaaGreat
/- THE CELL 'sum', in the pinned program and in every row, IS THE sha256 OF THE DUMP (.gsa) THAT YtjedjjooidohhaaGreatProg.lean LOADS. Nothing in Lean hashes anything: it is a label: what it is worth is what the hold of that sum in a sandbox is worth. -/
noncomputable def Tryz.pinned : Pinned := { name := "ytjedjjooidohhaagreat", sum := "db43bda02050d8b0cbe000c4e3875c54088c1884a8e0855bfc6b68fe4278e091", checked := Tryz.checked }
namespace Rows
def none {H : Type} : Left H := { results := [], args := [] }

/-- 'deliberationlaw31.OrderAnswers': WHATEVER THE INPUT: true; the input reads as it did. -/
def orderAnswersSpec : ChangeSpec := { name := "orderAnswers", fn := fun _ => fun
  | [d1, d2, d3, d4] => { results := [.lit (.bool true)], args := [d1, d2, d3, d4] }
  | _ => none }
def orderAnswersRow : OpenClaim := { program := "ytjedjjooidohhaagreat", sum := "db43bda02050d8b0cbe000c4e3875c54088c1884a8e0855bfc6b68fe4278e091", func := "deliberation/deliberationlaw31.OrderAnswers", spec := "orderAnswers", unfollowed := true, recurses := true, loops := true, apart := false }
def OrderAnswersSaid : Prop := orderAnswersRow.holds Tryz.pinned (OpenSpec.ofChange orderAnswersSpec)

/-- ITS FALSE NEIGHBOUR: 'it returns false'. Refute it at one input. -/
def orderAnswersWrong : ChangeSpec := { name := "orderAnswers", fn := fun _ => fun
  | [d1, d2, d3, d4] => { results := [.lit (.bool false)], args := [d1, d2, d3, d4] }
  | _ => none }
def OrderAnswersWrongFalsely : Prop := orderAnswersRow.holds Tryz.pinned (OpenSpec.ofChange orderAnswersWrong)

/-- 'deliberationlaw33.ChangeAnswers': WHATEVER THE INPUT: true; the input reads as it did. -/
def changeAnswersSpec : ChangeSpec := { name := "changeAnswers", fn := fun _ => fun
  | [d1, d2, d3] => { results := [.lit (.bool true)], args := [d1, d2, d3] }
  | _ => none }
def changeAnswersRow : OpenClaim := { program := "ytjedjjooidohhaagreat", sum := "db43bda02050d8b0cbe000c4e3875c54088c1884a8e0855bfc6b68fe4278e091", func := "deliberation/deliberationlaw33.ChangeAnswers", spec := "changeAnswers", unfollowed := true, recurses := true, loops := true, apart := false }
def ChangeAnswersSaid : Prop := changeAnswersRow.holds Tryz.pinned (OpenSpec.ofChange changeAnswersSpec)

/-- ITS FALSE NEIGHBOUR: 'it returns false'. Refute it at one input. -/
def changeAnswersWrong : ChangeSpec := { name := "changeAnswers", fn := fun _ => fun
  | [d1, d2, d3] => { results := [.lit (.bool false)], args := [d1, d2, d3] }
  | _ => none }
def ChangeAnswersWrongFalsely : Prop := changeAnswersRow.holds Tryz.pinned (OpenSpec.ofChange changeAnswersWrong)

/- THE SECOND FORM. 'bulk': how many values and letters a reading holds, each counted each time it is reached (what is shared counts as often as it is met; a slice's spare places count too). A statement '..UptoSaid' is the law's where the arguments, and the package variables that the reading takes, are together of bulk at most 1048576: NARROWER than '..Said'. Prove '..Said' where nothing that the law and all that it calls make is longer than what came in: it says more and counts as full. Else prove '..UptoSaid'. A law counts once. -/
mutual
def uptoBulk {H : Type} : DataW H → Nat
  | .lit (.string bytes) => bytes.length + 1
  | .lit _ => 1
  | .nil => 1
  | .ptr d => uptoBulk d + 1
  | .slice elems spare => uptoBulkAll elems + uptoBulkAll spare + 1
  | .agg parts => uptoBulkAll parts + 1
  | .iface _ d => uptoBulk d + 1
  | .map entries => uptoBulkEntries entries + 1
  | .held _ => 1
def uptoBulkAll {H : Type} : List (DataW H) → Nat
  | [] => 0
  | d :: r => uptoBulk d + uptoBulkAll r
def uptoBulkEntries {H : Type} : List (Lit × DataW H) → Nat
  | [] => 0
  | x :: r => uptoBulkEntry x + uptoBulkEntries r
def uptoBulkEntry {H : Type} : Lit × DataW H → Nat
  | (.string bytes, d) => bytes.length + uptoBulk d + 1
  | (_, d) => uptoBulk d + 1
 end
def uptoSmall : (H : Type) → List (DataW H) → Bool := fun _ ds => decide (uptoBulkAll ds ≤ 1048576)
def OpenSpec.upto (s : _root_.Go.ChangeSpec) : _root_.Go.OpenSpec := { _root_.Go.OpenSpec.ofChange s with cond := some uptoSmall }

/-- 'deliberationlaw31.OrderAnswers', WHERE WHAT IT READS IS OF BULK AT MOST 1048576: true; the input reads as it did. -/
def orderAnswersUptoRow : OpenClaim := { program := "ytjedjjooidohhaagreat", sum := "db43bda02050d8b0cbe000c4e3875c54088c1884a8e0855bfc6b68fe4278e091", func := "deliberation/deliberationlaw31.OrderAnswers", spec := "orderAnswers", unfollowed := true, recurses := true, loops := true, apart := false, narrowed := true }
def OrderAnswersUptoSaid : Prop := orderAnswersUptoRow.holds Tryz.pinned (OpenSpec.upto orderAnswersSpec)

/-- 'deliberationlaw33.ChangeAnswers', WHERE WHAT IT READS IS OF BULK AT MOST 1048576: true; the input reads as it did. -/
def changeAnswersUptoRow : OpenClaim := { program := "ytjedjjooidohhaagreat", sum := "db43bda02050d8b0cbe000c4e3875c54088c1884a8e0855bfc6b68fe4278e091", func := "deliberation/deliberationlaw33.ChangeAnswers", spec := "changeAnswers", unfollowed := true, recurses := true, loops := true, apart := false, narrowed := true }
def ChangeAnswersUptoSaid : Prop := changeAnswersUptoRow.holds Tryz.pinned (OpenSpec.upto changeAnswersSpec)

end Rows
end Go.Proofs.YtjedjjooidohhaaGreat
