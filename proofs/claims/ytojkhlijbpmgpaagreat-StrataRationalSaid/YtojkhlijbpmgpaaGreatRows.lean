/-
  NARROWER THAN 'FOR EVERY INPUT', by the rows' own cells (each row's printed sentence says how): IterateAnswers: loops · IterateBreaches: loops · StrataRanks: loops · StrataConditionals: loops.
  DERIVED. THE GIVEN ROWS OF THIS SEAT. 12 by the template 'for every input the law returns true; each argument reads behind the call as it read before'; 0 by the template 'total and deterministic' (their statements: YtojkhlijbpmgpaaGreatTotals.lean).
  GIVEN WITH THE SEED: the statements are not yours to turn. If you find one false, say at which input.
  Laid BY PROGRAM, IN A SANDBOX (cutbox-rows.mjs): the forced cells as the released guide's own fill.sh prints them over the translation a5e6b297ef648bec… (all of the seat's roots in one cut). By AI agents, Wed Nov 11 2026. No macro, syntax, notation, axiom, sorry.
-/
import Derived.Test.YtojkhlijbpmgpaaGreatChecked
import GoSem.Claim
import GoSem.ClaimJoined
import GoSem.ClaimMapViews
import Derived.JoinedTies
import Derived.KernelRfl
namespace Go.Proofs.YtojkhlijbpmgpaaGreat
/- THE CELL 'sum', in the pinned program and in every row, IS THE sha256 OF THE DUMP (.gsa) THAT YtojkhlijbpmgpaaGreatProg.lean LOADS. Nothing in Lean hashes anything: it is a label: what it is worth is what the hold of that sum in a sandbox is worth. -/
noncomputable def Tryz.pinned : Pinned := { name := "ytojkhlijbpmgpaagreat", sum := "a5e6b297ef648bec75c50269e97539578e4e8a1f692644cc736266a1aacc8faf", checked := Tryz.checked }
namespace Rows
def none {H : Type} : Left H := { results := [], args := [] }

/-- 'deliberationlaw35.IterateKinds': WHATEVER THE INPUT: true; the input reads as it did. -/
def iterateKindsSpec : ChangeSpec := { name := "iterateKinds", fn := fun _ => fun
  | [d] => { results := [.lit (.bool true)], args := [d] }
  | _ => none }
def iterateKindsRow : OpenClaim := { program := "ytojkhlijbpmgpaagreat", sum := "a5e6b297ef648bec75c50269e97539578e4e8a1f692644cc736266a1aacc8faf", func := "deliberation/deliberationlaw35.IterateKinds", spec := "iterateKinds", unfollowed := true, recurses := true, apart := false }
def IterateKindsSaid : Prop := iterateKindsRow.holds Tryz.pinned (OpenSpec.ofChange iterateKindsSpec)

/-- ITS FALSE NEIGHBOUR: 'it returns false'. Refute it at one input. -/
def iterateKindsWrong : ChangeSpec := { name := "iterateKinds", fn := fun _ => fun
  | [d] => { results := [.lit (.bool false)], args := [d] }
  | _ => none }
def IterateKindsWrongFalsely : Prop := iterateKindsRow.holds Tryz.pinned (OpenSpec.ofChange iterateKindsWrong)

/-- 'deliberationlaw35.IterateBeliefs': WHATEVER THE INPUT: true; the input reads as it did. -/
def iterateBeliefsSpec : ChangeSpec := { name := "iterateBeliefs", fn := fun _ => fun
  | [d] => { results := [.lit (.bool true)], args := [d] }
  | _ => none }
def iterateBeliefsRow : OpenClaim := { program := "ytojkhlijbpmgpaagreat", sum := "a5e6b297ef648bec75c50269e97539578e4e8a1f692644cc736266a1aacc8faf", func := "deliberation/deliberationlaw35.IterateBeliefs", spec := "iterateBeliefs", unfollowed := true, recurses := true, apart := false }
def IterateBeliefsSaid : Prop := iterateBeliefsRow.holds Tryz.pinned (OpenSpec.ofChange iterateBeliefsSpec)

/-- ITS FALSE NEIGHBOUR: 'it returns false'. Refute it at one input. -/
def iterateBeliefsWrong : ChangeSpec := { name := "iterateBeliefs", fn := fun _ => fun
  | [d] => { results := [.lit (.bool false)], args := [d] }
  | _ => none }
def IterateBeliefsWrongFalsely : Prop := iterateBeliefsRow.holds Tryz.pinned (OpenSpec.ofChange iterateBeliefsWrong)

/-- 'deliberationlaw35.IterateTogether': WHATEVER THE INPUT: true; the input reads as it did. -/
def iterateTogetherSpec : ChangeSpec := { name := "iterateTogether", fn := fun _ => fun
  | [d] => { results := [.lit (.bool true)], args := [d] }
  | _ => none }
def iterateTogetherRow : OpenClaim := { program := "ytojkhlijbpmgpaagreat", sum := "a5e6b297ef648bec75c50269e97539578e4e8a1f692644cc736266a1aacc8faf", func := "deliberation/deliberationlaw35.IterateTogether", spec := "iterateTogether", unfollowed := true, recurses := true, apart := false }
def IterateTogetherSaid : Prop := iterateTogetherRow.holds Tryz.pinned (OpenSpec.ofChange iterateTogetherSpec)

/-- ITS FALSE NEIGHBOUR: 'it returns false'. Refute it at one input. -/
def iterateTogetherWrong : ChangeSpec := { name := "iterateTogether", fn := fun _ => fun
  | [d] => { results := [.lit (.bool false)], args := [d] }
  | _ => none }
def IterateTogetherWrongFalsely : Prop := iterateTogetherRow.holds Tryz.pinned (OpenSpec.ofChange iterateTogetherWrong)

/-- 'deliberationlaw35.IterateAnswers': WHATEVER THE INPUT: true; the input reads as it did. -/
def iterateAnswersSpec : ChangeSpec := { name := "iterateAnswers", fn := fun _ => fun
  | [d1, d2, d3, d4] => { results := [.lit (.bool true)], args := [d1, d2, d3, d4] }
  | _ => none }
def iterateAnswersRow : OpenClaim := { program := "ytojkhlijbpmgpaagreat", sum := "a5e6b297ef648bec75c50269e97539578e4e8a1f692644cc736266a1aacc8faf", func := "deliberation/deliberationlaw35.IterateAnswers", spec := "iterateAnswers", unfollowed := true, recurses := true, loops := true, apart := false }
def IterateAnswersSaid : Prop := iterateAnswersRow.holds Tryz.pinned (OpenSpec.ofChange iterateAnswersSpec)

/-- ITS FALSE NEIGHBOUR: 'it returns false'. Refute it at one input. -/
def iterateAnswersWrong : ChangeSpec := { name := "iterateAnswers", fn := fun _ => fun
  | [d1, d2, d3, d4] => { results := [.lit (.bool false)], args := [d1, d2, d3, d4] }
  | _ => none }
def IterateAnswersWrongFalsely : Prop := iterateAnswersRow.holds Tryz.pinned (OpenSpec.ofChange iterateAnswersWrong)

/-- 'deliberationlaw32.StrataEntrenchment': WHATEVER THE INPUT: true; the input reads as it did. -/
def strataEntrenchmentSpec : ChangeSpec := { name := "strataEntrenchment", fn := fun _ => fun
  | [d] => { results := [.lit (.bool true)], args := [d] }
  | _ => none }
def strataEntrenchmentRow : OpenClaim := { program := "ytojkhlijbpmgpaagreat", sum := "a5e6b297ef648bec75c50269e97539578e4e8a1f692644cc736266a1aacc8faf", func := "deliberation/deliberationlaw32.StrataEntrenchment", spec := "strataEntrenchment", unfollowed := true, recurses := true, apart := false }
def StrataEntrenchmentSaid : Prop := strataEntrenchmentRow.holds Tryz.pinned (OpenSpec.ofChange strataEntrenchmentSpec)

/-- ITS FALSE NEIGHBOUR: 'it returns false'. Refute it at one input. -/
def strataEntrenchmentWrong : ChangeSpec := { name := "strataEntrenchment", fn := fun _ => fun
  | [d] => { results := [.lit (.bool false)], args := [d] }
  | _ => none }
def StrataEntrenchmentWrongFalsely : Prop := strataEntrenchmentRow.holds Tryz.pinned (OpenSpec.ofChange strataEntrenchmentWrong)

/-- 'deliberationlaw32.StrataRational': WHATEVER THE INPUT: true; the input reads as it did. -/
def strataRationalSpec : ChangeSpec := { name := "strataRational", fn := fun _ => fun
  | [d] => { results := [.lit (.bool true)], args := [d] }
  | _ => none }
def strataRationalRow : OpenClaim := { program := "ytojkhlijbpmgpaagreat", sum := "a5e6b297ef648bec75c50269e97539578e4e8a1f692644cc736266a1aacc8faf", func := "deliberation/deliberationlaw32.StrataRational", spec := "strataRational", unfollowed := true, recurses := true, apart := false }
def StrataRationalSaid : Prop := strataRationalRow.holds Tryz.pinned (OpenSpec.ofChange strataRationalSpec)

/-- ITS FALSE NEIGHBOUR: 'it returns false'. Refute it at one input. -/
def strataRationalWrong : ChangeSpec := { name := "strataRational", fn := fun _ => fun
  | [d] => { results := [.lit (.bool false)], args := [d] }
  | _ => none }
def StrataRationalWrongFalsely : Prop := strataRationalRow.holds Tryz.pinned (OpenSpec.ofChange strataRationalWrong)

/-- 'deliberationlaw32.StrataLeast': WHATEVER THE INPUT: true; the input reads as it did. -/
def strataLeastSpec : ChangeSpec := { name := "strataLeast", fn := fun _ => fun
  | [d] => { results := [.lit (.bool true)], args := [d] }
  | _ => none }
def strataLeastRow : OpenClaim := { program := "ytojkhlijbpmgpaagreat", sum := "a5e6b297ef648bec75c50269e97539578e4e8a1f692644cc736266a1aacc8faf", func := "deliberation/deliberationlaw32.StrataLeast", spec := "strataLeast", unfollowed := true, recurses := true, apart := false }
def StrataLeastSaid : Prop := strataLeastRow.holds Tryz.pinned (OpenSpec.ofChange strataLeastSpec)

/-- ITS FALSE NEIGHBOUR: 'it returns false'. Refute it at one input. -/
def strataLeastWrong : ChangeSpec := { name := "strataLeast", fn := fun _ => fun
  | [d] => { results := [.lit (.bool false)], args := [d] }
  | _ => none }
def StrataLeastWrongFalsely : Prop := strataLeastRow.holds Tryz.pinned (OpenSpec.ofChange strataLeastWrong)

/-- 'deliberationlaw35.IterateBreaches': WHATEVER THE INPUT: true; the input reads as it did. -/
def iterateBreachesSpec : ChangeSpec := { name := "iterateBreaches", fn := fun _ => fun
  | [d1, d2, d3, d4] => { results := [.lit (.bool true)], args := [d1, d2, d3, d4] }
  | _ => none }
def iterateBreachesRow : OpenClaim := { program := "ytojkhlijbpmgpaagreat", sum := "a5e6b297ef648bec75c50269e97539578e4e8a1f692644cc736266a1aacc8faf", func := "deliberation/deliberationlaw35.IterateBreaches", spec := "iterateBreaches", unfollowed := true, recurses := true, loops := true, apart := false }
def IterateBreachesSaid : Prop := iterateBreachesRow.holds Tryz.pinned (OpenSpec.ofChange iterateBreachesSpec)

/-- ITS FALSE NEIGHBOUR: 'it returns false'. Refute it at one input. -/
def iterateBreachesWrong : ChangeSpec := { name := "iterateBreaches", fn := fun _ => fun
  | [d1, d2, d3, d4] => { results := [.lit (.bool false)], args := [d1, d2, d3, d4] }
  | _ => none }
def IterateBreachesWrongFalsely : Prop := iterateBreachesRow.holds Tryz.pinned (OpenSpec.ofChange iterateBreachesWrong)

/-- 'deliberationlaw35.IteratePostulates': WHATEVER THE INPUT: true; the input reads as it did. -/
def iteratePostulatesSpec : ChangeSpec := { name := "iteratePostulates", fn := fun _ => fun
  | [d] => { results := [.lit (.bool true)], args := [d] }
  | _ => none }
def iteratePostulatesRow : OpenClaim := { program := "ytojkhlijbpmgpaagreat", sum := "a5e6b297ef648bec75c50269e97539578e4e8a1f692644cc736266a1aacc8faf", func := "deliberation/deliberationlaw35.IteratePostulates", spec := "iteratePostulates", unfollowed := true, recurses := true, apart := false }
def IteratePostulatesSaid : Prop := iteratePostulatesRow.holds Tryz.pinned (OpenSpec.ofChange iteratePostulatesSpec)

/-- ITS FALSE NEIGHBOUR: 'it returns false'. Refute it at one input. -/
def iteratePostulatesWrong : ChangeSpec := { name := "iteratePostulates", fn := fun _ => fun
  | [d] => { results := [.lit (.bool false)], args := [d] }
  | _ => none }
def IteratePostulatesWrongFalsely : Prop := iteratePostulatesRow.holds Tryz.pinned (OpenSpec.ofChange iteratePostulatesWrong)

/-- 'deliberationlaw32.StrataRanks': WHATEVER THE INPUT: true; the input reads as it did. -/
def strataRanksSpec : ChangeSpec := { name := "strataRanks", fn := fun _ => fun
  | [d1, d2, d3] => { results := [.lit (.bool true)], args := [d1, d2, d3] }
  | _ => none }
def strataRanksRow : OpenClaim := { program := "ytojkhlijbpmgpaagreat", sum := "a5e6b297ef648bec75c50269e97539578e4e8a1f692644cc736266a1aacc8faf", func := "deliberation/deliberationlaw32.StrataRanks", spec := "strataRanks", unfollowed := true, recurses := true, loops := true, apart := false }
def StrataRanksSaid : Prop := strataRanksRow.holds Tryz.pinned (OpenSpec.ofChange strataRanksSpec)

/-- ITS FALSE NEIGHBOUR: 'it returns false'. Refute it at one input. -/
def strataRanksWrong : ChangeSpec := { name := "strataRanks", fn := fun _ => fun
  | [d1, d2, d3] => { results := [.lit (.bool false)], args := [d1, d2, d3] }
  | _ => none }
def StrataRanksWrongFalsely : Prop := strataRanksRow.holds Tryz.pinned (OpenSpec.ofChange strataRanksWrong)

/-- 'deliberationlaw32.StrataConditionals': WHATEVER THE INPUT: true; the input reads as it did. -/
def strataConditionalsSpec : ChangeSpec := { name := "strataConditionals", fn := fun _ => fun
  | [d1, d2, d3] => { results := [.lit (.bool true)], args := [d1, d2, d3] }
  | _ => none }
def strataConditionalsRow : OpenClaim := { program := "ytojkhlijbpmgpaagreat", sum := "a5e6b297ef648bec75c50269e97539578e4e8a1f692644cc736266a1aacc8faf", func := "deliberation/deliberationlaw32.StrataConditionals", spec := "strataConditionals", unfollowed := true, recurses := true, loops := true, apart := false }
def StrataConditionalsSaid : Prop := strataConditionalsRow.holds Tryz.pinned (OpenSpec.ofChange strataConditionalsSpec)

/-- ITS FALSE NEIGHBOUR: 'it returns false'. Refute it at one input. -/
def strataConditionalsWrong : ChangeSpec := { name := "strataConditionals", fn := fun _ => fun
  | [d1, d2, d3] => { results := [.lit (.bool false)], args := [d1, d2, d3] }
  | _ => none }
def StrataConditionalsWrongFalsely : Prop := strataConditionalsRow.holds Tryz.pinned (OpenSpec.ofChange strataConditionalsWrong)

/-- 'deliberationlaw32.StrataBack': WHATEVER THE INPUT: true; the input reads as it did. -/
def strataBackSpec : ChangeSpec := { name := "strataBack", fn := fun _ => fun
  | [d] => { results := [.lit (.bool true)], args := [d] }
  | _ => none }
def strataBackRow : OpenClaim := { program := "ytojkhlijbpmgpaagreat", sum := "a5e6b297ef648bec75c50269e97539578e4e8a1f692644cc736266a1aacc8faf", func := "deliberation/deliberationlaw32.StrataBack", spec := "strataBack", unfollowed := true, recurses := true, apart := false }
def StrataBackSaid : Prop := strataBackRow.holds Tryz.pinned (OpenSpec.ofChange strataBackSpec)

/-- ITS FALSE NEIGHBOUR: 'it returns false'. Refute it at one input. -/
def strataBackWrong : ChangeSpec := { name := "strataBack", fn := fun _ => fun
  | [d] => { results := [.lit (.bool false)], args := [d] }
  | _ => none }
def StrataBackWrongFalsely : Prop := strataBackRow.holds Tryz.pinned (OpenSpec.ofChange strataBackWrong)

/- THE SECOND FORM. 'bulk': how many values and letters a reading holds, each counted each time it is reached (what is shared counts as often as it is met; a slice's spare places count too). A statement '..UptoSaid' is the law's where the arguments, and the package variables that the reading takes, are together of bulk at most 1048576: NARROWER than '..Said'. Prove '..Said' where nothing that the law and all that it calls make is longer than what came in: it says more and counts as full. Else prove '..UptoSaid'. A law counts once. -/
mutual
def uptoBulk {H : Type} : DataW H → Nat
  | .lit (.string bytes) => bytes.length + 1
  | .lit _ => 1
  | .nil => 1
  | .ptr d => uptoBulk d + 1
  | .slice elems spare => uptoBulkAll elems + uptoBulkAll spare + 1
  | .agg parts => uptoBulkAll parts + 1
  | .iface _ d => uptoBulk d + 1
  | .map entries => uptoBulkEntries entries + 1
  | .held _ => 1
def uptoBulkAll {H : Type} : List (DataW H) → Nat
  | [] => 0
  | d :: r => uptoBulk d + uptoBulkAll r
def uptoBulkEntries {H : Type} : List (Lit × DataW H) → Nat
  | [] => 0
  | x :: r => uptoBulkEntry x + uptoBulkEntries r
def uptoBulkEntry {H : Type} : Lit × DataW H → Nat
  | (.string bytes, d) => bytes.length + uptoBulk d + 1
  | (_, d) => uptoBulk d + 1
 end
def uptoSmall : (H : Type) → List (DataW H) → Bool := fun _ ds => decide (uptoBulkAll ds ≤ 1048576)
def OpenSpec.upto (s : _root_.Go.ChangeSpec) : _root_.Go.OpenSpec := { _root_.Go.OpenSpec.ofChange s with cond := some uptoSmall }

/-- 'deliberationlaw35.IterateKinds', WHERE WHAT IT READS IS OF BULK AT MOST 1048576: true; the input reads as it did. -/
def iterateKindsUptoRow : OpenClaim := { program := "ytojkhlijbpmgpaagreat", sum := "a5e6b297ef648bec75c50269e97539578e4e8a1f692644cc736266a1aacc8faf", func := "deliberation/deliberationlaw35.IterateKinds", spec := "iterateKinds", unfollowed := true, recurses := true, apart := false, narrowed := true }
def IterateKindsUptoSaid : Prop := iterateKindsUptoRow.holds Tryz.pinned (OpenSpec.upto iterateKindsSpec)

/-- 'deliberationlaw35.IterateBeliefs', WHERE WHAT IT READS IS OF BULK AT MOST 1048576: true; the input reads as it did. -/
def iterateBeliefsUptoRow : OpenClaim := { program := "ytojkhlijbpmgpaagreat", sum := "a5e6b297ef648bec75c50269e97539578e4e8a1f692644cc736266a1aacc8faf", func := "deliberation/deliberationlaw35.IterateBeliefs", spec := "iterateBeliefs", unfollowed := true, recurses := true, apart := false, narrowed := true }
def IterateBeliefsUptoSaid : Prop := iterateBeliefsUptoRow.holds Tryz.pinned (OpenSpec.upto iterateBeliefsSpec)

/-- 'deliberationlaw35.IterateTogether', WHERE WHAT IT READS IS OF BULK AT MOST 1048576: true; the input reads as it did. -/
def iterateTogetherUptoRow : OpenClaim := { program := "ytojkhlijbpmgpaagreat", sum := "a5e6b297ef648bec75c50269e97539578e4e8a1f692644cc736266a1aacc8faf", func := "deliberation/deliberationlaw35.IterateTogether", spec := "iterateTogether", unfollowed := true, recurses := true, apart := false, narrowed := true }
def IterateTogetherUptoSaid : Prop := iterateTogetherUptoRow.holds Tryz.pinned (OpenSpec.upto iterateTogetherSpec)

/-- 'deliberationlaw35.IterateAnswers', WHERE WHAT IT READS IS OF BULK AT MOST 1048576: true; the input reads as it did. -/
def iterateAnswersUptoRow : OpenClaim := { program := "ytojkhlijbpmgpaagreat", sum := "a5e6b297ef648bec75c50269e97539578e4e8a1f692644cc736266a1aacc8faf", func := "deliberation/deliberationlaw35.IterateAnswers", spec := "iterateAnswers", unfollowed := true, recurses := true, loops := true, apart := false, narrowed := true }
def IterateAnswersUptoSaid : Prop := iterateAnswersUptoRow.holds Tryz.pinned (OpenSpec.upto iterateAnswersSpec)

/-- 'deliberationlaw32.StrataEntrenchment', WHERE WHAT IT READS IS OF BULK AT MOST 1048576: true; the input reads as it did. -/
def strataEntrenchmentUptoRow : OpenClaim := { program := "ytojkhlijbpmgpaagreat", sum := "a5e6b297ef648bec75c50269e97539578e4e8a1f692644cc736266a1aacc8faf", func := "deliberation/deliberationlaw32.StrataEntrenchment", spec := "strataEntrenchment", unfollowed := true, recurses := true, apart := false, narrowed := true }
def StrataEntrenchmentUptoSaid : Prop := strataEntrenchmentUptoRow.holds Tryz.pinned (OpenSpec.upto strataEntrenchmentSpec)

/-- 'deliberationlaw32.StrataRational', WHERE WHAT IT READS IS OF BULK AT MOST 1048576: true; the input reads as it did. -/
def strataRationalUptoRow : OpenClaim := { program := "ytojkhlijbpmgpaagreat", sum := "a5e6b297ef648bec75c50269e97539578e4e8a1f692644cc736266a1aacc8faf", func := "deliberation/deliberationlaw32.StrataRational", spec := "strataRational", unfollowed := true, recurses := true, apart := false, narrowed := true }
def StrataRationalUptoSaid : Prop := strataRationalUptoRow.holds Tryz.pinned (OpenSpec.upto strataRationalSpec)

/-- 'deliberationlaw32.StrataLeast', WHERE WHAT IT READS IS OF BULK AT MOST 1048576: true; the input reads as it did. -/
def strataLeastUptoRow : OpenClaim := { program := "ytojkhlijbpmgpaagreat", sum := "a5e6b297ef648bec75c50269e97539578e4e8a1f692644cc736266a1aacc8faf", func := "deliberation/deliberationlaw32.StrataLeast", spec := "strataLeast", unfollowed := true, recurses := true, apart := false, narrowed := true }
def StrataLeastUptoSaid : Prop := strataLeastUptoRow.holds Tryz.pinned (OpenSpec.upto strataLeastSpec)

/-- 'deliberationlaw35.IterateBreaches', WHERE WHAT IT READS IS OF BULK AT MOST 1048576: true; the input reads as it did. -/
def iterateBreachesUptoRow : OpenClaim := { program := "ytojkhlijbpmgpaagreat", sum := "a5e6b297ef648bec75c50269e97539578e4e8a1f692644cc736266a1aacc8faf", func := "deliberation/deliberationlaw35.IterateBreaches", spec := "iterateBreaches", unfollowed := true, recurses := true, loops := true, apart := false, narrowed := true }
def IterateBreachesUptoSaid : Prop := iterateBreachesUptoRow.holds Tryz.pinned (OpenSpec.upto iterateBreachesSpec)

/-- 'deliberationlaw35.IteratePostulates', WHERE WHAT IT READS IS OF BULK AT MOST 1048576: true; the input reads as it did. -/
def iteratePostulatesUptoRow : OpenClaim := { program := "ytojkhlijbpmgpaagreat", sum := "a5e6b297ef648bec75c50269e97539578e4e8a1f692644cc736266a1aacc8faf", func := "deliberation/deliberationlaw35.IteratePostulates", spec := "iteratePostulates", unfollowed := true, recurses := true, apart := false, narrowed := true }
def IteratePostulatesUptoSaid : Prop := iteratePostulatesUptoRow.holds Tryz.pinned (OpenSpec.upto iteratePostulatesSpec)

/-- 'deliberationlaw32.StrataRanks', WHERE WHAT IT READS IS OF BULK AT MOST 1048576: true; the input reads as it did. -/
def strataRanksUptoRow : OpenClaim := { program := "ytojkhlijbpmgpaagreat", sum := "a5e6b297ef648bec75c50269e97539578e4e8a1f692644cc736266a1aacc8faf", func := "deliberation/deliberationlaw32.StrataRanks", spec := "strataRanks", unfollowed := true, recurses := true, loops := true, apart := false, narrowed := true }
def StrataRanksUptoSaid : Prop := strataRanksUptoRow.holds Tryz.pinned (OpenSpec.upto strataRanksSpec)

/-- 'deliberationlaw32.StrataConditionals', WHERE WHAT IT READS IS OF BULK AT MOST 1048576: true; the input reads as it did. -/
def strataConditionalsUptoRow : OpenClaim := { program := "ytojkhlijbpmgpaagreat", sum := "a5e6b297ef648bec75c50269e97539578e4e8a1f692644cc736266a1aacc8faf", func := "deliberation/deliberationlaw32.StrataConditionals", spec := "strataConditionals", unfollowed := true, recurses := true, loops := true, apart := false, narrowed := true }
def StrataConditionalsUptoSaid : Prop := strataConditionalsUptoRow.holds Tryz.pinned (OpenSpec.upto strataConditionalsSpec)

/-- 'deliberationlaw32.StrataBack', WHERE WHAT IT READS IS OF BULK AT MOST 1048576: true; the input reads as it did. -/
def strataBackUptoRow : OpenClaim := { program := "ytojkhlijbpmgpaagreat", sum := "a5e6b297ef648bec75c50269e97539578e4e8a1f692644cc736266a1aacc8faf", func := "deliberation/deliberationlaw32.StrataBack", spec := "strataBack", unfollowed := true, recurses := true, apart := false, narrowed := true }
def StrataBackUptoSaid : Prop := strataBackUptoRow.holds Tryz.pinned (OpenSpec.upto strataBackSpec)

end Rows
end Go.Proofs.YtojkhlijbpmgpaaGreat
