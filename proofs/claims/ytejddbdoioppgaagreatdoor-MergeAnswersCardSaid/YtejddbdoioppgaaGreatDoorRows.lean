/-
  NARROWER THAN 'FOR EVERY INPUT', by the rows' own cells (each row's printed sentence says how): MergePostulates: laid · MergeProfiles: laid · MergeFair: laid · MergeMajority: laid · MergeAnswers: loops, laid · MergeVectors: laid.
  DERIVED. THE GIVEN ROWS OF THIS SEAT. 6 by the template 'for every input the law returns true; each argument reads behind the call as it read before'; 0 by the template 'total and deterministic' (their statements: YtejddbdoioppgaaGreatDoorTotals.lean).
  GIVEN WITH THE SEED: the statements are not yours to turn. If you find one false, say at which input.
  Laid BY PROGRAM, IN A SANDBOX (cutbox-rows.mjs): the forced cells as the released guide's own fill.sh prints them over the translation 757a7dfe368e83f3… (all of the seat's roots in one cut). By AI agents, Wed Nov 11 2026. No macro, syntax, notation, axiom, sorry.
-/
import Derived.Test.YtejddbdoioppgaaGreatDoorChecked
import GoSem.Claim
import GoSem.ClaimJoined
import GoSem.ClaimMapViews
import Derived.JoinedTies
import Derived.KernelRfl
namespace Go.Proofs.YtejddbdoioppgaaGreatDoor
/- THE CELL 'sum', in the pinned program and in every row, IS THE sha256 OF THE DUMP (.gsa) THAT YtejddbdoioppgaaGreatDoorProg.lean LOADS. Nothing in Lean hashes anything: it is a label: what it is worth is what the hold of that sum in a sandbox is worth. -/
noncomputable def Tryz.pinned : Pinned := { name := "ytejddbdoioppgaagreatdoor", sum := "757a7dfe368e83f3f0e936b568fbbd0c39a975736595bb92afc8ed3ce441f965", checked := Tryz.checked }
namespace Rows
def none {H : Type} : Left H := { results := [], args := [] }

/- WHAT THE LISTED PACKAGE-LEVEL VARIABLES READ AS WHEN THE CALL BEGINS. Each datum BY PROGRAM (the guide's laid-datum.mjs) off the statement by which the dump's own 'gosem.cut.vars' lays the variable. In a bare row this is a premise. The card (YtejddbdoioppgaaGreatDoorCards.lean) ties it to the program's text. -/
def laid_math_bits_deBruijn64tab {H : Type} : DataW H := .agg [.lit (.int .u8 0), .lit (.int .u8 1), .lit (.int .u8 56), .lit (.int .u8 2), .lit (.int .u8 57), .lit (.int .u8 49), .lit (.int .u8 28), .lit (.int .u8 3), .lit (.int .u8 61), .lit (.int .u8 58), .lit (.int .u8 42), .lit (.int .u8 50), .lit (.int .u8 38), .lit (.int .u8 29), .lit (.int .u8 17), .lit (.int .u8 4), .lit (.int .u8 62), .lit (.int .u8 47), .lit (.int .u8 59), .lit (.int .u8 36), .lit (.int .u8 45), .lit (.int .u8 43), .lit (.int .u8 51), .lit (.int .u8 22), .lit (.int .u8 53), .lit (.int .u8 39), .lit (.int .u8 33), .lit (.int .u8 30), .lit (.int .u8 24), .lit (.int .u8 18), .lit (.int .u8 12), .lit (.int .u8 5), .lit (.int .u8 63), .lit (.int .u8 55), .lit (.int .u8 48), .lit (.int .u8 27), .lit (.int .u8 60), .lit (.int .u8 41), .lit (.int .u8 37), .lit (.int .u8 16), .lit (.int .u8 46), .lit (.int .u8 35), .lit (.int .u8 44), .lit (.int .u8 21), .lit (.int .u8 52), .lit (.int .u8 32), .lit (.int .u8 23), .lit (.int .u8 11), .lit (.int .u8 54), .lit (.int .u8 26), .lit (.int .u8 40), .lit (.int .u8 15), .lit (.int .u8 34), .lit (.int .u8 20), .lit (.int .u8 31), .lit (.int .u8 10), .lit (.int .u8 25), .lit (.int .u8 14), .lit (.int .u8 19), .lit (.int .u8 9), .lit (.int .u8 13), .lit (.int .u8 8), .lit (.int .u8 7), .lit (.int .u8 6)]

/-- 'deliberationlaw36.MergePostulates': WHATEVER THE INPUT: true; the input reads as it did. -/
def mergePostulatesSpec : ChangeSpec := { name := "mergePostulates", fn := fun _ => fun
  | [d] => { results := [.lit (.bool true)], args := [d] }
  | _ => none }
def mergePostulatesRow : OpenClaim := { program := "ytejddbdoioppgaagreatdoor", sum := "757a7dfe368e83f3f0e936b568fbbd0c39a975736595bb92afc8ed3ce441f965", func := "deliberation/deliberationlaw36.MergePostulates", spec := "mergePostulates", unfollowed := true, recurses := true, named := ["math/bits.deBruijn64tab"], apart := false, laid := [("math/bits.deBruijn64tab", laid_math_bits_deBruijn64tab)] }
def MergePostulatesSaid : Prop := mergePostulatesRow.holds Tryz.pinned (OpenSpec.ofChange mergePostulatesSpec)

/-- ITS FALSE NEIGHBOUR: 'it returns false'. Refute it at one input. -/
def mergePostulatesWrong : ChangeSpec := { name := "mergePostulates", fn := fun _ => fun
  | [d] => { results := [.lit (.bool false)], args := [d] }
  | _ => none }
def MergePostulatesWrongFalsely : Prop := mergePostulatesRow.holds Tryz.pinned (OpenSpec.ofChange mergePostulatesWrong)

/-- 'deliberationlaw36.MergeProfiles': WHATEVER THE INPUT: true; the input reads as it did. -/
def mergeProfilesSpec : ChangeSpec := { name := "mergeProfiles", fn := fun _ => fun
  | [d] => { results := [.lit (.bool true)], args := [d] }
  | _ => none }
def mergeProfilesRow : OpenClaim := { program := "ytejddbdoioppgaagreatdoor", sum := "757a7dfe368e83f3f0e936b568fbbd0c39a975736595bb92afc8ed3ce441f965", func := "deliberation/deliberationlaw36.MergeProfiles", spec := "mergeProfiles", unfollowed := true, recurses := true, named := ["math/bits.deBruijn64tab"], apart := false, laid := [("math/bits.deBruijn64tab", laid_math_bits_deBruijn64tab)] }
def MergeProfilesSaid : Prop := mergeProfilesRow.holds Tryz.pinned (OpenSpec.ofChange mergeProfilesSpec)

/-- ITS FALSE NEIGHBOUR: 'it returns false'. Refute it at one input. -/
def mergeProfilesWrong : ChangeSpec := { name := "mergeProfiles", fn := fun _ => fun
  | [d] => { results := [.lit (.bool false)], args := [d] }
  | _ => none }
def MergeProfilesWrongFalsely : Prop := mergeProfilesRow.holds Tryz.pinned (OpenSpec.ofChange mergeProfilesWrong)

/-- 'deliberationlaw36.MergeFair': WHATEVER THE INPUT: true; the input reads as it did. -/
def mergeFairSpec : ChangeSpec := { name := "mergeFair", fn := fun _ => fun
  | [d] => { results := [.lit (.bool true)], args := [d] }
  | _ => none }
def mergeFairRow : OpenClaim := { program := "ytejddbdoioppgaagreatdoor", sum := "757a7dfe368e83f3f0e936b568fbbd0c39a975736595bb92afc8ed3ce441f965", func := "deliberation/deliberationlaw36.MergeFair", spec := "mergeFair", unfollowed := true, recurses := true, named := ["math/bits.deBruijn64tab"], apart := false, laid := [("math/bits.deBruijn64tab", laid_math_bits_deBruijn64tab)] }
def MergeFairSaid : Prop := mergeFairRow.holds Tryz.pinned (OpenSpec.ofChange mergeFairSpec)

/-- ITS FALSE NEIGHBOUR: 'it returns false'. Refute it at one input. -/
def mergeFairWrong : ChangeSpec := { name := "mergeFair", fn := fun _ => fun
  | [d] => { results := [.lit (.bool false)], args := [d] }
  | _ => none }
def MergeFairWrongFalsely : Prop := mergeFairRow.holds Tryz.pinned (OpenSpec.ofChange mergeFairWrong)

/-- 'deliberationlaw36.MergeMajority': WHATEVER THE INPUT: true; the input reads as it did. -/
def mergeMajoritySpec : ChangeSpec := { name := "mergeMajority", fn := fun _ => fun
  | [d] => { results := [.lit (.bool true)], args := [d] }
  | _ => none }
def mergeMajorityRow : OpenClaim := { program := "ytejddbdoioppgaagreatdoor", sum := "757a7dfe368e83f3f0e936b568fbbd0c39a975736595bb92afc8ed3ce441f965", func := "deliberation/deliberationlaw36.MergeMajority", spec := "mergeMajority", unfollowed := true, recurses := true, named := ["math/bits.deBruijn64tab"], apart := false, laid := [("math/bits.deBruijn64tab", laid_math_bits_deBruijn64tab)] }
def MergeMajoritySaid : Prop := mergeMajorityRow.holds Tryz.pinned (OpenSpec.ofChange mergeMajoritySpec)

/-- ITS FALSE NEIGHBOUR: 'it returns false'. Refute it at one input. -/
def mergeMajorityWrong : ChangeSpec := { name := "mergeMajority", fn := fun _ => fun
  | [d] => { results := [.lit (.bool false)], args := [d] }
  | _ => none }
def MergeMajorityWrongFalsely : Prop := mergeMajorityRow.holds Tryz.pinned (OpenSpec.ofChange mergeMajorityWrong)

/-- 'deliberationlaw36.MergeAnswers': WHATEVER THE INPUT: true; the input reads as it did. -/
def mergeAnswersSpec : ChangeSpec := { name := "mergeAnswers", fn := fun _ => fun
  | [d1, d2, d3, d4, d5, d6] => { results := [.lit (.bool true)], args := [d1, d2, d3, d4, d5, d6] }
  | _ => none }
def mergeAnswersRow : OpenClaim := { program := "ytejddbdoioppgaagreatdoor", sum := "757a7dfe368e83f3f0e936b568fbbd0c39a975736595bb92afc8ed3ce441f965", func := "deliberation/deliberationlaw36.MergeAnswers", spec := "mergeAnswers", unfollowed := true, recurses := true, named := ["math/bits.deBruijn64tab"], loops := true, apart := false, laid := [("math/bits.deBruijn64tab", laid_math_bits_deBruijn64tab)] }
def MergeAnswersSaid : Prop := mergeAnswersRow.holds Tryz.pinned (OpenSpec.ofChange mergeAnswersSpec)

/-- ITS FALSE NEIGHBOUR: 'it returns false'. Refute it at one input. -/
def mergeAnswersWrong : ChangeSpec := { name := "mergeAnswers", fn := fun _ => fun
  | [d1, d2, d3, d4, d5, d6] => { results := [.lit (.bool false)], args := [d1, d2, d3, d4, d5, d6] }
  | _ => none }
def MergeAnswersWrongFalsely : Prop := mergeAnswersRow.holds Tryz.pinned (OpenSpec.ofChange mergeAnswersWrong)

/-- 'deliberationlaw36.MergeVectors': WHATEVER THE INPUT: true; the input reads as it did. -/
def mergeVectorsSpec : ChangeSpec := { name := "mergeVectors", fn := fun _ => fun
  | [d] => { results := [.lit (.bool true)], args := [d] }
  | _ => none }
def mergeVectorsRow : OpenClaim := { program := "ytejddbdoioppgaagreatdoor", sum := "757a7dfe368e83f3f0e936b568fbbd0c39a975736595bb92afc8ed3ce441f965", func := "deliberation/deliberationlaw36.MergeVectors", spec := "mergeVectors", unfollowed := true, recurses := true, named := ["math/bits.deBruijn64tab"], apart := false, laid := [("math/bits.deBruijn64tab", laid_math_bits_deBruijn64tab)] }
def MergeVectorsSaid : Prop := mergeVectorsRow.holds Tryz.pinned (OpenSpec.ofChange mergeVectorsSpec)

/-- ITS FALSE NEIGHBOUR: 'it returns false'. Refute it at one input. -/
def mergeVectorsWrong : ChangeSpec := { name := "mergeVectors", fn := fun _ => fun
  | [d] => { results := [.lit (.bool false)], args := [d] }
  | _ => none }
def MergeVectorsWrongFalsely : Prop := mergeVectorsRow.holds Tryz.pinned (OpenSpec.ofChange mergeVectorsWrong)

/- THE SECOND FORM. 'bulk': how many values and letters a reading holds, each counted each time it is reached (what is shared counts as often as it is met; a slice's spare places count too). A statement '..UptoSaid' is the law's where the arguments, and the package variables that the reading takes, are together of bulk at most 1048576: NARROWER than '..Said'. Prove '..Said' where nothing that the law and all that it calls make is longer than what came in: it says more and counts as full. Else prove '..UptoSaid'. A law counts once. -/
mutual
def uptoBulk {H : Type} : DataW H → Nat
  | .lit (.string bytes) => bytes.length + 1
  | .lit _ => 1
  | .nil => 1
  | .ptr d => uptoBulk d + 1
  | .slice elems spare => uptoBulkAll elems + uptoBulkAll spare + 1
  | .agg parts => uptoBulkAll parts + 1
  | .iface _ d => uptoBulk d + 1
  | .map entries => uptoBulkEntries entries + 1
  | .held _ => 1
def uptoBulkAll {H : Type} : List (DataW H) → Nat
  | [] => 0
  | d :: r => uptoBulk d + uptoBulkAll r
def uptoBulkEntries {H : Type} : List (Lit × DataW H) → Nat
  | [] => 0
  | x :: r => uptoBulkEntry x + uptoBulkEntries r
def uptoBulkEntry {H : Type} : Lit × DataW H → Nat
  | (.string bytes, d) => bytes.length + uptoBulk d + 1
  | (_, d) => uptoBulk d + 1
 end
def uptoSmall : (H : Type) → List (DataW H) → Bool := fun _ ds => decide (uptoBulkAll ds ≤ 1048576)
def OpenSpec.upto (s : _root_.Go.ChangeSpec) : _root_.Go.OpenSpec := { _root_.Go.OpenSpec.ofChange s with cond := some uptoSmall }

/-- 'deliberationlaw36.MergePostulates', WHERE WHAT IT READS IS OF BULK AT MOST 1048576: true; the input reads as it did. -/
def mergePostulatesUptoRow : OpenClaim := { program := "ytejddbdoioppgaagreatdoor", sum := "757a7dfe368e83f3f0e936b568fbbd0c39a975736595bb92afc8ed3ce441f965", func := "deliberation/deliberationlaw36.MergePostulates", spec := "mergePostulates", unfollowed := true, recurses := true, named := ["math/bits.deBruijn64tab"], apart := false, laid := [("math/bits.deBruijn64tab", laid_math_bits_deBruijn64tab)], narrowed := true }
def MergePostulatesUptoSaid : Prop := mergePostulatesUptoRow.holds Tryz.pinned (OpenSpec.upto mergePostulatesSpec)

/-- 'deliberationlaw36.MergeProfiles', WHERE WHAT IT READS IS OF BULK AT MOST 1048576: true; the input reads as it did. -/
def mergeProfilesUptoRow : OpenClaim := { program := "ytejddbdoioppgaagreatdoor", sum := "757a7dfe368e83f3f0e936b568fbbd0c39a975736595bb92afc8ed3ce441f965", func := "deliberation/deliberationlaw36.MergeProfiles", spec := "mergeProfiles", unfollowed := true, recurses := true, named := ["math/bits.deBruijn64tab"], apart := false, laid := [("math/bits.deBruijn64tab", laid_math_bits_deBruijn64tab)], narrowed := true }
def MergeProfilesUptoSaid : Prop := mergeProfilesUptoRow.holds Tryz.pinned (OpenSpec.upto mergeProfilesSpec)

/-- 'deliberationlaw36.MergeFair', WHERE WHAT IT READS IS OF BULK AT MOST 1048576: true; the input reads as it did. -/
def mergeFairUptoRow : OpenClaim := { program := "ytejddbdoioppgaagreatdoor", sum := "757a7dfe368e83f3f0e936b568fbbd0c39a975736595bb92afc8ed3ce441f965", func := "deliberation/deliberationlaw36.MergeFair", spec := "mergeFair", unfollowed := true, recurses := true, named := ["math/bits.deBruijn64tab"], apart := false, laid := [("math/bits.deBruijn64tab", laid_math_bits_deBruijn64tab)], narrowed := true }
def MergeFairUptoSaid : Prop := mergeFairUptoRow.holds Tryz.pinned (OpenSpec.upto mergeFairSpec)

/-- 'deliberationlaw36.MergeMajority', WHERE WHAT IT READS IS OF BULK AT MOST 1048576: true; the input reads as it did. -/
def mergeMajorityUptoRow : OpenClaim := { program := "ytejddbdoioppgaagreatdoor", sum := "757a7dfe368e83f3f0e936b568fbbd0c39a975736595bb92afc8ed3ce441f965", func := "deliberation/deliberationlaw36.MergeMajority", spec := "mergeMajority", unfollowed := true, recurses := true, named := ["math/bits.deBruijn64tab"], apart := false, laid := [("math/bits.deBruijn64tab", laid_math_bits_deBruijn64tab)], narrowed := true }
def MergeMajorityUptoSaid : Prop := mergeMajorityUptoRow.holds Tryz.pinned (OpenSpec.upto mergeMajoritySpec)

/-- 'deliberationlaw36.MergeAnswers', WHERE WHAT IT READS IS OF BULK AT MOST 1048576: true; the input reads as it did. -/
def mergeAnswersUptoRow : OpenClaim := { program := "ytejddbdoioppgaagreatdoor", sum := "757a7dfe368e83f3f0e936b568fbbd0c39a975736595bb92afc8ed3ce441f965", func := "deliberation/deliberationlaw36.MergeAnswers", spec := "mergeAnswers", unfollowed := true, recurses := true, named := ["math/bits.deBruijn64tab"], loops := true, apart := false, laid := [("math/bits.deBruijn64tab", laid_math_bits_deBruijn64tab)], narrowed := true }
def MergeAnswersUptoSaid : Prop := mergeAnswersUptoRow.holds Tryz.pinned (OpenSpec.upto mergeAnswersSpec)

/-- 'deliberationlaw36.MergeVectors', WHERE WHAT IT READS IS OF BULK AT MOST 1048576: true; the input reads as it did. -/
def mergeVectorsUptoRow : OpenClaim := { program := "ytejddbdoioppgaagreatdoor", sum := "757a7dfe368e83f3f0e936b568fbbd0c39a975736595bb92afc8ed3ce441f965", func := "deliberation/deliberationlaw36.MergeVectors", spec := "mergeVectors", unfollowed := true, recurses := true, named := ["math/bits.deBruijn64tab"], apart := false, laid := [("math/bits.deBruijn64tab", laid_math_bits_deBruijn64tab)], narrowed := true }
def MergeVectorsUptoSaid : Prop := mergeVectorsUptoRow.holds Tryz.pinned (OpenSpec.upto mergeVectorsSpec)

end Rows
end Go.Proofs.YtejddbdoioppgaaGreatDoor
