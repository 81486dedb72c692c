/-
  NARROWER THAN 'FOR EVERY INPUT', by the rows' own cells (each row's printed sentence says how): UpdatePostulates: laid · UpdateSingle: laid · UpdateErases: laid · UpdateDistances: laid · WorldTheories: laid · WorldBack: laid · WorldAlgebra: laid · WorldEntails: laid · WorldForgets: laid · WorldSets: laid.
  DERIVED. THE GIVEN ROWS OF THIS SEAT. 10 by the template 'for every input the law returns true; each argument reads behind the call as it read before'; 0 by the template 'total and deterministic' (their statements: YtefkehflmlikmaaDoorTotals.lean).
  GIVEN WITH THE SEED: the statements are not yours to turn. If you find one false, say at which input.
  Laid BY PROGRAM, IN A SANDBOX (cutbox-rows.mjs): the forced cells as the released guide's own fill.sh prints them over the translation 0858ab8da38737b0… (all of the seat's roots in one cut). By AI agents, Wed Nov 11 2026. No macro, syntax, notation, axiom, sorry.
-/
import Derived.Test.YtefkehflmlikmaaDoorChecked
import GoSem.Claim
import GoSem.ClaimJoined
import GoSem.ClaimMapViews
import Derived.JoinedTies
import Derived.KernelRfl
namespace Go.Proofs.YtefkehflmlikmaaDoor
/- THE CELL 'sum', in the pinned program and in every row, IS THE sha256 OF THE DUMP (.gsa) THAT YtefkehflmlikmaaDoorProg.lean LOADS. Nothing in Lean hashes anything: it is a label: what it is worth is what the hold of that sum in a sandbox is worth. -/
noncomputable def Tryd.pinned : Pinned := { name := "ytefkehflmlikmaadoor", sum := "0858ab8da38737b09556360feec2cba6d0a6f12b05bdaa380aa95de6da8954ee", checked := Tryd.checked }
namespace Rows
def none {H : Type} : Left H := { results := [], args := [] }

/- WHAT THE LISTED PACKAGE-LEVEL VARIABLES READ AS WHEN THE CALL BEGINS. Each datum BY PROGRAM (the guide's laid-datum.mjs) off the statement by which the dump's own 'gosem.cut.vars' lays the variable. In a bare row this is a premise. The card (YtefkehflmlikmaaDoorCards.lean) ties it to the program's text. -/
def laid_math_bits_deBruijn64tab {H : Type} : DataW H := .agg [.lit (.int .u8 0), .lit (.int .u8 1), .lit (.int .u8 56), .lit (.int .u8 2), .lit (.int .u8 57), .lit (.int .u8 49), .lit (.int .u8 28), .lit (.int .u8 3), .lit (.int .u8 61), .lit (.int .u8 58), .lit (.int .u8 42), .lit (.int .u8 50), .lit (.int .u8 38), .lit (.int .u8 29), .lit (.int .u8 17), .lit (.int .u8 4), .lit (.int .u8 62), .lit (.int .u8 47), .lit (.int .u8 59), .lit (.int .u8 36), .lit (.int .u8 45), .lit (.int .u8 43), .lit (.int .u8 51), .lit (.int .u8 22), .lit (.int .u8 53), .lit (.int .u8 39), .lit (.int .u8 33), .lit (.int .u8 30), .lit (.int .u8 24), .lit (.int .u8 18), .lit (.int .u8 12), .lit (.int .u8 5), .lit (.int .u8 63), .lit (.int .u8 55), .lit (.int .u8 48), .lit (.int .u8 27), .lit (.int .u8 60), .lit (.int .u8 41), .lit (.int .u8 37), .lit (.int .u8 16), .lit (.int .u8 46), .lit (.int .u8 35), .lit (.int .u8 44), .lit (.int .u8 21), .lit (.int .u8 52), .lit (.int .u8 32), .lit (.int .u8 23), .lit (.int .u8 11), .lit (.int .u8 54), .lit (.int .u8 26), .lit (.int .u8 40), .lit (.int .u8 15), .lit (.int .u8 34), .lit (.int .u8 20), .lit (.int .u8 31), .lit (.int .u8 10), .lit (.int .u8 25), .lit (.int .u8 14), .lit (.int .u8 19), .lit (.int .u8 9), .lit (.int .u8 13), .lit (.int .u8 8), .lit (.int .u8 7), .lit (.int .u8 6)]
def laid_deliberation_formula_words {H : Type} : DataW H := .agg [.lit (.string []), .lit (.string []), .lit (.string []), .lit (.string []), .lit (.string []), .lit (.string [32, 38, 32]), .lit (.string [32, 124, 32]), .lit (.string [32, 45, 62, 32]), .lit (.string [32, 60, 45, 62, 32])]

/-- 'deliberationlaw34.UpdatePostulates': WHATEVER THE INPUT: true; the input reads as it did. -/
def updatePostulatesSpec : ChangeSpec := { name := "updatePostulates", fn := fun _ => fun
  | [d] => { results := [.lit (.bool true)], args := [d] }
  | _ => none }
def updatePostulatesRow : OpenClaim := { program := "ytefkehflmlikmaadoor", sum := "0858ab8da38737b09556360feec2cba6d0a6f12b05bdaa380aa95de6da8954ee", func := "deliberation/deliberationlaw34.UpdatePostulates", spec := "updatePostulates", unfollowed := true, recurses := true, named := ["math/bits.deBruijn64tab"], apart := false, laid := [("math/bits.deBruijn64tab", laid_math_bits_deBruijn64tab)] }
def UpdatePostulatesSaid : Prop := updatePostulatesRow.holds Tryd.pinned (OpenSpec.ofChange updatePostulatesSpec)

/-- ITS FALSE NEIGHBOUR: 'it returns false'. Refute it at one input. -/
def updatePostulatesWrong : ChangeSpec := { name := "updatePostulates", fn := fun _ => fun
  | [d] => { results := [.lit (.bool false)], args := [d] }
  | _ => none }
def UpdatePostulatesWrongFalsely : Prop := updatePostulatesRow.holds Tryd.pinned (OpenSpec.ofChange updatePostulatesWrong)

/-- 'deliberationlaw34.UpdateSingle': WHATEVER THE INPUT: true; the input reads as it did. -/
def updateSingleSpec : ChangeSpec := { name := "updateSingle", fn := fun _ => fun
  | [d] => { results := [.lit (.bool true)], args := [d] }
  | _ => none }
def updateSingleRow : OpenClaim := { program := "ytefkehflmlikmaadoor", sum := "0858ab8da38737b09556360feec2cba6d0a6f12b05bdaa380aa95de6da8954ee", func := "deliberation/deliberationlaw34.UpdateSingle", spec := "updateSingle", unfollowed := true, recurses := true, named := ["math/bits.deBruijn64tab"], apart := false, laid := [("math/bits.deBruijn64tab", laid_math_bits_deBruijn64tab)] }
def UpdateSingleSaid : Prop := updateSingleRow.holds Tryd.pinned (OpenSpec.ofChange updateSingleSpec)

/-- ITS FALSE NEIGHBOUR: 'it returns false'. Refute it at one input. -/
def updateSingleWrong : ChangeSpec := { name := "updateSingle", fn := fun _ => fun
  | [d] => { results := [.lit (.bool false)], args := [d] }
  | _ => none }
def UpdateSingleWrongFalsely : Prop := updateSingleRow.holds Tryd.pinned (OpenSpec.ofChange updateSingleWrong)

/-- 'deliberationlaw34.UpdateErases': WHATEVER THE INPUT: true; the input reads as it did. -/
def updateErasesSpec : ChangeSpec := { name := "updateErases", fn := fun _ => fun
  | [d] => { results := [.lit (.bool true)], args := [d] }
  | _ => none }
def updateErasesRow : OpenClaim := { program := "ytefkehflmlikmaadoor", sum := "0858ab8da38737b09556360feec2cba6d0a6f12b05bdaa380aa95de6da8954ee", func := "deliberation/deliberationlaw34.UpdateErases", spec := "updateErases", unfollowed := true, recurses := true, named := ["math/bits.deBruijn64tab"], apart := false, laid := [("math/bits.deBruijn64tab", laid_math_bits_deBruijn64tab)] }
def UpdateErasesSaid : Prop := updateErasesRow.holds Tryd.pinned (OpenSpec.ofChange updateErasesSpec)

/-- ITS FALSE NEIGHBOUR: 'it returns false'. Refute it at one input. -/
def updateErasesWrong : ChangeSpec := { name := "updateErases", fn := fun _ => fun
  | [d] => { results := [.lit (.bool false)], args := [d] }
  | _ => none }
def UpdateErasesWrongFalsely : Prop := updateErasesRow.holds Tryd.pinned (OpenSpec.ofChange updateErasesWrong)

/-- 'deliberationlaw34.UpdateDistances': WHATEVER THE INPUT: true; the input reads as it did. -/
def updateDistancesSpec : ChangeSpec := { name := "updateDistances", fn := fun _ => fun
  | [d1, d2, d3, d4] => { results := [.lit (.bool true)], args := [d1, d2, d3, d4] }
  | _ => none }
def updateDistancesRow : OpenClaim := { program := "ytefkehflmlikmaadoor", sum := "0858ab8da38737b09556360feec2cba6d0a6f12b05bdaa380aa95de6da8954ee", func := "deliberation/deliberationlaw34.UpdateDistances", spec := "updateDistances", unfollowed := true, recurses := true, named := ["math/bits.deBruijn64tab"], apart := false, laid := [("math/bits.deBruijn64tab", laid_math_bits_deBruijn64tab)] }
def UpdateDistancesSaid : Prop := updateDistancesRow.holds Tryd.pinned (OpenSpec.ofChange updateDistancesSpec)

/-- ITS FALSE NEIGHBOUR: 'it returns false'. Refute it at one input. -/
def updateDistancesWrong : ChangeSpec := { name := "updateDistances", fn := fun _ => fun
  | [d1, d2, d3, d4] => { results := [.lit (.bool false)], args := [d1, d2, d3, d4] }
  | _ => none }
def UpdateDistancesWrongFalsely : Prop := updateDistancesRow.holds Tryd.pinned (OpenSpec.ofChange updateDistancesWrong)

/-- 'deliberationlaw03.WorldTheories': WHATEVER THE INPUT: true; the input reads as it did. -/
def worldTheoriesSpec : ChangeSpec := { name := "worldTheories", fn := fun _ => fun
  | [d1, d2, d3] => { results := [.lit (.bool true)], args := [d1, d2, d3] }
  | _ => none }
def worldTheoriesRow : OpenClaim := { program := "ytefkehflmlikmaadoor", sum := "0858ab8da38737b09556360feec2cba6d0a6f12b05bdaa380aa95de6da8954ee", func := "deliberation/deliberationlaw03.WorldTheories", spec := "worldTheories", inPlace := ["internal/abi.NoEscape"], unfollowed := true, recurses := true, named := ["deliberation/formula.words"], apart := false, laid := [("deliberation/formula.words", laid_deliberation_formula_words)] }
def WorldTheoriesSaid : Prop := worldTheoriesRow.holds Tryd.pinned (OpenSpec.ofChange worldTheoriesSpec)

/-- ITS FALSE NEIGHBOUR: 'it returns false'. Refute it at one input. -/
def worldTheoriesWrong : ChangeSpec := { name := "worldTheories", fn := fun _ => fun
  | [d1, d2, d3] => { results := [.lit (.bool false)], args := [d1, d2, d3] }
  | _ => none }
def WorldTheoriesWrongFalsely : Prop := worldTheoriesRow.holds Tryd.pinned (OpenSpec.ofChange worldTheoriesWrong)

/-- 'deliberationlaw03.WorldBack': WHATEVER THE INPUT: true; the input reads as it did. -/
def worldBackSpec : ChangeSpec := { name := "worldBack", fn := fun _ => fun
  | [d1, d2] => { results := [.lit (.bool true)], args := [d1, d2] }
  | _ => none }
def worldBackRow : OpenClaim := { program := "ytefkehflmlikmaadoor", sum := "0858ab8da38737b09556360feec2cba6d0a6f12b05bdaa380aa95de6da8954ee", func := "deliberation/deliberationlaw03.WorldBack", spec := "worldBack", inPlace := ["internal/abi.NoEscape"], unfollowed := true, recurses := true, named := ["deliberation/formula.words"], apart := false, laid := [("deliberation/formula.words", laid_deliberation_formula_words)] }
def WorldBackSaid : Prop := worldBackRow.holds Tryd.pinned (OpenSpec.ofChange worldBackSpec)

/-- ITS FALSE NEIGHBOUR: 'it returns false'. Refute it at one input. -/
def worldBackWrong : ChangeSpec := { name := "worldBack", fn := fun _ => fun
  | [d1, d2] => { results := [.lit (.bool false)], args := [d1, d2] }
  | _ => none }
def WorldBackWrongFalsely : Prop := worldBackRow.holds Tryd.pinned (OpenSpec.ofChange worldBackWrong)

/-- 'deliberationlaw03.WorldAlgebra': WHATEVER THE INPUT: true; the input reads as it did. -/
def worldAlgebraSpec : ChangeSpec := { name := "worldAlgebra", fn := fun _ => fun
  | [d] => { results := [.lit (.bool true)], args := [d] }
  | _ => none }
def worldAlgebraRow : OpenClaim := { program := "ytefkehflmlikmaadoor", sum := "0858ab8da38737b09556360feec2cba6d0a6f12b05bdaa380aa95de6da8954ee", func := "deliberation/deliberationlaw03.WorldAlgebra", spec := "worldAlgebra", inPlace := ["internal/abi.NoEscape"], unfollowed := true, recurses := true, named := ["deliberation/formula.words"], apart := false, laid := [("deliberation/formula.words", laid_deliberation_formula_words)] }
def WorldAlgebraSaid : Prop := worldAlgebraRow.holds Tryd.pinned (OpenSpec.ofChange worldAlgebraSpec)

/-- ITS FALSE NEIGHBOUR: 'it returns false'. Refute it at one input. -/
def worldAlgebraWrong : ChangeSpec := { name := "worldAlgebra", fn := fun _ => fun
  | [d] => { results := [.lit (.bool false)], args := [d] }
  | _ => none }
def WorldAlgebraWrongFalsely : Prop := worldAlgebraRow.holds Tryd.pinned (OpenSpec.ofChange worldAlgebraWrong)

/-- 'deliberationlaw03.WorldEntails': WHATEVER THE INPUT: true; the input reads as it did. -/
def worldEntailsSpec : ChangeSpec := { name := "worldEntails", fn := fun _ => fun
  | [d] => { results := [.lit (.bool true)], args := [d] }
  | _ => none }
def worldEntailsRow : OpenClaim := { program := "ytefkehflmlikmaadoor", sum := "0858ab8da38737b09556360feec2cba6d0a6f12b05bdaa380aa95de6da8954ee", func := "deliberation/deliberationlaw03.WorldEntails", spec := "worldEntails", inPlace := ["internal/abi.NoEscape"], unfollowed := true, recurses := true, named := ["deliberation/formula.words"], apart := false, laid := [("deliberation/formula.words", laid_deliberation_formula_words)] }
def WorldEntailsSaid : Prop := worldEntailsRow.holds Tryd.pinned (OpenSpec.ofChange worldEntailsSpec)

/-- ITS FALSE NEIGHBOUR: 'it returns false'. Refute it at one input. -/
def worldEntailsWrong : ChangeSpec := { name := "worldEntails", fn := fun _ => fun
  | [d] => { results := [.lit (.bool false)], args := [d] }
  | _ => none }
def WorldEntailsWrongFalsely : Prop := worldEntailsRow.holds Tryd.pinned (OpenSpec.ofChange worldEntailsWrong)

/-- 'deliberationlaw03.WorldForgets': WHATEVER THE INPUT: true; the input reads as it did. -/
def worldForgetsSpec : ChangeSpec := { name := "worldForgets", fn := fun _ => fun
  | [d] => { results := [.lit (.bool true)], args := [d] }
  | _ => none }
def worldForgetsRow : OpenClaim := { program := "ytefkehflmlikmaadoor", sum := "0858ab8da38737b09556360feec2cba6d0a6f12b05bdaa380aa95de6da8954ee", func := "deliberation/deliberationlaw03.WorldForgets", spec := "worldForgets", inPlace := ["internal/abi.NoEscape"], unfollowed := true, recurses := true, named := ["deliberation/formula.words"], apart := false, laid := [("deliberation/formula.words", laid_deliberation_formula_words)] }
def WorldForgetsSaid : Prop := worldForgetsRow.holds Tryd.pinned (OpenSpec.ofChange worldForgetsSpec)

/-- ITS FALSE NEIGHBOUR: 'it returns false'. Refute it at one input. -/
def worldForgetsWrong : ChangeSpec := { name := "worldForgets", fn := fun _ => fun
  | [d] => { results := [.lit (.bool false)], args := [d] }
  | _ => none }
def WorldForgetsWrongFalsely : Prop := worldForgetsRow.holds Tryd.pinned (OpenSpec.ofChange worldForgetsWrong)

/-- 'deliberationlaw03.WorldSets': WHATEVER THE INPUT: true; the input reads as it did. -/
def worldSetsSpec : ChangeSpec := { name := "worldSets", fn := fun _ => fun
  | [d1, d2, d3, d4] => { results := [.lit (.bool true)], args := [d1, d2, d3, d4] }
  | _ => none }
def worldSetsRow : OpenClaim := { program := "ytefkehflmlikmaadoor", sum := "0858ab8da38737b09556360feec2cba6d0a6f12b05bdaa380aa95de6da8954ee", func := "deliberation/deliberationlaw03.WorldSets", spec := "worldSets", inPlace := ["internal/abi.NoEscape"], unfollowed := true, recurses := true, named := ["math/bits.deBruijn64tab", "deliberation/formula.words"], apart := false, laid := [("math/bits.deBruijn64tab", laid_math_bits_deBruijn64tab), ("deliberation/formula.words", laid_deliberation_formula_words)] }
def WorldSetsSaid : Prop := worldSetsRow.holds Tryd.pinned (OpenSpec.ofChange worldSetsSpec)

/-- ITS FALSE NEIGHBOUR: 'it returns false'. Refute it at one input. -/
def worldSetsWrong : ChangeSpec := { name := "worldSets", fn := fun _ => fun
  | [d1, d2, d3, d4] => { results := [.lit (.bool false)], args := [d1, d2, d3, d4] }
  | _ => none }
def WorldSetsWrongFalsely : Prop := worldSetsRow.holds Tryd.pinned (OpenSpec.ofChange worldSetsWrong)

/- THE SECOND FORM. 'bulk': how many values and letters a reading holds, each counted each time it is reached (what is shared counts as often as it is met; a slice's spare places count too). A statement '..UptoSaid' is the law's where the arguments, and the package variables that the reading takes, are together of bulk at most 1048576: NARROWER than '..Said'. Prove '..Said' where nothing that the law and all that it calls make is longer than what came in: it says more and counts as full. Else prove '..UptoSaid'. A law counts once. -/
mutual
def uptoBulk {H : Type} : DataW H → Nat
  | .lit (.string bytes) => bytes.length + 1
  | .lit _ => 1
  | .nil => 1
  | .ptr d => uptoBulk d + 1
  | .slice elems spare => uptoBulkAll elems + uptoBulkAll spare + 1
  | .agg parts => uptoBulkAll parts + 1
  | .iface _ d => uptoBulk d + 1
  | .map entries => uptoBulkEntries entries + 1
  | .held _ => 1
def uptoBulkAll {H : Type} : List (DataW H) → Nat
  | [] => 0
  | d :: r => uptoBulk d + uptoBulkAll r
def uptoBulkEntries {H : Type} : List (Lit × DataW H) → Nat
  | [] => 0
  | x :: r => uptoBulkEntry x + uptoBulkEntries r
def uptoBulkEntry {H : Type} : Lit × DataW H → Nat
  | (.string bytes, d) => bytes.length + uptoBulk d + 1
  | (_, d) => uptoBulk d + 1
 end
def uptoSmall : (H : Type) → List (DataW H) → Bool := fun _ ds => decide (uptoBulkAll ds ≤ 1048576)
def OpenSpec.upto (s : _root_.Go.ChangeSpec) : _root_.Go.OpenSpec := { _root_.Go.OpenSpec.ofChange s with cond := some uptoSmall }

/-- 'deliberationlaw34.UpdatePostulates', WHERE WHAT IT READS IS OF BULK AT MOST 1048576: true; the input reads as it did. -/
def updatePostulatesUptoRow : OpenClaim := { program := "ytefkehflmlikmaadoor", sum := "0858ab8da38737b09556360feec2cba6d0a6f12b05bdaa380aa95de6da8954ee", func := "deliberation/deliberationlaw34.UpdatePostulates", spec := "updatePostulates", unfollowed := true, recurses := true, named := ["math/bits.deBruijn64tab"], apart := false, laid := [("math/bits.deBruijn64tab", laid_math_bits_deBruijn64tab)], narrowed := true }
def UpdatePostulatesUptoSaid : Prop := updatePostulatesUptoRow.holds Tryd.pinned (OpenSpec.upto updatePostulatesSpec)

/-- 'deliberationlaw34.UpdateSingle', WHERE WHAT IT READS IS OF BULK AT MOST 1048576: true; the input reads as it did. -/
def updateSingleUptoRow : OpenClaim := { program := "ytefkehflmlikmaadoor", sum := "0858ab8da38737b09556360feec2cba6d0a6f12b05bdaa380aa95de6da8954ee", func := "deliberation/deliberationlaw34.UpdateSingle", spec := "updateSingle", unfollowed := true, recurses := true, named := ["math/bits.deBruijn64tab"], apart := false, laid := [("math/bits.deBruijn64tab", laid_math_bits_deBruijn64tab)], narrowed := true }
def UpdateSingleUptoSaid : Prop := updateSingleUptoRow.holds Tryd.pinned (OpenSpec.upto updateSingleSpec)

/-- 'deliberationlaw34.UpdateErases', WHERE WHAT IT READS IS OF BULK AT MOST 1048576: true; the input reads as it did. -/
def updateErasesUptoRow : OpenClaim := { program := "ytefkehflmlikmaadoor", sum := "0858ab8da38737b09556360feec2cba6d0a6f12b05bdaa380aa95de6da8954ee", func := "deliberation/deliberationlaw34.UpdateErases", spec := "updateErases", unfollowed := true, recurses := true, named := ["math/bits.deBruijn64tab"], apart := false, laid := [("math/bits.deBruijn64tab", laid_math_bits_deBruijn64tab)], narrowed := true }
def UpdateErasesUptoSaid : Prop := updateErasesUptoRow.holds Tryd.pinned (OpenSpec.upto updateErasesSpec)

/-- 'deliberationlaw34.UpdateDistances', WHERE WHAT IT READS IS OF BULK AT MOST 1048576: true; the input reads as it did. -/
def updateDistancesUptoRow : OpenClaim := { program := "ytefkehflmlikmaadoor", sum := "0858ab8da38737b09556360feec2cba6d0a6f12b05bdaa380aa95de6da8954ee", func := "deliberation/deliberationlaw34.UpdateDistances", spec := "updateDistances", unfollowed := true, recurses := true, named := ["math/bits.deBruijn64tab"], apart := false, laid := [("math/bits.deBruijn64tab", laid_math_bits_deBruijn64tab)], narrowed := true }
def UpdateDistancesUptoSaid : Prop := updateDistancesUptoRow.holds Tryd.pinned (OpenSpec.upto updateDistancesSpec)

/-- 'deliberationlaw03.WorldTheories', WHERE WHAT IT READS IS OF BULK AT MOST 1048576: true; the input reads as it did. -/
def worldTheoriesUptoRow : OpenClaim := { program := "ytefkehflmlikmaadoor", sum := "0858ab8da38737b09556360feec2cba6d0a6f12b05bdaa380aa95de6da8954ee", func := "deliberation/deliberationlaw03.WorldTheories", spec := "worldTheories", inPlace := ["internal/abi.NoEscape"], unfollowed := true, recurses := true, named := ["deliberation/formula.words"], apart := false, laid := [("deliberation/formula.words", laid_deliberation_formula_words)], narrowed := true }
def WorldTheoriesUptoSaid : Prop := worldTheoriesUptoRow.holds Tryd.pinned (OpenSpec.upto worldTheoriesSpec)

/-- 'deliberationlaw03.WorldBack', WHERE WHAT IT READS IS OF BULK AT MOST 1048576: true; the input reads as it did. -/
def worldBackUptoRow : OpenClaim := { program := "ytefkehflmlikmaadoor", sum := "0858ab8da38737b09556360feec2cba6d0a6f12b05bdaa380aa95de6da8954ee", func := "deliberation/deliberationlaw03.WorldBack", spec := "worldBack", inPlace := ["internal/abi.NoEscape"], unfollowed := true, recurses := true, named := ["deliberation/formula.words"], apart := false, laid := [("deliberation/formula.words", laid_deliberation_formula_words)], narrowed := true }
def WorldBackUptoSaid : Prop := worldBackUptoRow.holds Tryd.pinned (OpenSpec.upto worldBackSpec)

/-- 'deliberationlaw03.WorldAlgebra', WHERE WHAT IT READS IS OF BULK AT MOST 1048576: true; the input reads as it did. -/
def worldAlgebraUptoRow : OpenClaim := { program := "ytefkehflmlikmaadoor", sum := "0858ab8da38737b09556360feec2cba6d0a6f12b05bdaa380aa95de6da8954ee", func := "deliberation/deliberationlaw03.WorldAlgebra", spec := "worldAlgebra", inPlace := ["internal/abi.NoEscape"], unfollowed := true, recurses := true, named := ["deliberation/formula.words"], apart := false, laid := [("deliberation/formula.words", laid_deliberation_formula_words)], narrowed := true }
def WorldAlgebraUptoSaid : Prop := worldAlgebraUptoRow.holds Tryd.pinned (OpenSpec.upto worldAlgebraSpec)

/-- 'deliberationlaw03.WorldEntails', WHERE WHAT IT READS IS OF BULK AT MOST 1048576: true; the input reads as it did. -/
def worldEntailsUptoRow : OpenClaim := { program := "ytefkehflmlikmaadoor", sum := "0858ab8da38737b09556360feec2cba6d0a6f12b05bdaa380aa95de6da8954ee", func := "deliberation/deliberationlaw03.WorldEntails", spec := "worldEntails", inPlace := ["internal/abi.NoEscape"], unfollowed := true, recurses := true, named := ["deliberation/formula.words"], apart := false, laid := [("deliberation/formula.words", laid_deliberation_formula_words)], narrowed := true }
def WorldEntailsUptoSaid : Prop := worldEntailsUptoRow.holds Tryd.pinned (OpenSpec.upto worldEntailsSpec)

/-- 'deliberationlaw03.WorldForgets', WHERE WHAT IT READS IS OF BULK AT MOST 1048576: true; the input reads as it did. -/
def worldForgetsUptoRow : OpenClaim := { program := "ytefkehflmlikmaadoor", sum := "0858ab8da38737b09556360feec2cba6d0a6f12b05bdaa380aa95de6da8954ee", func := "deliberation/deliberationlaw03.WorldForgets", spec := "worldForgets", inPlace := ["internal/abi.NoEscape"], unfollowed := true, recurses := true, named := ["deliberation/formula.words"], apart := false, laid := [("deliberation/formula.words", laid_deliberation_formula_words)], narrowed := true }
def WorldForgetsUptoSaid : Prop := worldForgetsUptoRow.holds Tryd.pinned (OpenSpec.upto worldForgetsSpec)

/-- 'deliberationlaw03.WorldSets', WHERE WHAT IT READS IS OF BULK AT MOST 1048576: true; the input reads as it did. -/
def worldSetsUptoRow : OpenClaim := { program := "ytefkehflmlikmaadoor", sum := "0858ab8da38737b09556360feec2cba6d0a6f12b05bdaa380aa95de6da8954ee", func := "deliberation/deliberationlaw03.WorldSets", spec := "worldSets", inPlace := ["internal/abi.NoEscape"], unfollowed := true, recurses := true, named := ["math/bits.deBruijn64tab", "deliberation/formula.words"], apart := false, laid := [("math/bits.deBruijn64tab", laid_math_bits_deBruijn64tab), ("deliberation/formula.words", laid_deliberation_formula_words)], narrowed := true }
def WorldSetsUptoSaid : Prop := worldSetsUptoRow.holds Tryd.pinned (OpenSpec.upto worldSetsSpec)

end Rows
end Go.Proofs.YtefkehflmlikmaaDoor
