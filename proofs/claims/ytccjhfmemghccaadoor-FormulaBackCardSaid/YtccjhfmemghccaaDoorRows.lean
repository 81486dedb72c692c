/-
  NARROWER THAN 'FOR EVERY INPUT', by the rows' own cells (each row's printed sentence says how): FormulaParses: laid · FormulaBack: laid.
  DERIVED. THE GIVEN ROWS OF THIS SEAT. 2 by the template 'for every input the law returns true; each argument reads behind the call as it read before'; 0 by the template 'total and deterministic' (their statements: YtccjhfmemghccaaDoorTotals.lean).
  GIVEN WITH THE SEED: the statements are not yours to turn. If you find one false, say at which input.
  Laid BY PROGRAM, IN A SANDBOX (cutbox-rows.mjs): the forced cells as the released guide's own fill.sh prints them over the translation b3512360c4edc3dc… (all of the seat's roots in one cut). By AI agents, Wed Nov 11 2026. No macro, syntax, notation, axiom, sorry.
-/
import Derived.Test.YtccjhfmemghccaaDoorChecked
import GoSem.Claim
import GoSem.ClaimJoined
import GoSem.ClaimMapViews
import Derived.JoinedTies
import Derived.KernelRfl
namespace Go.Proofs.YtccjhfmemghccaaDoor
/- THE CELL 'sum', in the pinned program and in every row, IS THE sha256 OF THE DUMP (.gsa) THAT YtccjhfmemghccaaDoorProg.lean LOADS. Nothing in Lean hashes anything: it is a label: what it is worth is what the hold of that sum in a sandbox is worth. -/
noncomputable def Tryd.pinned : Pinned := { name := "ytccjhfmemghccaadoor", sum := "b3512360c4edc3dc7cf071254456b62dbd8742b7c4e5b06db8ad28166dc054a2", checked := Tryd.checked }
namespace Rows
def none {H : Type} : Left H := { results := [], args := [] }

/- WHAT THE LISTED PACKAGE-LEVEL VARIABLES READ AS WHEN THE CALL BEGINS. Each datum BY PROGRAM (the guide's laid-datum.mjs) off the statement by which the dump's own 'gosem.cut.vars' lays the variable. In a bare row this is a premise. The card (YtccjhfmemghccaaDoorCards.lean) ties it to the program's text. -/
def laid_deliberation_formula_words {H : Type} : DataW H := .agg [.lit (.string []), .lit (.string []), .lit (.string []), .lit (.string []), .lit (.string []), .lit (.string [32, 38, 32]), .lit (.string [32, 124, 32]), .lit (.string [32, 45, 62, 32]), .lit (.string [32, 60, 45, 62, 32])]

/-- 'deliberationlaw02.FormulaParses': WHATEVER THE INPUT: true; the input reads as it did. -/
def formulaParsesSpec : ChangeSpec := { name := "formulaParses", fn := fun _ => fun
  | [d1, d2, d3, d4] => { results := [.lit (.bool true)], args := [d1, d2, d3, d4] }
  | _ => none }
def formulaParsesRow : OpenClaim := { program := "ytccjhfmemghccaadoor", sum := "b3512360c4edc3dc7cf071254456b62dbd8742b7c4e5b06db8ad28166dc054a2", func := "deliberation/deliberationlaw02.FormulaParses", spec := "formulaParses", inPlace := ["internal/abi.NoEscape"], unfollowed := true, recurses := true, named := ["deliberation/formula.words"], apart := false, laid := [("deliberation/formula.words", laid_deliberation_formula_words)] }
def FormulaParsesSaid : Prop := formulaParsesRow.holds Tryd.pinned (OpenSpec.ofChange formulaParsesSpec)

/-- ITS FALSE NEIGHBOUR: 'it returns false'. Refute it at one input. -/
def formulaParsesWrong : ChangeSpec := { name := "formulaParses", fn := fun _ => fun
  | [d1, d2, d3, d4] => { results := [.lit (.bool false)], args := [d1, d2, d3, d4] }
  | _ => none }
def FormulaParsesWrongFalsely : Prop := formulaParsesRow.holds Tryd.pinned (OpenSpec.ofChange formulaParsesWrong)

/-- 'deliberationlaw02.FormulaBack': WHATEVER THE INPUT: true; the input reads as it did. -/
def formulaBackSpec : ChangeSpec := { name := "formulaBack", fn := fun _ => fun
  | [d1, d2] => { results := [.lit (.bool true)], args := [d1, d2] }
  | _ => none }
def formulaBackRow : OpenClaim := { program := "ytccjhfmemghccaadoor", sum := "b3512360c4edc3dc7cf071254456b62dbd8742b7c4e5b06db8ad28166dc054a2", func := "deliberation/deliberationlaw02.FormulaBack", spec := "formulaBack", inPlace := ["internal/abi.NoEscape"], unfollowed := true, recurses := true, named := ["deliberation/formula.words"], apart := false, laid := [("deliberation/formula.words", laid_deliberation_formula_words)] }
def FormulaBackSaid : Prop := formulaBackRow.holds Tryd.pinned (OpenSpec.ofChange formulaBackSpec)

/-- ITS FALSE NEIGHBOUR: 'it returns false'. Refute it at one input. -/
def formulaBackWrong : ChangeSpec := { name := "formulaBack", fn := fun _ => fun
  | [d1, d2] => { results := [.lit (.bool false)], args := [d1, d2] }
  | _ => none }
def FormulaBackWrongFalsely : Prop := formulaBackRow.holds Tryd.pinned (OpenSpec.ofChange formulaBackWrong)

/- THE SECOND FORM. 'bulk': how many values and letters a reading holds, each counted each time it is reached (what is shared counts as often as it is met; a slice's spare places count too). A statement '..UptoSaid' is the law's where the arguments, and the package variables that the reading takes, are together of bulk at most 1048576: NARROWER than '..Said'. Prove '..Said' where nothing that the law and all that it calls make is longer than what came in: it says more and counts as full. Else prove '..UptoSaid'. A law counts once. -/
mutual
def uptoBulk {H : Type} : DataW H → Nat
  | .lit (.string bytes) => bytes.length + 1
  | .lit _ => 1
  | .nil => 1
  | .ptr d => uptoBulk d + 1
  | .slice elems spare => uptoBulkAll elems + uptoBulkAll spare + 1
  | .agg parts => uptoBulkAll parts + 1
  | .iface _ d => uptoBulk d + 1
  | .map entries => uptoBulkEntries entries + 1
  | .held _ => 1
def uptoBulkAll {H : Type} : List (DataW H) → Nat
  | [] => 0
  | d :: r => uptoBulk d + uptoBulkAll r
def uptoBulkEntries {H : Type} : List (Lit × DataW H) → Nat
  | [] => 0
  | x :: r => uptoBulkEntry x + uptoBulkEntries r
def uptoBulkEntry {H : Type} : Lit × DataW H → Nat
  | (.string bytes, d) => bytes.length + uptoBulk d + 1
  | (_, d) => uptoBulk d + 1
 end
def uptoSmall : (H : Type) → List (DataW H) → Bool := fun _ ds => decide (uptoBulkAll ds ≤ 1048576)
def OpenSpec.upto (s : _root_.Go.ChangeSpec) : _root_.Go.OpenSpec := { _root_.Go.OpenSpec.ofChange s with cond := some uptoSmall }

/-- 'deliberationlaw02.FormulaParses', WHERE WHAT IT READS IS OF BULK AT MOST 1048576: true; the input reads as it did. -/
def formulaParsesUptoRow : OpenClaim := { program := "ytccjhfmemghccaadoor", sum := "b3512360c4edc3dc7cf071254456b62dbd8742b7c4e5b06db8ad28166dc054a2", func := "deliberation/deliberationlaw02.FormulaParses", spec := "formulaParses", inPlace := ["internal/abi.NoEscape"], unfollowed := true, recurses := true, named := ["deliberation/formula.words"], apart := false, laid := [("deliberation/formula.words", laid_deliberation_formula_words)], narrowed := true }
def FormulaParsesUptoSaid : Prop := formulaParsesUptoRow.holds Tryd.pinned (OpenSpec.upto formulaParsesSpec)

/-- 'deliberationlaw02.FormulaBack', WHERE WHAT IT READS IS OF BULK AT MOST 1048576: true; the input reads as it did. -/
def formulaBackUptoRow : OpenClaim := { program := "ytccjhfmemghccaadoor", sum := "b3512360c4edc3dc7cf071254456b62dbd8742b7c4e5b06db8ad28166dc054a2", func := "deliberation/deliberationlaw02.FormulaBack", spec := "formulaBack", inPlace := ["internal/abi.NoEscape"], unfollowed := true, recurses := true, named := ["deliberation/formula.words"], apart := false, laid := [("deliberation/formula.words", laid_deliberation_formula_words)], narrowed := true }
def FormulaBackUptoSaid : Prop := formulaBackUptoRow.holds Tryd.pinned (OpenSpec.upto formulaBackSpec)

end Rows
end Go.Proofs.YtccjhfmemghccaaDoor
