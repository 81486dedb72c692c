/-
  DERIVED. GIVEN WITH THE SEED: THE CARDS: each row of YtccjhfmemghccaaDoorRows.lean that lists a variable, with what it lists TIED to the program's text (the seventh form; the later family's looks); each row that meets fmt, with fmt's text TOLD by the authors' own Lean function (tested against real Go, not proved from fmt's source: count such statements apart). THE CARD IS WHAT COUNTS. Prove the row's statement (the work); the ties are given (YtccjhfmemghccaaDoorTie.lean); close each card by the builder's one call (the guide's Derived/Test/ToyasCard.lean, 'card_holds'). Laid BY PROGRAM, IN A SANDBOX (cutbox-door.mjs). By AI agents, Wed Nov 11 2026. No macro, syntax, notation, axiom, sorry.
-/
import Derived.Test.YtccjhfmemghccaaDoorRows
import GoSem.ClaimSeven
namespace Go.Proofs.YtccjhfmemghccaaDoor
namespace Rows

/-- THE TIED CARD OF 'deliberationlaw02.FormulaParses'. -/
def formulaParsesCard : Claim7 := { stood := { row := formulaParsesRow, standIns := [], harness := (true, "bd3fbb5bea6a788977b587dd3d05375b5b1347d48c3832c3d3b3db86a5f9e0a4"), looks := false }, kinds := [], alts := [], laidByText := true, laidKinds := [.data], laidTests := true, laidLooks := .later }
def FormulaParsesCardSaid : Prop := Claim7.holds Tryd.pinned (.plain (OpenSpec.ofChange formulaParsesSpec)) formulaParsesCard

/-- THE TIED CARD OF 'deliberationlaw02.FormulaBack'. -/
def formulaBackCard : Claim7 := { stood := { row := formulaBackRow, standIns := [], harness := (true, "bd3fbb5bea6a788977b587dd3d05375b5b1347d48c3832c3d3b3db86a5f9e0a4"), looks := false }, kinds := [], alts := [], laidByText := true, laidKinds := [.data], laidTests := true, laidLooks := .later }
def FormulaBackCardSaid : Prop := Claim7.holds Tryd.pinned (.plain (OpenSpec.ofChange formulaBackSpec)) formulaBackCard

/-- THE SECOND FORM's CARD OF 'deliberationlaw02.FormulaParses'. -/
def formulaParsesUptoCard : Claim7 := { stood := { row := formulaParsesUptoRow, standIns := [], harness := (true, "bd3fbb5bea6a788977b587dd3d05375b5b1347d48c3832c3d3b3db86a5f9e0a4"), looks := false }, kinds := [], alts := [], laidByText := true, laidKinds := [.data], laidTests := true, laidLooks := .later }
def FormulaParsesUptoCardSaid : Prop := Claim7.holds Tryd.pinned (.plain (OpenSpec.upto formulaParsesSpec)) formulaParsesUptoCard

/-- THE SECOND FORM's CARD OF 'deliberationlaw02.FormulaBack'. -/
def formulaBackUptoCard : Claim7 := { stood := { row := formulaBackUptoRow, standIns := [], harness := (true, "bd3fbb5bea6a788977b587dd3d05375b5b1347d48c3832c3d3b3db86a5f9e0a4"), looks := false }, kinds := [], alts := [], laidByText := true, laidKinds := [.data], laidTests := true, laidLooks := .later }
def FormulaBackUptoCardSaid : Prop := Claim7.holds Tryd.pinned (.plain (OpenSpec.upto formulaBackSpec)) formulaBackUptoCard
end Rows
end Go.Proofs.YtccjhfmemghccaaDoor
