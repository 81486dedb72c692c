/-
  DERIVED. GIVEN WITH THE SEED: THE CARDS: each row of YtefkehflmlikmaaGreatDoorRows.lean that lists a variable, with what it lists TIED to the program's text (the seventh form; the later family's looks); each row that meets fmt, with fmt's text TOLD by the authors' own Lean function (tested against real Go, not proved from fmt's source: count such statements apart). THE CARD IS WHAT COUNTS. Prove the row's statement (the work); the ties are given (YtefkehflmlikmaaGreatDoorTie.lean); close each card by the builder's one call (the guide's Derived/Test/ToyasCard.lean, 'card_holds'). Laid BY PROGRAM, IN A SANDBOX (cutbox-door.mjs). By AI agents, Wed Nov 11 2026. No macro, syntax, notation, axiom, sorry.
-/
import Derived.Test.YtefkehflmlikmaaGreatDoorRows
import GoSem.ClaimSeven
namespace Go.Proofs.YtefkehflmlikmaaGreatDoor
namespace Rows

/-- THE TIED CARD OF 'deliberationlaw34.UpdateAnswers'. -/
def updateAnswersCard : Claim7 := { stood := { row := updateAnswersRow, standIns := [], harness := (true, "5e6513656e71bd9435fcb3dbf8fdda89fadb713b3d44f65bc4f96f1ea9c185df"), looks := false }, kinds := [], alts := [], laidByText := true, laidKinds := [.data], laidTests := true, laidLooks := .later }
def UpdateAnswersCardSaid : Prop := Claim7.holds Tryz.pinned (.plain (OpenSpec.ofChange updateAnswersSpec)) updateAnswersCard

/-- THE TIED CARD OF 'deliberationlaw03.WorldModels'. -/
def worldModelsCard : Claim7 := { stood := { row := worldModelsRow, standIns := [], harness := (true, "5e6513656e71bd9435fcb3dbf8fdda89fadb713b3d44f65bc4f96f1ea9c185df"), looks := false }, kinds := [], alts := [], laidByText := true, laidKinds := [.data], laidTests := true, laidLooks := .later }
def WorldModelsCardSaid : Prop := Claim7.holds Tryz.pinned (.plain (OpenSpec.ofChange worldModelsSpec)) worldModelsCard

/-- THE SECOND FORM's CARD OF 'deliberationlaw34.UpdateAnswers'. -/
def updateAnswersUptoCard : Claim7 := { stood := { row := updateAnswersUptoRow, standIns := [], harness := (true, "5e6513656e71bd9435fcb3dbf8fdda89fadb713b3d44f65bc4f96f1ea9c185df"), looks := false }, kinds := [], alts := [], laidByText := true, laidKinds := [.data], laidTests := true, laidLooks := .later }
def UpdateAnswersUptoCardSaid : Prop := Claim7.holds Tryz.pinned (.plain (OpenSpec.upto updateAnswersSpec)) updateAnswersUptoCard

/-- THE SECOND FORM's CARD OF 'deliberationlaw03.WorldModels'. -/
def worldModelsUptoCard : Claim7 := { stood := { row := worldModelsUptoRow, standIns := [], harness := (true, "5e6513656e71bd9435fcb3dbf8fdda89fadb713b3d44f65bc4f96f1ea9c185df"), looks := false }, kinds := [], alts := [], laidByText := true, laidKinds := [.data], laidTests := true, laidLooks := .later }
def WorldModelsUptoCardSaid : Prop := Claim7.holds Tryz.pinned (.plain (OpenSpec.upto worldModelsSpec)) worldModelsUptoCard
end Rows
end Go.Proofs.YtefkehflmlikmaaGreatDoor
