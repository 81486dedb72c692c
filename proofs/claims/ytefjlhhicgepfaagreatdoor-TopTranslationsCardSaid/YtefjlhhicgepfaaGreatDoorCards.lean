/-
  DERIVED. GIVEN WITH THE SEED: THE CARDS: each row of YtefjlhhicgepfaaGreatDoorRows.lean that lists a variable, with what it lists TIED to the program's text (the seventh form; the later family's looks); each row that meets fmt, with fmt's text TOLD by the authors' own Lean function (tested against real Go, not proved from fmt's source: count such statements apart). THE CARD IS WHAT COUNTS. Prove the row's statement (the work); the ties are given (YtefjlhhicgepfaaGreatDoorTie.lean); close each card by the builder's one call (the guide's Derived/Test/ToyasCard.lean, 'card_holds'). Laid BY PROGRAM, IN A SANDBOX (cutbox-door.mjs). By AI agents, Wed Nov 11 2026. No macro, syntax, notation, axiom, sorry.
-/
import Derived.Test.YtefjlhhicgepfaaGreatDoorRows
import GoSem.ClaimSeven
namespace Go.Proofs.YtefjlhhicgepfaaGreatDoor
namespace Rows

/-- THE TIED CARD OF 'deliberationtop.TopTranslations'. -/
def topTranslationsCard : Claim7 := { stood := { row := topTranslationsRow, standIns := [], harness := (true, "9f07012f2c5bd0f861f4400911664305d896a7a0f717ea07728522b24c94b410"), looks := false }, kinds := [], alts := [], laidByText := true, laidKinds := [.data], laidTests := true, laidLooks := .later }
def TopTranslationsCardSaid : Prop := Claim7.holds Tryz.pinned (.plain (OpenSpec.ofChange topTranslationsSpec)) topTranslationsCard

/-- THE SECOND FORM's CARD OF 'deliberationtop.TopTranslations'. -/
def topTranslationsUptoCard : Claim7 := { stood := { row := topTranslationsUptoRow, standIns := [], harness := (true, "9f07012f2c5bd0f861f4400911664305d896a7a0f717ea07728522b24c94b410"), looks := false }, kinds := [], alts := [], laidByText := true, laidKinds := [.data], laidTests := true, laidLooks := .later }
def TopTranslationsUptoCardSaid : Prop := Claim7.holds Tryz.pinned (.plain (OpenSpec.upto topTranslationsSpec)) topTranslationsUptoCard
end Rows
end Go.Proofs.YtefjlhhicgepfaaGreatDoor
