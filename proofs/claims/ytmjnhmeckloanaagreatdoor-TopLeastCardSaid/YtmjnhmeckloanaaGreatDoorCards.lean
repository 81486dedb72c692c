/-
  DERIVED. GIVEN WITH THE SEED: THE CARDS: each row of YtmjnhmeckloanaaGreatDoorRows.lean that lists a variable, with what it lists TIED to the program's text (the seventh form; the later family's looks); each row that meets fmt, with fmt's text TOLD by the authors' own Lean function (tested against real Go, not proved from fmt's source: count such statements apart). THE CARD IS WHAT COUNTS. Prove the row's statement (the work); the ties are given (YtmjnhmeckloanaaGreatDoorTie.lean); close each card by the builder's one call (the guide's Derived/Test/ToyasCard.lean, 'card_holds'). Laid BY PROGRAM, IN A SANDBOX (cutbox-door.mjs). By AI agents, Wed Nov 11 2026. No macro, syntax, notation, axiom, sorry.
-/
import Derived.Test.YtmjnhmeckloanaaGreatDoorRows
import GoSem.ClaimSeven
namespace Go.Proofs.YtmjnhmeckloanaaGreatDoor
namespace Rows

/-- THE TIED CARD OF 'deliberationtop.TopLeast'. -/
def topLeastCard : Claim7 := { stood := { row := topLeastRow, standIns := [], harness := (true, "453e33f34b83ec7d7202c1c5b669e7526fe11ae4b0e34ad3d40f819e23da6886"), looks := false }, kinds := [], alts := [], laidByText := true, laidKinds := [.data], laidTests := true, laidLooks := .later }
def TopLeastCardSaid : Prop := Claim7.holds Tryz.pinned (.plain (OpenSpec.ofChange topLeastSpec)) topLeastCard

/-- THE TIED CARD OF 'deliberationtop.TopTables'. -/
def topTablesCard : Claim7 := { stood := { row := topTablesRow, standIns := [], harness := (true, "453e33f34b83ec7d7202c1c5b669e7526fe11ae4b0e34ad3d40f819e23da6886"), looks := false }, kinds := [], alts := [], laidByText := true, laidKinds := [.data], laidTests := true, laidLooks := .later }
def TopTablesCardSaid : Prop := Claim7.holds Tryz.pinned (.plain (OpenSpec.ofChange topTablesSpec)) topTablesCard

/-- THE TIED CARD OF 'deliberationtop.TopTranslations'. -/
def topTranslationsCard : Claim7 := { stood := { row := topTranslationsRow, standIns := [], harness := (true, "453e33f34b83ec7d7202c1c5b669e7526fe11ae4b0e34ad3d40f819e23da6886"), looks := false }, kinds := [], alts := [], laidByText := true, laidKinds := [.data], laidTests := true, laidLooks := .later }
def TopTranslationsCardSaid : Prop := Claim7.holds Tryz.pinned (.plain (OpenSpec.ofChange topTranslationsSpec)) topTranslationsCard

/-- THE SECOND FORM's CARD OF 'deliberationtop.TopLeast'. -/
def topLeastUptoCard : Claim7 := { stood := { row := topLeastUptoRow, standIns := [], harness := (true, "453e33f34b83ec7d7202c1c5b669e7526fe11ae4b0e34ad3d40f819e23da6886"), looks := false }, kinds := [], alts := [], laidByText := true, laidKinds := [.data], laidTests := true, laidLooks := .later }
def TopLeastUptoCardSaid : Prop := Claim7.holds Tryz.pinned (.plain (OpenSpec.upto topLeastSpec)) topLeastUptoCard

/-- THE SECOND FORM's CARD OF 'deliberationtop.TopTables'. -/
def topTablesUptoCard : Claim7 := { stood := { row := topTablesUptoRow, standIns := [], harness := (true, "453e33f34b83ec7d7202c1c5b669e7526fe11ae4b0e34ad3d40f819e23da6886"), looks := false }, kinds := [], alts := [], laidByText := true, laidKinds := [.data], laidTests := true, laidLooks := .later }
def TopTablesUptoCardSaid : Prop := Claim7.holds Tryz.pinned (.plain (OpenSpec.upto topTablesSpec)) topTablesUptoCard

/-- THE SECOND FORM's CARD OF 'deliberationtop.TopTranslations'. -/
def topTranslationsUptoCard : Claim7 := { stood := { row := topTranslationsUptoRow, standIns := [], harness := (true, "453e33f34b83ec7d7202c1c5b669e7526fe11ae4b0e34ad3d40f819e23da6886"), looks := false }, kinds := [], alts := [], laidByText := true, laidKinds := [.data], laidTests := true, laidLooks := .later }
def TopTranslationsUptoCardSaid : Prop := Claim7.holds Tryz.pinned (.plain (OpenSpec.upto topTranslationsSpec)) topTranslationsUptoCard
end Rows
end Go.Proofs.YtmjnhmeckloanaaGreatDoor
