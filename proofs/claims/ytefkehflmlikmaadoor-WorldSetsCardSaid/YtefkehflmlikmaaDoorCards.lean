/-
  DERIVED. GIVEN WITH THE SEED: THE CARDS: each row of YtefkehflmlikmaaDoorRows.lean that lists a variable, with what it lists TIED to the program's text (the seventh form; the later family's looks); each row that meets fmt, with fmt's text TOLD by the authors' own Lean function (tested against real Go, not proved from fmt's source: count such statements apart). THE CARD IS WHAT COUNTS. Prove the row's statement (the work); the ties are given (YtefkehflmlikmaaDoorTie.lean); close each card by the builder's one call (the guide's Derived/Test/ToyasCard.lean, 'card_holds'). Laid BY PROGRAM, IN A SANDBOX (cutbox-door.mjs). By AI agents, Wed Nov 11 2026. No macro, syntax, notation, axiom, sorry.
-/
import Derived.Test.YtefkehflmlikmaaDoorRows
import GoSem.ClaimSeven
namespace Go.Proofs.YtefkehflmlikmaaDoor
namespace Rows

/-- THE TIED CARD OF 'deliberationlaw34.UpdatePostulates'. -/
def updatePostulatesCard : Claim7 := { stood := { row := updatePostulatesRow, standIns := [], harness := (true, "6334539c321525c333fc7b2a4152fe26bf4623d32e0e0a3adcd1bb89682176cb"), looks := false }, kinds := [], alts := [], laidByText := true, laidKinds := [.data], laidTests := true, laidLooks := .later }
def UpdatePostulatesCardSaid : Prop := Claim7.holds Tryd.pinned (.plain (OpenSpec.ofChange updatePostulatesSpec)) updatePostulatesCard

/-- THE TIED CARD OF 'deliberationlaw34.UpdateSingle'. -/
def updateSingleCard : Claim7 := { stood := { row := updateSingleRow, standIns := [], harness := (true, "6334539c321525c333fc7b2a4152fe26bf4623d32e0e0a3adcd1bb89682176cb"), looks := false }, kinds := [], alts := [], laidByText := true, laidKinds := [.data], laidTests := true, laidLooks := .later }
def UpdateSingleCardSaid : Prop := Claim7.holds Tryd.pinned (.plain (OpenSpec.ofChange updateSingleSpec)) updateSingleCard

/-- THE TIED CARD OF 'deliberationlaw34.UpdateErases'. -/
def updateErasesCard : Claim7 := { stood := { row := updateErasesRow, standIns := [], harness := (true, "6334539c321525c333fc7b2a4152fe26bf4623d32e0e0a3adcd1bb89682176cb"), looks := false }, kinds := [], alts := [], laidByText := true, laidKinds := [.data], laidTests := true, laidLooks := .later }
def UpdateErasesCardSaid : Prop := Claim7.holds Tryd.pinned (.plain (OpenSpec.ofChange updateErasesSpec)) updateErasesCard

/-- THE TIED CARD OF 'deliberationlaw34.UpdateDistances'. -/
def updateDistancesCard : Claim7 := { stood := { row := updateDistancesRow, standIns := [], harness := (true, "6334539c321525c333fc7b2a4152fe26bf4623d32e0e0a3adcd1bb89682176cb"), looks := false }, kinds := [], alts := [], laidByText := true, laidKinds := [.data], laidTests := true, laidLooks := .later }
def UpdateDistancesCardSaid : Prop := Claim7.holds Tryd.pinned (.plain (OpenSpec.ofChange updateDistancesSpec)) updateDistancesCard

/-- THE TIED CARD OF 'deliberationlaw03.WorldTheories'. -/
def worldTheoriesCard : Claim7 := { stood := { row := worldTheoriesRow, standIns := [], harness := (true, "6334539c321525c333fc7b2a4152fe26bf4623d32e0e0a3adcd1bb89682176cb"), looks := false }, kinds := [], alts := [], laidByText := true, laidKinds := [.data], laidTests := true, laidLooks := .later }
def WorldTheoriesCardSaid : Prop := Claim7.holds Tryd.pinned (.plain (OpenSpec.ofChange worldTheoriesSpec)) worldTheoriesCard

/-- THE TIED CARD OF 'deliberationlaw03.WorldBack'. -/
def worldBackCard : Claim7 := { stood := { row := worldBackRow, standIns := [], harness := (true, "6334539c321525c333fc7b2a4152fe26bf4623d32e0e0a3adcd1bb89682176cb"), looks := false }, kinds := [], alts := [], laidByText := true, laidKinds := [.data], laidTests := true, laidLooks := .later }
def WorldBackCardSaid : Prop := Claim7.holds Tryd.pinned (.plain (OpenSpec.ofChange worldBackSpec)) worldBackCard

/-- THE TIED CARD OF 'deliberationlaw03.WorldAlgebra'. -/
def worldAlgebraCard : Claim7 := { stood := { row := worldAlgebraRow, standIns := [], harness := (true, "6334539c321525c333fc7b2a4152fe26bf4623d32e0e0a3adcd1bb89682176cb"), looks := false }, kinds := [], alts := [], laidByText := true, laidKinds := [.data], laidTests := true, laidLooks := .later }
def WorldAlgebraCardSaid : Prop := Claim7.holds Tryd.pinned (.plain (OpenSpec.ofChange worldAlgebraSpec)) worldAlgebraCard

/-- THE TIED CARD OF 'deliberationlaw03.WorldEntails'. -/
def worldEntailsCard : Claim7 := { stood := { row := worldEntailsRow, standIns := [], harness := (true, "6334539c321525c333fc7b2a4152fe26bf4623d32e0e0a3adcd1bb89682176cb"), looks := false }, kinds := [], alts := [], laidByText := true, laidKinds := [.data], laidTests := true, laidLooks := .later }
def WorldEntailsCardSaid : Prop := Claim7.holds Tryd.pinned (.plain (OpenSpec.ofChange worldEntailsSpec)) worldEntailsCard

/-- THE TIED CARD OF 'deliberationlaw03.WorldForgets'. -/
def worldForgetsCard : Claim7 := { stood := { row := worldForgetsRow, standIns := [], harness := (true, "6334539c321525c333fc7b2a4152fe26bf4623d32e0e0a3adcd1bb89682176cb"), looks := false }, kinds := [], alts := [], laidByText := true, laidKinds := [.data], laidTests := true, laidLooks := .later }
def WorldForgetsCardSaid : Prop := Claim7.holds Tryd.pinned (.plain (OpenSpec.ofChange worldForgetsSpec)) worldForgetsCard

/-- THE TIED CARD OF 'deliberationlaw03.WorldSets'. -/
def worldSetsCard : Claim7 := { stood := { row := worldSetsRow, standIns := [], harness := (true, "6334539c321525c333fc7b2a4152fe26bf4623d32e0e0a3adcd1bb89682176cb"), looks := false }, kinds := [], alts := [], laidByText := true, laidKinds := [.data, .data], laidTests := true, laidLooks := .later }
def WorldSetsCardSaid : Prop := Claim7.holds Tryd.pinned (.plain (OpenSpec.ofChange worldSetsSpec)) worldSetsCard

/-- THE SECOND FORM's CARD OF 'deliberationlaw34.UpdatePostulates'. -/
def updatePostulatesUptoCard : Claim7 := { stood := { row := updatePostulatesUptoRow, standIns := [], harness := (true, "6334539c321525c333fc7b2a4152fe26bf4623d32e0e0a3adcd1bb89682176cb"), looks := false }, kinds := [], alts := [], laidByText := true, laidKinds := [.data], laidTests := true, laidLooks := .later }
def UpdatePostulatesUptoCardSaid : Prop := Claim7.holds Tryd.pinned (.plain (OpenSpec.upto updatePostulatesSpec)) updatePostulatesUptoCard

/-- THE SECOND FORM's CARD OF 'deliberationlaw34.UpdateSingle'. -/
def updateSingleUptoCard : Claim7 := { stood := { row := updateSingleUptoRow, standIns := [], harness := (true, "6334539c321525c333fc7b2a4152fe26bf4623d32e0e0a3adcd1bb89682176cb"), looks := false }, kinds := [], alts := [], laidByText := true, laidKinds := [.data], laidTests := true, laidLooks := .later }
def UpdateSingleUptoCardSaid : Prop := Claim7.holds Tryd.pinned (.plain (OpenSpec.upto updateSingleSpec)) updateSingleUptoCard

/-- THE SECOND FORM's CARD OF 'deliberationlaw34.UpdateErases'. -/
def updateErasesUptoCard : Claim7 := { stood := { row := updateErasesUptoRow, standIns := [], harness := (true, "6334539c321525c333fc7b2a4152fe26bf4623d32e0e0a3adcd1bb89682176cb"), looks := false }, kinds := [], alts := [], laidByText := true, laidKinds := [.data], laidTests := true, laidLooks := .later }
def UpdateErasesUptoCardSaid : Prop := Claim7.holds Tryd.pinned (.plain (OpenSpec.upto updateErasesSpec)) updateErasesUptoCard

/-- THE SECOND FORM's CARD OF 'deliberationlaw34.UpdateDistances'. -/
def updateDistancesUptoCard : Claim7 := { stood := { row := updateDistancesUptoRow, standIns := [], harness := (true, "6334539c321525c333fc7b2a4152fe26bf4623d32e0e0a3adcd1bb89682176cb"), looks := false }, kinds := [], alts := [], laidByText := true, laidKinds := [.data], laidTests := true, laidLooks := .later }
def UpdateDistancesUptoCardSaid : Prop := Claim7.holds Tryd.pinned (.plain (OpenSpec.upto updateDistancesSpec)) updateDistancesUptoCard

/-- THE SECOND FORM's CARD OF 'deliberationlaw03.WorldTheories'. -/
def worldTheoriesUptoCard : Claim7 := { stood := { row := worldTheoriesUptoRow, standIns := [], harness := (true, "6334539c321525c333fc7b2a4152fe26bf4623d32e0e0a3adcd1bb89682176cb"), looks := false }, kinds := [], alts := [], laidByText := true, laidKinds := [.data], laidTests := true, laidLooks := .later }
def WorldTheoriesUptoCardSaid : Prop := Claim7.holds Tryd.pinned (.plain (OpenSpec.upto worldTheoriesSpec)) worldTheoriesUptoCard

/-- THE SECOND FORM's CARD OF 'deliberationlaw03.WorldBack'. -/
def worldBackUptoCard : Claim7 := { stood := { row := worldBackUptoRow, standIns := [], harness := (true, "6334539c321525c333fc7b2a4152fe26bf4623d32e0e0a3adcd1bb89682176cb"), looks := false }, kinds := [], alts := [], laidByText := true, laidKinds := [.data], laidTests := true, laidLooks := .later }
def WorldBackUptoCardSaid : Prop := Claim7.holds Tryd.pinned (.plain (OpenSpec.upto worldBackSpec)) worldBackUptoCard

/-- THE SECOND FORM's CARD OF 'deliberationlaw03.WorldAlgebra'. -/
def worldAlgebraUptoCard : Claim7 := { stood := { row := worldAlgebraUptoRow, standIns := [], harness := (true, "6334539c321525c333fc7b2a4152fe26bf4623d32e0e0a3adcd1bb89682176cb"), looks := false }, kinds := [], alts := [], laidByText := true, laidKinds := [.data], laidTests := true, laidLooks := .later }
def WorldAlgebraUptoCardSaid : Prop := Claim7.holds Tryd.pinned (.plain (OpenSpec.upto worldAlgebraSpec)) worldAlgebraUptoCard

/-- THE SECOND FORM's CARD OF 'deliberationlaw03.WorldEntails'. -/
def worldEntailsUptoCard : Claim7 := { stood := { row := worldEntailsUptoRow, standIns := [], harness := (true, "6334539c321525c333fc7b2a4152fe26bf4623d32e0e0a3adcd1bb89682176cb"), looks := false }, kinds := [], alts := [], laidByText := true, laidKinds := [.data], laidTests := true, laidLooks := .later }
def WorldEntailsUptoCardSaid : Prop := Claim7.holds Tryd.pinned (.plain (OpenSpec.upto worldEntailsSpec)) worldEntailsUptoCard

/-- THE SECOND FORM's CARD OF 'deliberationlaw03.WorldForgets'. -/
def worldForgetsUptoCard : Claim7 := { stood := { row := worldForgetsUptoRow, standIns := [], harness := (true, "6334539c321525c333fc7b2a4152fe26bf4623d32e0e0a3adcd1bb89682176cb"), looks := false }, kinds := [], alts := [], laidByText := true, laidKinds := [.data], laidTests := true, laidLooks := .later }
def WorldForgetsUptoCardSaid : Prop := Claim7.holds Tryd.pinned (.plain (OpenSpec.upto worldForgetsSpec)) worldForgetsUptoCard

/-- THE SECOND FORM's CARD OF 'deliberationlaw03.WorldSets'. -/
def worldSetsUptoCard : Claim7 := { stood := { row := worldSetsUptoRow, standIns := [], harness := (true, "6334539c321525c333fc7b2a4152fe26bf4623d32e0e0a3adcd1bb89682176cb"), looks := false }, kinds := [], alts := [], laidByText := true, laidKinds := [.data, .data], laidTests := true, laidLooks := .later }
def WorldSetsUptoCardSaid : Prop := Claim7.holds Tryd.pinned (.plain (OpenSpec.upto worldSetsSpec)) worldSetsUptoCard
end Rows
end Go.Proofs.YtefkehflmlikmaaDoor
