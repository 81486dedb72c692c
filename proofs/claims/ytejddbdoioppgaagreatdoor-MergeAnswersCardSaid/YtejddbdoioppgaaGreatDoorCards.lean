/-
  DERIVED. GIVEN WITH THE SEED: THE CARDS: each row of YtejddbdoioppgaaGreatDoorRows.lean that lists a variable, with what it lists TIED to the program's text (the seventh form; the later family's looks); each row that meets fmt, with fmt's text TOLD by the authors' own Lean function (tested against real Go, not proved from fmt's source: count such statements apart). THE CARD IS WHAT COUNTS. Prove the row's statement (the work); the ties are given (YtejddbdoioppgaaGreatDoorTie.lean); close each card by the builder's one call (the guide's Derived/Test/ToyasCard.lean, 'card_holds'). Laid BY PROGRAM, IN A SANDBOX (cutbox-door.mjs). By AI agents, Wed Nov 11 2026. No macro, syntax, notation, axiom, sorry.
-/
import Derived.Test.YtejddbdoioppgaaGreatDoorRows
import GoSem.ClaimSeven
namespace Go.Proofs.YtejddbdoioppgaaGreatDoor
namespace Rows

/-- THE TIED CARD OF 'deliberationlaw36.MergePostulates'. -/
def mergePostulatesCard : Claim7 := { stood := { row := mergePostulatesRow, standIns := [], harness := (true, "24ecf88f4fe813ed80586ecdd99cce6c2f8dcf4621ca8e5973c53a9eaff5c061"), looks := false }, kinds := [], alts := [], laidByText := true, laidKinds := [.data], laidTests := true, laidLooks := .later }
def MergePostulatesCardSaid : Prop := Claim7.holds Tryz.pinned (.plain (OpenSpec.ofChange mergePostulatesSpec)) mergePostulatesCard

/-- THE TIED CARD OF 'deliberationlaw36.MergeProfiles'. -/
def mergeProfilesCard : Claim7 := { stood := { row := mergeProfilesRow, standIns := [], harness := (true, "24ecf88f4fe813ed80586ecdd99cce6c2f8dcf4621ca8e5973c53a9eaff5c061"), looks := false }, kinds := [], alts := [], laidByText := true, laidKinds := [.data], laidTests := true, laidLooks := .later }
def MergeProfilesCardSaid : Prop := Claim7.holds Tryz.pinned (.plain (OpenSpec.ofChange mergeProfilesSpec)) mergeProfilesCard

/-- THE TIED CARD OF 'deliberationlaw36.MergeFair'. -/
def mergeFairCard : Claim7 := { stood := { row := mergeFairRow, standIns := [], harness := (true, "24ecf88f4fe813ed80586ecdd99cce6c2f8dcf4621ca8e5973c53a9eaff5c061"), looks := false }, kinds := [], alts := [], laidByText := true, laidKinds := [.data], laidTests := true, laidLooks := .later }
def MergeFairCardSaid : Prop := Claim7.holds Tryz.pinned (.plain (OpenSpec.ofChange mergeFairSpec)) mergeFairCard

/-- THE TIED CARD OF 'deliberationlaw36.MergeMajority'. -/
def mergeMajorityCard : Claim7 := { stood := { row := mergeMajorityRow, standIns := [], harness := (true, "24ecf88f4fe813ed80586ecdd99cce6c2f8dcf4621ca8e5973c53a9eaff5c061"), looks := false }, kinds := [], alts := [], laidByText := true, laidKinds := [.data], laidTests := true, laidLooks := .later }
def MergeMajorityCardSaid : Prop := Claim7.holds Tryz.pinned (.plain (OpenSpec.ofChange mergeMajoritySpec)) mergeMajorityCard

/-- THE TIED CARD OF 'deliberationlaw36.MergeAnswers'. -/
def mergeAnswersCard : Claim7 := { stood := { row := mergeAnswersRow, standIns := [], harness := (true, "24ecf88f4fe813ed80586ecdd99cce6c2f8dcf4621ca8e5973c53a9eaff5c061"), looks := false }, kinds := [], alts := [], laidByText := true, laidKinds := [.data], laidTests := true, laidLooks := .later }
def MergeAnswersCardSaid : Prop := Claim7.holds Tryz.pinned (.plain (OpenSpec.ofChange mergeAnswersSpec)) mergeAnswersCard

/-- THE TIED CARD OF 'deliberationlaw36.MergeVectors'. -/
def mergeVectorsCard : Claim7 := { stood := { row := mergeVectorsRow, standIns := [], harness := (true, "24ecf88f4fe813ed80586ecdd99cce6c2f8dcf4621ca8e5973c53a9eaff5c061"), looks := false }, kinds := [], alts := [], laidByText := true, laidKinds := [.data], laidTests := true, laidLooks := .later }
def MergeVectorsCardSaid : Prop := Claim7.holds Tryz.pinned (.plain (OpenSpec.ofChange mergeVectorsSpec)) mergeVectorsCard

/-- THE SECOND FORM's CARD OF 'deliberationlaw36.MergePostulates'. -/
def mergePostulatesUptoCard : Claim7 := { stood := { row := mergePostulatesUptoRow, standIns := [], harness := (true, "24ecf88f4fe813ed80586ecdd99cce6c2f8dcf4621ca8e5973c53a9eaff5c061"), looks := false }, kinds := [], alts := [], laidByText := true, laidKinds := [.data], laidTests := true, laidLooks := .later }
def MergePostulatesUptoCardSaid : Prop := Claim7.holds Tryz.pinned (.plain (OpenSpec.upto mergePostulatesSpec)) mergePostulatesUptoCard

/-- THE SECOND FORM's CARD OF 'deliberationlaw36.MergeProfiles'. -/
def mergeProfilesUptoCard : Claim7 := { stood := { row := mergeProfilesUptoRow, standIns := [], harness := (true, "24ecf88f4fe813ed80586ecdd99cce6c2f8dcf4621ca8e5973c53a9eaff5c061"), looks := false }, kinds := [], alts := [], laidByText := true, laidKinds := [.data], laidTests := true, laidLooks := .later }
def MergeProfilesUptoCardSaid : Prop := Claim7.holds Tryz.pinned (.plain (OpenSpec.upto mergeProfilesSpec)) mergeProfilesUptoCard

/-- THE SECOND FORM's CARD OF 'deliberationlaw36.MergeFair'. -/
def mergeFairUptoCard : Claim7 := { stood := { row := mergeFairUptoRow, standIns := [], harness := (true, "24ecf88f4fe813ed80586ecdd99cce6c2f8dcf4621ca8e5973c53a9eaff5c061"), looks := false }, kinds := [], alts := [], laidByText := true, laidKinds := [.data], laidTests := true, laidLooks := .later }
def MergeFairUptoCardSaid : Prop := Claim7.holds Tryz.pinned (.plain (OpenSpec.upto mergeFairSpec)) mergeFairUptoCard

/-- THE SECOND FORM's CARD OF 'deliberationlaw36.MergeMajority'. -/
def mergeMajorityUptoCard : Claim7 := { stood := { row := mergeMajorityUptoRow, standIns := [], harness := (true, "24ecf88f4fe813ed80586ecdd99cce6c2f8dcf4621ca8e5973c53a9eaff5c061"), looks := false }, kinds := [], alts := [], laidByText := true, laidKinds := [.data], laidTests := true, laidLooks := .later }
def MergeMajorityUptoCardSaid : Prop := Claim7.holds Tryz.pinned (.plain (OpenSpec.upto mergeMajoritySpec)) mergeMajorityUptoCard

/-- THE SECOND FORM's CARD OF 'deliberationlaw36.MergeAnswers'. -/
def mergeAnswersUptoCard : Claim7 := { stood := { row := mergeAnswersUptoRow, standIns := [], harness := (true, "24ecf88f4fe813ed80586ecdd99cce6c2f8dcf4621ca8e5973c53a9eaff5c061"), looks := false }, kinds := [], alts := [], laidByText := true, laidKinds := [.data], laidTests := true, laidLooks := .later }
def MergeAnswersUptoCardSaid : Prop := Claim7.holds Tryz.pinned (.plain (OpenSpec.upto mergeAnswersSpec)) mergeAnswersUptoCard

/-- THE SECOND FORM's CARD OF 'deliberationlaw36.MergeVectors'. -/
def mergeVectorsUptoCard : Claim7 := { stood := { row := mergeVectorsUptoRow, standIns := [], harness := (true, "24ecf88f4fe813ed80586ecdd99cce6c2f8dcf4621ca8e5973c53a9eaff5c061"), looks := false }, kinds := [], alts := [], laidByText := true, laidKinds := [.data], laidTests := true, laidLooks := .later }
def MergeVectorsUptoCardSaid : Prop := Claim7.holds Tryz.pinned (.plain (OpenSpec.upto mergeVectorsSpec)) mergeVectorsUptoCard
end Rows
end Go.Proofs.YtejddbdoioppgaaGreatDoor
