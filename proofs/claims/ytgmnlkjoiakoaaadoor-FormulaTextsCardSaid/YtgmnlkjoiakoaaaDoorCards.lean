/-
  DERIVED. GIVEN WITH THE SEED: THE CARDS: each row of YtgmnlkjoiakoaaaDoorRows.lean that lists a variable, with what it lists TIED to the program's text (the seventh form; the later family's looks); each row that meets fmt, with fmt's text TOLD by the authors' own Lean function (tested against real Go, not proved from fmt's source: count such statements apart). THE CARD IS WHAT COUNTS. Prove the row's statement (the work); the ties are given (YtgmnlkjoiakoaaaDoorTie.lean); close each card by the builder's one call (the guide's Derived/Test/ToyasCard.lean, 'card_holds'). Laid BY PROGRAM, IN A SANDBOX (cutbox-door.mjs). By AI agents, Wed Nov 11 2026. No macro, syntax, notation, axiom, sorry.
-/
import Derived.Test.YtgmnlkjoiakoaaaDoorRows
import GoSem.ClaimSeven
namespace Go.Proofs.YtgmnlkjoiakoaaaDoor
namespace Rows

/-- THE TIED CARD OF 'deliberationlaw02.FormulaTexts'. -/
def formulaTextsCard : Claim7 := { stood := { row := formulaTextsRow, standIns := [], harness := (true, "161b516d8574c5049301f10bc5e205fb7f850cf184210aede62142642f7317bc"), looks := false }, kinds := [], alts := [], laidByText := true, laidKinds := [.data], laidTests := true, laidLooks := .later }
def FormulaTextsCardSaid : Prop := Claim7.holds Tryd.pinned (.plain (OpenSpec.ofChange formulaTextsSpec)) formulaTextsCard

/-- THE TIED CARD OF 'deliberationlaw02.FormulaParses'. -/
def formulaParsesCard : Claim7 := { stood := { row := formulaParsesRow, standIns := [], harness := (true, "161b516d8574c5049301f10bc5e205fb7f850cf184210aede62142642f7317bc"), looks := false }, kinds := [], alts := [], laidByText := true, laidKinds := [.data], laidTests := true, laidLooks := .later }
def FormulaParsesCardSaid : Prop := Claim7.holds Tryd.pinned (.plain (OpenSpec.ofChange formulaParsesSpec)) formulaParsesCard

/-- THE TIED CARD OF 'deliberationlaw02.FormulaBack'. -/
def formulaBackCard : Claim7 := { stood := { row := formulaBackRow, standIns := [], harness := (true, "161b516d8574c5049301f10bc5e205fb7f850cf184210aede62142642f7317bc"), looks := false }, kinds := [], alts := [], laidByText := true, laidKinds := [.data], laidTests := true, laidLooks := .later }
def FormulaBackCardSaid : Prop := Claim7.holds Tryd.pinned (.plain (OpenSpec.ofChange formulaBackSpec)) formulaBackCard

/-- THE TIED CARD OF 'deliberationlaw02.FormulaLimits'. -/
def formulaLimitsCard : Claim7 := { stood := { row := formulaLimitsRow, standIns := [], harness := (true, "161b516d8574c5049301f10bc5e205fb7f850cf184210aede62142642f7317bc"), looks := false }, kinds := [], alts := [], laidByText := true, laidKinds := [.data], laidTests := true, laidLooks := .later }
def FormulaLimitsCardSaid : Prop := Claim7.holds Tryd.pinned (.plain (OpenSpec.ofChange formulaLimitsSpec)) formulaLimitsCard

/-- THE TIED CARD OF 'deliberationlaw02.FormulaLaws'. -/
def formulaLawsCard : Claim7 := { stood := { row := formulaLawsRow, standIns := [], harness := (true, "161b516d8574c5049301f10bc5e205fb7f850cf184210aede62142642f7317bc"), looks := false }, kinds := [], alts := [], laidByText := true, laidKinds := [.data], laidTests := true, laidLooks := .later }
def FormulaLawsCardSaid : Prop := Claim7.holds Tryd.pinned (.plain (OpenSpec.ofChange formulaLawsSpec)) formulaLawsCard

/-- THE TIED CARD OF 'deliberationlaw02.FormulaLemma'. -/
def formulaLemmaCard : Claim7 := { stood := { row := formulaLemmaRow, standIns := [], harness := (true, "161b516d8574c5049301f10bc5e205fb7f850cf184210aede62142642f7317bc"), looks := false }, kinds := [], alts := [], laidByText := true, laidKinds := [.data], laidTests := true, laidLooks := .later }
def FormulaLemmaCardSaid : Prop := Claim7.holds Tryd.pinned (.plain (OpenSpec.ofChange formulaLemmaSpec)) formulaLemmaCard

/-- THE TIED CARD OF 'deliberationlaw02.FormulaOwn'. -/
def formulaOwnCard : Claim7 := { stood := { row := formulaOwnRow, standIns := [], harness := (true, "161b516d8574c5049301f10bc5e205fb7f850cf184210aede62142642f7317bc"), looks := false }, kinds := [], alts := [], laidByText := true, laidKinds := [.data], laidTests := true, laidLooks := .later }
def FormulaOwnCardSaid : Prop := Claim7.holds Tryd.pinned (.plain (OpenSpec.ofChange formulaOwnSpec)) formulaOwnCard

/-- THE TIED CARD OF 'deliberationlaw02.FormulaValues'. -/
def formulaValuesCard : Claim7 := { stood := { row := formulaValuesRow, standIns := [], harness := (true, "161b516d8574c5049301f10bc5e205fb7f850cf184210aede62142642f7317bc"), looks := false }, kinds := [], alts := [], laidByText := true, laidKinds := [.data], laidTests := true, laidLooks := .later }
def FormulaValuesCardSaid : Prop := Claim7.holds Tryd.pinned (.plain (OpenSpec.ofChange formulaValuesSpec)) formulaValuesCard

/-- THE SECOND FORM's CARD OF 'deliberationlaw02.FormulaTexts'. -/
def formulaTextsUptoCard : Claim7 := { stood := { row := formulaTextsUptoRow, standIns := [], harness := (true, "161b516d8574c5049301f10bc5e205fb7f850cf184210aede62142642f7317bc"), looks := false }, kinds := [], alts := [], laidByText := true, laidKinds := [.data], laidTests := true, laidLooks := .later }
def FormulaTextsUptoCardSaid : Prop := Claim7.holds Tryd.pinned (.plain (OpenSpec.upto formulaTextsSpec)) formulaTextsUptoCard

/-- THE SECOND FORM's CARD OF 'deliberationlaw02.FormulaParses'. -/
def formulaParsesUptoCard : Claim7 := { stood := { row := formulaParsesUptoRow, standIns := [], harness := (true, "161b516d8574c5049301f10bc5e205fb7f850cf184210aede62142642f7317bc"), looks := false }, kinds := [], alts := [], laidByText := true, laidKinds := [.data], laidTests := true, laidLooks := .later }
def FormulaParsesUptoCardSaid : Prop := Claim7.holds Tryd.pinned (.plain (OpenSpec.upto formulaParsesSpec)) formulaParsesUptoCard

/-- THE SECOND FORM's CARD OF 'deliberationlaw02.FormulaBack'. -/
def formulaBackUptoCard : Claim7 := { stood := { row := formulaBackUptoRow, standIns := [], harness := (true, "161b516d8574c5049301f10bc5e205fb7f850cf184210aede62142642f7317bc"), looks := false }, kinds := [], alts := [], laidByText := true, laidKinds := [.data], laidTests := true, laidLooks := .later }
def FormulaBackUptoCardSaid : Prop := Claim7.holds Tryd.pinned (.plain (OpenSpec.upto formulaBackSpec)) formulaBackUptoCard

/-- THE SECOND FORM's CARD OF 'deliberationlaw02.FormulaLimits'. -/
def formulaLimitsUptoCard : Claim7 := { stood := { row := formulaLimitsUptoRow, standIns := [], harness := (true, "161b516d8574c5049301f10bc5e205fb7f850cf184210aede62142642f7317bc"), looks := false }, kinds := [], alts := [], laidByText := true, laidKinds := [.data], laidTests := true, laidLooks := .later }
def FormulaLimitsUptoCardSaid : Prop := Claim7.holds Tryd.pinned (.plain (OpenSpec.upto formulaLimitsSpec)) formulaLimitsUptoCard

/-- THE SECOND FORM's CARD OF 'deliberationlaw02.FormulaLaws'. -/
def formulaLawsUptoCard : Claim7 := { stood := { row := formulaLawsUptoRow, standIns := [], harness := (true, "161b516d8574c5049301f10bc5e205fb7f850cf184210aede62142642f7317bc"), looks := false }, kinds := [], alts := [], laidByText := true, laidKinds := [.data], laidTests := true, laidLooks := .later }
def FormulaLawsUptoCardSaid : Prop := Claim7.holds Tryd.pinned (.plain (OpenSpec.upto formulaLawsSpec)) formulaLawsUptoCard

/-- THE SECOND FORM's CARD OF 'deliberationlaw02.FormulaLemma'. -/
def formulaLemmaUptoCard : Claim7 := { stood := { row := formulaLemmaUptoRow, standIns := [], harness := (true, "161b516d8574c5049301f10bc5e205fb7f850cf184210aede62142642f7317bc"), looks := false }, kinds := [], alts := [], laidByText := true, laidKinds := [.data], laidTests := true, laidLooks := .later }
def FormulaLemmaUptoCardSaid : Prop := Claim7.holds Tryd.pinned (.plain (OpenSpec.upto formulaLemmaSpec)) formulaLemmaUptoCard

/-- THE SECOND FORM's CARD OF 'deliberationlaw02.FormulaOwn'. -/
def formulaOwnUptoCard : Claim7 := { stood := { row := formulaOwnUptoRow, standIns := [], harness := (true, "161b516d8574c5049301f10bc5e205fb7f850cf184210aede62142642f7317bc"), looks := false }, kinds := [], alts := [], laidByText := true, laidKinds := [.data], laidTests := true, laidLooks := .later }
def FormulaOwnUptoCardSaid : Prop := Claim7.holds Tryd.pinned (.plain (OpenSpec.upto formulaOwnSpec)) formulaOwnUptoCard

/-- THE SECOND FORM's CARD OF 'deliberationlaw02.FormulaValues'. -/
def formulaValuesUptoCard : Claim7 := { stood := { row := formulaValuesUptoRow, standIns := [], harness := (true, "161b516d8574c5049301f10bc5e205fb7f850cf184210aede62142642f7317bc"), looks := false }, kinds := [], alts := [], laidByText := true, laidKinds := [.data], laidTests := true, laidLooks := .later }
def FormulaValuesUptoCardSaid : Prop := Claim7.holds Tryd.pinned (.plain (OpenSpec.upto formulaValuesSpec)) formulaValuesUptoCard
end Rows
end Go.Proofs.YtgmnlkjoiakoaaaDoor
