/-
  DERIVED. GIVEN WITH THE SEED: THE CARDS: each row of YtgbhfnbehmlohaaDoorRows.lean that lists a variable, with what it lists TIED to the program's text (the seventh form; the later family's looks); each row that meets fmt, with fmt's text TOLD by the authors' own Lean function (tested against real Go, not proved from fmt's source: count such statements apart). THE CARD IS WHAT COUNTS. Prove the row's statement (the work); the ties are given (YtgbhfnbehmlohaaDoorTie.lean); close each card by the builder's one call (the guide's Derived/Test/ToyasCard.lean, 'card_holds'). Laid BY PROGRAM, IN A SANDBOX (cutbox-door.mjs). By AI agents, Wed Nov 11 2026. No macro, syntax, notation, axiom, sorry.
-/
import Derived.Test.YtgbhfnbehmlohaaDoorRows
import GoSem.ClaimSeven
namespace Go.Proofs.YtgbhfnbehmlohaaDoor
namespace Rows

/-- THE TIED CARD OF 'wigwaglaw02.CodeCut'. -/
def codeCutCard : Claim7 := { stood := { row := codeCutRow, standIns := [], harness := (true, "beba0742101f4ac1d428e5689fe0b2aa177ac5cdcaa77f0985e032352ab0d46c"), looks := true }, kinds := [], alts := [], laidByText := true, laidKinds := [.handle], laidTests := true, laidLooks := .later }
def CodeCutCardSaid : Prop := Claim7.holds Tryd.pinned (.plain (OpenSpec.ofChange codeCutSpec)) codeCutCard

/-- THE TIED CARD OF 'wigwaglaw02.CodeTexts'. -/
def codeTextsCard : Claim7 := { stood := { row := codeTextsRow, standIns := [], harness := (true, "beba0742101f4ac1d428e5689fe0b2aa177ac5cdcaa77f0985e032352ab0d46c"), looks := true }, kinds := [], alts := [], laidByText := true, laidKinds := [.handle], laidTests := true, laidLooks := .later }
def CodeTextsCardSaid : Prop := Claim7.holds Tryd.pinned (.plain (OpenSpec.ofChange codeTextsSpec)) codeTextsCard

/-- THE TIED CARD OF 'wigwaglaw02.CodeReads'. -/
def codeReadsCard : Claim7 := { stood := { row := codeReadsRow, standIns := [], harness := (true, "beba0742101f4ac1d428e5689fe0b2aa177ac5cdcaa77f0985e032352ab0d46c"), looks := true }, kinds := [], alts := [], laidByText := true, laidKinds := [.handle], laidTests := true, laidLooks := .later }
def CodeReadsCardSaid : Prop := Claim7.holds Tryd.pinned (.plain (OpenSpec.ofChange codeReadsSpec)) codeReadsCard

/-- THE TIED CARD OF 'wigwaglaw02.CodeStops'. -/
def codeStopsCard : Claim7 := { stood := { row := codeStopsRow, standIns := [], harness := (true, "beba0742101f4ac1d428e5689fe0b2aa177ac5cdcaa77f0985e032352ab0d46c"), looks := true }, kinds := [], alts := [], laidByText := true, laidKinds := [.handle], laidTests := true, laidLooks := .later }
def CodeStopsCardSaid : Prop := Claim7.holds Tryd.pinned (.plain (OpenSpec.ofChange codeStopsSpec)) codeStopsCard

/-- THE SECOND FORM's CARD OF 'wigwaglaw02.CodeCut'. -/
def codeCutUptoCard : Claim7 := { stood := { row := codeCutUptoRow, standIns := [], harness := (true, "beba0742101f4ac1d428e5689fe0b2aa177ac5cdcaa77f0985e032352ab0d46c"), looks := true }, kinds := [], alts := [], laidByText := true, laidKinds := [.handle], laidTests := true, laidLooks := .later }
def CodeCutUptoCardSaid : Prop := Claim7.holds Tryd.pinned (.plain (OpenSpec.upto codeCutSpec)) codeCutUptoCard

/-- THE SECOND FORM's CARD OF 'wigwaglaw02.CodeTexts'. -/
def codeTextsUptoCard : Claim7 := { stood := { row := codeTextsUptoRow, standIns := [], harness := (true, "beba0742101f4ac1d428e5689fe0b2aa177ac5cdcaa77f0985e032352ab0d46c"), looks := true }, kinds := [], alts := [], laidByText := true, laidKinds := [.handle], laidTests := true, laidLooks := .later }
def CodeTextsUptoCardSaid : Prop := Claim7.holds Tryd.pinned (.plain (OpenSpec.upto codeTextsSpec)) codeTextsUptoCard

/-- THE SECOND FORM's CARD OF 'wigwaglaw02.CodeReads'. -/
def codeReadsUptoCard : Claim7 := { stood := { row := codeReadsUptoRow, standIns := [], harness := (true, "beba0742101f4ac1d428e5689fe0b2aa177ac5cdcaa77f0985e032352ab0d46c"), looks := true }, kinds := [], alts := [], laidByText := true, laidKinds := [.handle], laidTests := true, laidLooks := .later }
def CodeReadsUptoCardSaid : Prop := Claim7.holds Tryd.pinned (.plain (OpenSpec.upto codeReadsSpec)) codeReadsUptoCard

/-- THE SECOND FORM's CARD OF 'wigwaglaw02.CodeStops'. -/
def codeStopsUptoCard : Claim7 := { stood := { row := codeStopsUptoRow, standIns := [], harness := (true, "beba0742101f4ac1d428e5689fe0b2aa177ac5cdcaa77f0985e032352ab0d46c"), looks := true }, kinds := [], alts := [], laidByText := true, laidKinds := [.handle], laidTests := true, laidLooks := .later }
def CodeStopsUptoCardSaid : Prop := Claim7.holds Tryd.pinned (.plain (OpenSpec.upto codeStopsSpec)) codeStopsUptoCard
end Rows
end Go.Proofs.YtgbhfnbehmlohaaDoor
