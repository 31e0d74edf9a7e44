/-
  DERIVED. GIVEN WITH THE SEED: THE CARDS: each row of YtkdibdlbigmkcaaDoorRows.lean that lists a variable, with what it lists TIED to the program's text (the seventh form; the later family's looks); each row that meets fmt, with fmt's text TOLD by the authors' own Lean function (tested against real Go, not proved from fmt's source: count such statements apart). THE CARD IS WHAT COUNTS. Prove the row's statement (the work); the ties are given (YtkdibdlbigmkcaaDoorTie.lean); close each card by the builder's one call (the guide's Derived/Test/ToyasCard.lean, 'card_holds'). Laid BY PROGRAM, IN A SANDBOX (cutbox-door.mjs). By AI agents, Wed Nov 11 2026. No macro, syntax, notation, axiom, sorry.
-/
import Derived.Test.YtkdibdlbigmkcaaDoorRows
import GoSem.ClaimSeven
namespace Go.Proofs.YtkdibdlbigmkcaaDoor
namespace Rows

/-- THE TIED CARD OF 'wigwaglaw15.MsgWrites'. -/
def msgWritesCard : Claim7 := { stood := { row := msgWritesRow, standIns := [], harness := (true, "517bc56105d4a535fd8c7bc16cfc717bbeae951287b562ea5e9e7a8c50a83bcc"), looks := true }, kinds := [], alts := [], laidByText := true, laidKinds := [.handle], laidTests := true, laidLooks := .later }
def MsgWritesCardSaid : Prop := Claim7.holds Tryd.pinned (.plain (OpenSpec.ofChange msgWritesSpec)) msgWritesCard

/-- THE TIED CARD OF 'wigwaglaw15.MsgReads'. -/
def msgReadsCard : Claim7 := { stood := { row := msgReadsRow, standIns := [], harness := (true, "517bc56105d4a535fd8c7bc16cfc717bbeae951287b562ea5e9e7a8c50a83bcc"), looks := true }, kinds := [], alts := [], laidByText := true, laidKinds := [.handle], laidTests := true, laidLooks := .later }
def MsgReadsCardSaid : Prop := Claim7.holds Tryd.pinned (.plain (OpenSpec.ofChange msgReadsSpec)) msgReadsCard

/-- THE SECOND FORM's CARD OF 'wigwaglaw15.MsgWrites'. -/
def msgWritesUptoCard : Claim7 := { stood := { row := msgWritesUptoRow, standIns := [], harness := (true, "517bc56105d4a535fd8c7bc16cfc717bbeae951287b562ea5e9e7a8c50a83bcc"), looks := true }, kinds := [], alts := [], laidByText := true, laidKinds := [.handle], laidTests := true, laidLooks := .later }
def MsgWritesUptoCardSaid : Prop := Claim7.holds Tryd.pinned (.plain (OpenSpec.upto msgWritesSpec)) msgWritesUptoCard

/-- THE SECOND FORM's CARD OF 'wigwaglaw15.MsgReads'. -/
def msgReadsUptoCard : Claim7 := { stood := { row := msgReadsUptoRow, standIns := [], harness := (true, "517bc56105d4a535fd8c7bc16cfc717bbeae951287b562ea5e9e7a8c50a83bcc"), looks := true }, kinds := [], alts := [], laidByText := true, laidKinds := [.handle], laidTests := true, laidLooks := .later }
def MsgReadsUptoCardSaid : Prop := Claim7.holds Tryd.pinned (.plain (OpenSpec.upto msgReadsSpec)) msgReadsUptoCard
end Rows
end Go.Proofs.YtkdibdlbigmkcaaDoor
