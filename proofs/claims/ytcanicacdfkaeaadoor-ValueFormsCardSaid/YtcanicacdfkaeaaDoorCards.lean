/-
  DERIVED. GIVEN WITH THE SEED: THE CARDS: each row of YtcanicacdfkaeaaDoorRows.lean that lists a variable, with what it lists TIED to the program's text (the seventh form; the later family's looks); each row that meets fmt, with fmt's text TOLD by the authors' own Lean function (tested against real Go, not proved from fmt's source: count such statements apart). THE CARD IS WHAT COUNTS. Prove the row's statement (the work); the ties are given (YtcanicacdfkaeaaDoorTie.lean); close each card by the builder's one call (the guide's Derived/Test/ToyasCard.lean, 'card_holds'). Laid BY PROGRAM, IN A SANDBOX (cutbox-door.mjs). By AI agents, Wed Nov 11 2026. No macro, syntax, notation, axiom, sorry.
-/
import Derived.Test.YtcanicacdfkaeaaDoorRows
import GoSem.ClaimSeven
namespace Go.Proofs.YtcanicacdfkaeaaDoor
namespace Rows

/-- THE TIED CARD OF 'wigwaglaw05.ValueForms'. -/
def valueFormsCard : Claim7 := { stood := { row := valueFormsRow, standIns := [], harness := (true, "dbf796a24a082fc8a32f75d6348b3c2bff64b89c9b8907501aa521a80f1ed540"), looks := true }, kinds := [], alts := [], laidByText := true, laidKinds := [.handle], laidTests := true, laidLooks := .later }
def ValueFormsCardSaid : Prop := Claim7.holds Tryd.pinned (.plain (OpenSpec.ofChange valueFormsSpec)) valueFormsCard

/-- THE SECOND FORM's CARD OF 'wigwaglaw05.ValueForms'. -/
def valueFormsUptoCard : Claim7 := { stood := { row := valueFormsUptoRow, standIns := [], harness := (true, "dbf796a24a082fc8a32f75d6348b3c2bff64b89c9b8907501aa521a80f1ed540"), looks := true }, kinds := [], alts := [], laidByText := true, laidKinds := [.handle], laidTests := true, laidLooks := .later }
def ValueFormsUptoCardSaid : Prop := Claim7.holds Tryd.pinned (.plain (OpenSpec.upto valueFormsSpec)) valueFormsUptoCard
end Rows
end Go.Proofs.YtcanicacdfkaeaaDoor
