/-
  DERIVED. GIVEN WITH THE SEED: THE CARDS: each row of YtddhlmejaobcgaaDoorRows.lean that lists a variable, with what it lists TIED to the program's text (the seventh form; the later family's looks); each row that meets fmt, with fmt's text TOLD by the authors' own Lean function (tested against real Go, not proved from fmt's source: count such statements apart). THE CARD IS WHAT COUNTS. Prove the row's statement (the work); the ties are given (YtddhlmejaobcgaaDoorTie.lean); close each card by the builder's one call (the guide's Derived/Test/ToyasCard.lean, 'card_holds'). Laid BY PROGRAM, IN A SANDBOX (cutbox-door.mjs). By AI agents, Wed Nov 11 2026. No macro, syntax, notation, axiom, sorry.
-/
import Derived.Test.YtddhlmejaobcgaaDoorRows
import GoSem.ClaimSeven
namespace Go.Proofs.YtddhlmejaobcgaaDoor
namespace Rows

/-- THE TIED CARD OF 'wigwagtop.WigwagMet'. -/
def wigwagMetCard : Claim7 := { stood := { row := wigwagMetRow, standIns := [], harness := (true, "9fd1df84ae46322c3a0ea74863b93bafcbd2cb7114c911d5307cc98c9704e853"), looks := true }, kinds := [], alts := [], laidByText := true, laidKinds := [.data, .data, .data], laidTests := true, laidLooks := .later }
def WigwagMetCardSaid : Prop := Claim7.holds Tryd.pinned (.plain (OpenSpec.ofChange wigwagMetSpec)) wigwagMetCard

/-- THE TIED CARD OF 'wigwagtop.WigwagAsked'. -/
def wigwagAskedCard : Claim7 := { stood := { row := wigwagAskedRow, standIns := [], harness := (true, "9fd1df84ae46322c3a0ea74863b93bafcbd2cb7114c911d5307cc98c9704e853"), looks := true }, kinds := [], alts := [], laidByText := true, laidKinds := [.data, .data, .data], laidTests := true, laidLooks := .later }
def WigwagAskedCardSaid : Prop := Claim7.holds Tryd.pinned (.plain (OpenSpec.ofChange wigwagAskedSpec)) wigwagAskedCard

/-- THE SECOND FORM's CARD OF 'wigwagtop.WigwagMet'. -/
def wigwagMetUptoCard : Claim7 := { stood := { row := wigwagMetUptoRow, standIns := [], harness := (true, "9fd1df84ae46322c3a0ea74863b93bafcbd2cb7114c911d5307cc98c9704e853"), looks := true }, kinds := [], alts := [], laidByText := true, laidKinds := [.data, .data, .data], laidTests := true, laidLooks := .later }
def WigwagMetUptoCardSaid : Prop := Claim7.holds Tryd.pinned (.plain (OpenSpec.upto wigwagMetSpec)) wigwagMetUptoCard

/-- THE SECOND FORM's CARD OF 'wigwagtop.WigwagAsked'. -/
def wigwagAskedUptoCard : Claim7 := { stood := { row := wigwagAskedUptoRow, standIns := [], harness := (true, "9fd1df84ae46322c3a0ea74863b93bafcbd2cb7114c911d5307cc98c9704e853"), looks := true }, kinds := [], alts := [], laidByText := true, laidKinds := [.data, .data, .data], laidTests := true, laidLooks := .later }
def WigwagAskedUptoCardSaid : Prop := Claim7.holds Tryd.pinned (.plain (OpenSpec.upto wigwagAskedSpec)) wigwagAskedUptoCard
end Rows
end Go.Proofs.YtddhlmejaobcgaaDoor
