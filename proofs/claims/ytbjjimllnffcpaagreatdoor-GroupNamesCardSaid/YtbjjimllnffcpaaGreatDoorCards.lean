/-
  DERIVED. GIVEN WITH THE SEED: THE CARDS: each row of YtbjjimllnffcpaaGreatDoorRows.lean that lists a variable, with what it lists TIED to the program's text (the seventh form; the later family's looks); each row that meets fmt, with fmt's text TOLD by the authors' own Lean function (tested against real Go, not proved from fmt's source: count such statements apart). THE CARD IS WHAT COUNTS. Prove the row's statement (the work); the ties are given (YtbjjimllnffcpaaGreatDoorTie.lean); close each card by the builder's one call (the guide's Derived/Test/ToyasCard.lean, 'card_holds'). Laid BY PROGRAM, IN A SANDBOX (cutbox-door.mjs). By AI agents, Wed Nov 11 2026. No macro, syntax, notation, axiom, sorry.
-/
import Derived.Test.YtbjjimllnffcpaaGreatDoorRows
import GoSem.ClaimSeven
namespace Go.Proofs.YtbjjimllnffcpaaGreatDoor
namespace Rows

/-- THE TIED CARD OF 'wigwaglaw08.GroupMeets'. -/
def groupMeetsCard : Claim7 := { stood := { row := groupMeetsRow, standIns := [], harness := (true, "e87c4e3916bd412f217068c9ba1aa4092a40b7e6bfcd7e687e80861387c84866"), looks := true }, kinds := [], alts := [], laidByText := true, laidKinds := [.data, .data, .data, .handle], laidTests := true, laidLooks := .later }
def GroupMeetsCardSaid : Prop := Claim7.holds Tryz.pinned (.plain (OpenSpec.ofChange groupMeetsSpec)) groupMeetsCard

/-- THE TIED CARD OF 'wigwaglaw08.GroupNames'. -/
def groupNamesCard : Claim7 := { stood := { row := groupNamesRow, standIns := [], harness := (true, "e87c4e3916bd412f217068c9ba1aa4092a40b7e6bfcd7e687e80861387c84866"), looks := true }, kinds := [], alts := [], laidByText := true, laidKinds := [.data, .data, .data, .data, .sentinel, .sentinel, .pinned], laidTests := true, laidLooks := .later }
def GroupNamesCardSaid : Prop := Claim7.holds Tryz.pinned (.plain (OpenSpec.ofChange groupNamesSpec)) groupNamesCard

/-- THE SECOND FORM's CARD OF 'wigwaglaw08.GroupMeets'. -/
def groupMeetsUptoCard : Claim7 := { stood := { row := groupMeetsUptoRow, standIns := [], harness := (true, "e87c4e3916bd412f217068c9ba1aa4092a40b7e6bfcd7e687e80861387c84866"), looks := true }, kinds := [], alts := [], laidByText := true, laidKinds := [.data, .data, .data, .handle], laidTests := true, laidLooks := .later }
def GroupMeetsUptoCardSaid : Prop := Claim7.holds Tryz.pinned (.plain (OpenSpec.upto groupMeetsSpec)) groupMeetsUptoCard

/-- THE SECOND FORM's CARD OF 'wigwaglaw08.GroupNames'. -/
def groupNamesUptoCard : Claim7 := { stood := { row := groupNamesUptoRow, standIns := [], harness := (true, "e87c4e3916bd412f217068c9ba1aa4092a40b7e6bfcd7e687e80861387c84866"), looks := true }, kinds := [], alts := [], laidByText := true, laidKinds := [.data, .data, .data, .data, .sentinel, .sentinel, .pinned], laidTests := true, laidLooks := .later }
def GroupNamesUptoCardSaid : Prop := Claim7.holds Tryz.pinned (.plain (OpenSpec.upto groupNamesSpec)) groupNamesUptoCard
end Rows
end Go.Proofs.YtbjjimllnffcpaaGreatDoor
