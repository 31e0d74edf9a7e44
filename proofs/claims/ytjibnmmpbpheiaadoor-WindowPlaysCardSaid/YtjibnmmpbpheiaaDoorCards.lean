/-
  DERIVED. GIVEN WITH THE SEED: THE CARDS: each row of YtjibnmmpbpheiaaDoorRows.lean that lists a variable, with what it lists TIED to the program's text (the seventh form; the later family's looks); each row that meets fmt, with fmt's text TOLD by the authors' own Lean function (tested against real Go, not proved from fmt's source: count such statements apart). THE CARD IS WHAT COUNTS. Prove the row's statement (the work); the ties are given (YtjibnmmpbpheiaaDoorTie.lean); close each card by the builder's one call (the guide's Derived/Test/ToyasCard.lean, 'card_holds'). Laid BY PROGRAM, IN A SANDBOX (cutbox-door.mjs). By AI agents, Wed Nov 11 2026. No macro, syntax, notation, axiom, sorry.
-/
import Derived.Test.YtjibnmmpbpheiaaDoorRows
import GoSem.ClaimSeven
namespace Go.Proofs.YtjibnmmpbpheiaaDoor
namespace Rows

/-- THE TIED CARD OF 'wigwaglaw14.WindowPlays'. -/
def windowPlaysCard : Claim7 := { stood := { row := windowPlaysRow, standIns := [], harness := (true, "a7482ce50e2a0502bf54e9367d093287d8a327bb11dd5dc53ab23c31157fd72d"), looks := true }, kinds := [], alts := [], laidByText := true, laidKinds := [.handle], laidTests := true, laidLooks := .later }
def WindowPlaysCardSaid : Prop := Claim7.holds Tryd.pinned (.plain (OpenSpec.ofChange windowPlaysSpec)) windowPlaysCard

/-- THE SECOND FORM's CARD OF 'wigwaglaw14.WindowPlays'. -/
def windowPlaysUptoCard : Claim7 := { stood := { row := windowPlaysUptoRow, standIns := [], harness := (true, "a7482ce50e2a0502bf54e9367d093287d8a327bb11dd5dc53ab23c31157fd72d"), looks := true }, kinds := [], alts := [], laidByText := true, laidKinds := [.handle], laidTests := true, laidLooks := .later }
def WindowPlaysUptoCardSaid : Prop := Claim7.holds Tryd.pinned (.plain (OpenSpec.upto windowPlaysSpec)) windowPlaysUptoCard
end Rows
end Go.Proofs.YtjibnmmpbpheiaaDoor
