/-
  DERIVED. GIVEN WITH THE SEED: THE CARDS: each row of YtemabpapfkplgaaDoorRows.lean that lists a variable, with what it lists TIED to the program's text (the seventh form; the later family's looks); each row that meets fmt, with fmt's text TOLD by the authors' own Lean function (tested against real Go, not proved from fmt's source: count such statements apart). THE CARD IS WHAT COUNTS. Prove the row's statement (the work); the ties are given (YtemabpapfkplgaaDoorTie.lean); close each card by the builder's one call (the guide's Derived/Test/ToyasCard.lean, 'card_holds'). Laid BY PROGRAM, IN A SANDBOX (cutbox-door.mjs). By AI agents, Wed Nov 11 2026. No macro, syntax, notation, axiom, sorry.
-/
import Derived.Test.YtemabpapfkplgaaDoorRows
import GoSem.ClaimSeven
namespace Go.Proofs.YtemabpapfkplgaaDoor
namespace Rows

/-- THE TIED CARD OF 'wigwaglaw03.BagPlays'. -/
def bagPlaysCard : Claim7 := { stood := { row := bagPlaysRow, standIns := [], harness := (true, "82bd3192a51eafb94b5d2776018058d3990bd6952e4c89952960ee29e87c0876"), looks := true }, kinds := [], alts := [], laidByText := true, laidKinds := [.handle], laidTests := true, laidLooks := .later }
def BagPlaysCardSaid : Prop := Claim7.holds Tryd.pinned (.plain (OpenSpec.ofChange bagPlaysSpec)) bagPlaysCard

/-- THE SECOND FORM's CARD OF 'wigwaglaw03.BagPlays'. -/
def bagPlaysUptoCard : Claim7 := { stood := { row := bagPlaysUptoRow, standIns := [], harness := (true, "82bd3192a51eafb94b5d2776018058d3990bd6952e4c89952960ee29e87c0876"), looks := true }, kinds := [], alts := [], laidByText := true, laidKinds := [.handle], laidTests := true, laidLooks := .later }
def BagPlaysUptoCardSaid : Prop := Claim7.holds Tryd.pinned (.plain (OpenSpec.upto bagPlaysSpec)) bagPlaysUptoCard
end Rows
end Go.Proofs.YtemabpapfkplgaaDoor
