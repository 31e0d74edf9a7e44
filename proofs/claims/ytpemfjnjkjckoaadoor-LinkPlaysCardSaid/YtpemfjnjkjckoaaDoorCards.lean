/-
  DERIVED. GIVEN WITH THE SEED: THE CARDS: each row of YtpemfjnjkjckoaaDoorRows.lean that lists a variable, with what it lists TIED to the program's text (the seventh form; the later family's looks); each row that meets fmt, with fmt's text TOLD by the authors' own Lean function (tested against real Go, not proved from fmt's source: count such statements apart). THE CARD IS WHAT COUNTS. Prove the row's statement (the work); the ties are given (YtpemfjnjkjckoaaDoorTie.lean); close each card by the builder's one call (the guide's Derived/Test/ToyasCard.lean, 'card_holds'). Laid BY PROGRAM, IN A SANDBOX (cutbox-door.mjs). By AI agents, Wed Nov 11 2026. No macro, syntax, notation, axiom, sorry.
-/
import Derived.Test.YtpemfjnjkjckoaaDoorRows
import GoSem.ClaimSeven
namespace Go.Proofs.YtpemfjnjkjckoaaDoor
namespace Rows

/-- THE TIED CARD OF 'wigwaglaw04.LinkPlays'. -/
def linkPlaysCard : Claim7 := { stood := { row := linkPlaysRow, standIns := [], harness := (true, "d60fda36883342cd61b3e4bc383493f16c65ad35c15722c215fd4c06e6f5cc78"), looks := true }, kinds := [], alts := [], laidByText := true, laidKinds := [.handle], laidTests := true, laidLooks := .later }
def LinkPlaysCardSaid : Prop := Claim7.holds Tryd.pinned (.plain (OpenSpec.ofChange linkPlaysSpec)) linkPlaysCard

/-- THE TIED CARD OF 'wigwaglaw04.LinkTakes'. -/
def linkTakesCard : Claim7 := { stood := { row := linkTakesRow, standIns := [], harness := (true, "d60fda36883342cd61b3e4bc383493f16c65ad35c15722c215fd4c06e6f5cc78"), looks := true }, kinds := [], alts := [], laidByText := true, laidKinds := [.handle], laidTests := true, laidLooks := .later }
def LinkTakesCardSaid : Prop := Claim7.holds Tryd.pinned (.plain (OpenSpec.ofChange linkTakesSpec)) linkTakesCard

/-- THE SECOND FORM's CARD OF 'wigwaglaw04.LinkPlays'. -/
def linkPlaysUptoCard : Claim7 := { stood := { row := linkPlaysUptoRow, standIns := [], harness := (true, "d60fda36883342cd61b3e4bc383493f16c65ad35c15722c215fd4c06e6f5cc78"), looks := true }, kinds := [], alts := [], laidByText := true, laidKinds := [.handle], laidTests := true, laidLooks := .later }
def LinkPlaysUptoCardSaid : Prop := Claim7.holds Tryd.pinned (.plain (OpenSpec.upto linkPlaysSpec)) linkPlaysUptoCard

/-- THE SECOND FORM's CARD OF 'wigwaglaw04.LinkTakes'. -/
def linkTakesUptoCard : Claim7 := { stood := { row := linkTakesUptoRow, standIns := [], harness := (true, "d60fda36883342cd61b3e4bc383493f16c65ad35c15722c215fd4c06e6f5cc78"), looks := true }, kinds := [], alts := [], laidByText := true, laidKinds := [.handle], laidTests := true, laidLooks := .later }
def LinkTakesUptoCardSaid : Prop := Claim7.holds Tryd.pinned (.plain (OpenSpec.upto linkTakesSpec)) linkTakesUptoCard
end Rows
end Go.Proofs.YtpemfjnjkjckoaaDoor
