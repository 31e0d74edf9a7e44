/-
  DERIVED. GIVEN WITH THE SEED: THE CARDS: each row of YtbjjimllnffcpaaDoorRows.lean that lists a variable, with what it lists TIED to the program's text (the seventh form; the later family's looks); each row that meets fmt, with fmt's text TOLD by the authors' own Lean function (tested against real Go, not proved from fmt's source: count such statements apart). THE CARD IS WHAT COUNTS. Prove the row's statement (the work); the ties are given (YtbjjimllnffcpaaDoorTie.lean); close each card by the builder's one call (the guide's Derived/Test/ToyasCard.lean, 'card_holds'). Laid BY PROGRAM, IN A SANDBOX (cutbox-door.mjs). By AI agents, Wed Nov 11 2026. No macro, syntax, notation, axiom, sorry.
-/
import Derived.Test.YtbjjimllnffcpaaDoorRows
import GoSem.ClaimSeven
namespace Go.Proofs.YtbjjimllnffcpaaDoor
namespace Rows

/-- THE TIED CARD OF 'wigwaglaw08.GroupApart'. -/
def groupApartCard : Claim7 := { stood := { row := groupApartRow, standIns := [], harness := (true, "e7db09a4428f09e559dc4839750a724f17d03a51f8571950062b22c7827217bd"), looks := true }, kinds := [], alts := [], laidByText := true, laidKinds := [.data, .data, .data], laidTests := true, laidLooks := .later }
def GroupApartCardSaid : Prop := Claim7.holds Tryd.pinned (.plain (OpenSpec.ofChange groupApartSpec)) groupApartCard

/-- THE TIED CARD OF 'wigwaglaw08.GroupFewest'. -/
def groupFewestCard : Claim7 := { stood := { row := groupFewestRow, standIns := [], harness := (true, "e7db09a4428f09e559dc4839750a724f17d03a51f8571950062b22c7827217bd"), looks := true }, kinds := [], alts := [], laidByText := true, laidKinds := [.data, .data, .data], laidTests := true, laidLooks := .later }
def GroupFewestCardSaid : Prop := Claim7.holds Tryd.pinned (.plain (OpenSpec.ofChange groupFewestSpec)) groupFewestCard

/-- THE TIED CARD OF 'wigwaglaw08.GroupTight'. -/
def groupTightCard : Claim7 := { stood := { row := groupTightRow, standIns := [], harness := (true, "e7db09a4428f09e559dc4839750a724f17d03a51f8571950062b22c7827217bd"), looks := true }, kinds := [], alts := [], laidByText := true, laidKinds := [.data, .data, .data], laidTests := true, laidLooks := .later }
def GroupTightCardSaid : Prop := Claim7.holds Tryd.pinned (.plain (OpenSpec.ofChange groupTightSpec)) groupTightCard

/-- THE TIED CARD OF 'wigwaglaw08.GroupOnce'. -/
def groupOnceCard : Claim7 := { stood := { row := groupOnceRow, standIns := [], harness := (true, "e7db09a4428f09e559dc4839750a724f17d03a51f8571950062b22c7827217bd"), looks := true }, kinds := [], alts := [], laidByText := true, laidKinds := [.data, .data, .data], laidTests := true, laidLooks := .later }
def GroupOnceCardSaid : Prop := Claim7.holds Tryd.pinned (.plain (OpenSpec.ofChange groupOnceSpec)) groupOnceCard

/-- THE TIED CARD OF 'wigwaglaw08.GroupBack'. -/
def groupBackCard : Claim7 := { stood := { row := groupBackRow, standIns := [], harness := (true, "e7db09a4428f09e559dc4839750a724f17d03a51f8571950062b22c7827217bd"), looks := true }, kinds := [], alts := [], laidByText := true, laidKinds := [.data, .data, .data, .data, .sentinel, .sentinel, .pinned], laidTests := true, laidLooks := .later }
def GroupBackCardSaid : Prop := Claim7.holds Tryd.pinned (.plain (OpenSpec.ofChange groupBackSpec)) groupBackCard

/-- THE SECOND FORM's CARD OF 'wigwaglaw08.GroupApart'. -/
def groupApartUptoCard : Claim7 := { stood := { row := groupApartUptoRow, standIns := [], harness := (true, "e7db09a4428f09e559dc4839750a724f17d03a51f8571950062b22c7827217bd"), looks := true }, kinds := [], alts := [], laidByText := true, laidKinds := [.data, .data, .data], laidTests := true, laidLooks := .later }
def GroupApartUptoCardSaid : Prop := Claim7.holds Tryd.pinned (.plain (OpenSpec.upto groupApartSpec)) groupApartUptoCard

/-- THE SECOND FORM's CARD OF 'wigwaglaw08.GroupFewest'. -/
def groupFewestUptoCard : Claim7 := { stood := { row := groupFewestUptoRow, standIns := [], harness := (true, "e7db09a4428f09e559dc4839750a724f17d03a51f8571950062b22c7827217bd"), looks := true }, kinds := [], alts := [], laidByText := true, laidKinds := [.data, .data, .data], laidTests := true, laidLooks := .later }
def GroupFewestUptoCardSaid : Prop := Claim7.holds Tryd.pinned (.plain (OpenSpec.upto groupFewestSpec)) groupFewestUptoCard

/-- THE SECOND FORM's CARD OF 'wigwaglaw08.GroupTight'. -/
def groupTightUptoCard : Claim7 := { stood := { row := groupTightUptoRow, standIns := [], harness := (true, "e7db09a4428f09e559dc4839750a724f17d03a51f8571950062b22c7827217bd"), looks := true }, kinds := [], alts := [], laidByText := true, laidKinds := [.data, .data, .data], laidTests := true, laidLooks := .later }
def GroupTightUptoCardSaid : Prop := Claim7.holds Tryd.pinned (.plain (OpenSpec.upto groupTightSpec)) groupTightUptoCard

/-- THE SECOND FORM's CARD OF 'wigwaglaw08.GroupOnce'. -/
def groupOnceUptoCard : Claim7 := { stood := { row := groupOnceUptoRow, standIns := [], harness := (true, "e7db09a4428f09e559dc4839750a724f17d03a51f8571950062b22c7827217bd"), looks := true }, kinds := [], alts := [], laidByText := true, laidKinds := [.data, .data, .data], laidTests := true, laidLooks := .later }
def GroupOnceUptoCardSaid : Prop := Claim7.holds Tryd.pinned (.plain (OpenSpec.upto groupOnceSpec)) groupOnceUptoCard

/-- THE SECOND FORM's CARD OF 'wigwaglaw08.GroupBack'. -/
def groupBackUptoCard : Claim7 := { stood := { row := groupBackUptoRow, standIns := [], harness := (true, "e7db09a4428f09e559dc4839750a724f17d03a51f8571950062b22c7827217bd"), looks := true }, kinds := [], alts := [], laidByText := true, laidKinds := [.data, .data, .data, .data, .sentinel, .sentinel, .pinned], laidTests := true, laidLooks := .later }
def GroupBackUptoCardSaid : Prop := Claim7.holds Tryd.pinned (.plain (OpenSpec.upto groupBackSpec)) groupBackUptoCard
end Rows
end Go.Proofs.YtbjjimllnffcpaaDoor
