/-
  No cell of these rows narrows 'for every input' (looked for: loops, veiled, ifaces, maps, wideKeys, modest, calm, conditions, laid).
  DERIVED. THE GIVEN ROWS OF THIS SEAT. 3 by the template 'for every input the law returns true; each argument reads behind the call as it read before'; 0 by the template 'total and deterministic' (their statements: YtddhlmejaobcgaaTotals.lean).
  GIVEN WITH THE SEED: the statements are not yours to turn. If you find one false, say at which input.
  Laid BY PROGRAM, IN A SANDBOX (cutbox-rows.mjs): the forced cells as the released guide's own fill.sh prints them over the translation 3859e93fcdf20467… (all of the seat's roots in one cut). By AI agents, Wed Nov 11 2026. No macro, syntax, notation, axiom, sorry.
-/
import Derived.Test.YtddhlmejaobcgaaChecked
import GoSem.Claim
import GoSem.ClaimJoined
import GoSem.ClaimMapViews
import Derived.JoinedTies
import Derived.KernelRfl
namespace Go.Proofs.Ytddhlmejaobcgaa
/- THE CELL 'sum', in the pinned program and in every row, IS THE sha256 OF THE DUMP (.gsa) THAT YtddhlmejaobcgaaProg.lean LOADS. Nothing in Lean hashes anything: it is a label: what it is worth is what the hold of that sum in a sandbox is worth. -/
noncomputable def Try.pinned : Pinned := { name := "ytddhlmejaobcgaa", sum := "3859e93fcdf2046772b618a918d0650838f12be41ca480e97264537d1a8b9670", checked := Try.checked }
namespace Rows
def none {H : Type} : Left H := { results := [], args := [] }

/-- 'wigwagtop.WigwagCarried': WHATEVER THE INPUT: true; the input reads as it did. -/
def wigwagCarriedSpec : ChangeSpec := { name := "wigwagCarried", fn := fun _ => fun
  | [d] => { results := [.lit (.bool true)], args := [d] }
  | _ => none }
def wigwagCarriedRow : OpenClaim := { program := "ytddhlmejaobcgaa", sum := "3859e93fcdf2046772b618a918d0650838f12be41ca480e97264537d1a8b9670", func := "wigwag/wigwagtop.WigwagCarried", spec := "wigwagCarried", unfollowed := true, recurses := true, apart := false }
def WigwagCarriedSaid : Prop := wigwagCarriedRow.holds Try.pinned (OpenSpec.ofChange wigwagCarriedSpec)

/-- ITS FALSE NEIGHBOUR: 'it returns false'. Refute it at one input. -/
def wigwagCarriedWrong : ChangeSpec := { name := "wigwagCarried", fn := fun _ => fun
  | [d] => { results := [.lit (.bool false)], args := [d] }
  | _ => none }
def WigwagCarriedWrongFalsely : Prop := wigwagCarriedRow.holds Try.pinned (OpenSpec.ofChange wigwagCarriedWrong)

/-- 'wigwagtop.WigwagPlaced': WHATEVER THE INPUT: true; the input reads as it did. -/
def wigwagPlacedSpec : ChangeSpec := { name := "wigwagPlaced", fn := fun _ => fun
  | [d1, d2] => { results := [.lit (.bool true)], args := [d1, d2] }
  | _ => none }
def wigwagPlacedRow : OpenClaim := { program := "ytddhlmejaobcgaa", sum := "3859e93fcdf2046772b618a918d0650838f12be41ca480e97264537d1a8b9670", func := "wigwag/wigwagtop.WigwagPlaced", spec := "wigwagPlaced", recurses := true, apart := false }
def WigwagPlacedSaid : Prop := wigwagPlacedRow.holds Try.pinned (OpenSpec.ofChange wigwagPlacedSpec)

/-- ITS FALSE NEIGHBOUR: 'it returns false'. Refute it at one input. -/
def wigwagPlacedWrong : ChangeSpec := { name := "wigwagPlaced", fn := fun _ => fun
  | [d1, d2] => { results := [.lit (.bool false)], args := [d1, d2] }
  | _ => none }
def WigwagPlacedWrongFalsely : Prop := wigwagPlacedRow.holds Try.pinned (OpenSpec.ofChange wigwagPlacedWrong)

/-- 'wigwagtop.WigwagBack': WHATEVER THE INPUT: true; the input reads as it did. -/
def wigwagBackSpec : ChangeSpec := { name := "wigwagBack", fn := fun _ => fun
  | [d1, d2, d3] => { results := [.lit (.bool true)], args := [d1, d2, d3] }
  | _ => none }
def wigwagBackRow : OpenClaim := { program := "ytddhlmejaobcgaa", sum := "3859e93fcdf2046772b618a918d0650838f12be41ca480e97264537d1a8b9670", func := "wigwag/wigwagtop.WigwagBack", spec := "wigwagBack", unfollowed := true, recurses := true, apart := false }
def WigwagBackSaid : Prop := wigwagBackRow.holds Try.pinned (OpenSpec.ofChange wigwagBackSpec)

/-- ITS FALSE NEIGHBOUR: 'it returns false'. Refute it at one input. -/
def wigwagBackWrong : ChangeSpec := { name := "wigwagBack", fn := fun _ => fun
  | [d1, d2, d3] => { results := [.lit (.bool false)], args := [d1, d2, d3] }
  | _ => none }
def WigwagBackWrongFalsely : Prop := wigwagBackRow.holds Try.pinned (OpenSpec.ofChange wigwagBackWrong)

/- THE SECOND FORM. 'bulk': how many values and letters a reading holds, each counted each time it is reached (what is shared counts as often as it is met; a slice's spare places count too). A statement '..UptoSaid' is the law's where the arguments, and the package variables that the reading takes, are together of bulk at most 1048576: NARROWER than '..Said'. Prove '..Said' where nothing that the law and all that it calls make is longer than what came in: it says more and counts as full. Else prove '..UptoSaid'. A law counts once. -/
mutual
def uptoBulk {H : Type} : DataW H → Nat
  | .lit (.string bytes) => bytes.length + 1
  | .lit _ => 1
  | .nil => 1
  | .ptr d => uptoBulk d + 1
  | .slice elems spare => uptoBulkAll elems + uptoBulkAll spare + 1
  | .agg parts => uptoBulkAll parts + 1
  | .iface _ d => uptoBulk d + 1
  | .map entries => uptoBulkEntries entries + 1
  | .held _ => 1
def uptoBulkAll {H : Type} : List (DataW H) → Nat
  | [] => 0
  | d :: r => uptoBulk d + uptoBulkAll r
def uptoBulkEntries {H : Type} : List (Lit × DataW H) → Nat
  | [] => 0
  | x :: r => uptoBulkEntry x + uptoBulkEntries r
def uptoBulkEntry {H : Type} : Lit × DataW H → Nat
  | (.string bytes, d) => bytes.length + uptoBulk d + 1
  | (_, d) => uptoBulk d + 1
 end
def uptoSmall : (H : Type) → List (DataW H) → Bool := fun _ ds => decide (uptoBulkAll ds ≤ 1048576)
def OpenSpec.upto (s : _root_.Go.ChangeSpec) : _root_.Go.OpenSpec := { _root_.Go.OpenSpec.ofChange s with cond := some uptoSmall }

/-- 'wigwagtop.WigwagCarried', WHERE WHAT IT READS IS OF BULK AT MOST 1048576: true; the input reads as it did. -/
def wigwagCarriedUptoRow : OpenClaim := { program := "ytddhlmejaobcgaa", sum := "3859e93fcdf2046772b618a918d0650838f12be41ca480e97264537d1a8b9670", func := "wigwag/wigwagtop.WigwagCarried", spec := "wigwagCarried", unfollowed := true, recurses := true, apart := false, narrowed := true }
def WigwagCarriedUptoSaid : Prop := wigwagCarriedUptoRow.holds Try.pinned (OpenSpec.upto wigwagCarriedSpec)

/-- 'wigwagtop.WigwagPlaced', WHERE WHAT IT READS IS OF BULK AT MOST 1048576: true; the input reads as it did. -/
def wigwagPlacedUptoRow : OpenClaim := { program := "ytddhlmejaobcgaa", sum := "3859e93fcdf2046772b618a918d0650838f12be41ca480e97264537d1a8b9670", func := "wigwag/wigwagtop.WigwagPlaced", spec := "wigwagPlaced", recurses := true, apart := false, narrowed := true }
def WigwagPlacedUptoSaid : Prop := wigwagPlacedUptoRow.holds Try.pinned (OpenSpec.upto wigwagPlacedSpec)

/-- 'wigwagtop.WigwagBack', WHERE WHAT IT READS IS OF BULK AT MOST 1048576: true; the input reads as it did. -/
def wigwagBackUptoRow : OpenClaim := { program := "ytddhlmejaobcgaa", sum := "3859e93fcdf2046772b618a918d0650838f12be41ca480e97264537d1a8b9670", func := "wigwag/wigwagtop.WigwagBack", spec := "wigwagBack", unfollowed := true, recurses := true, apart := false, narrowed := true }
def WigwagBackUptoSaid : Prop := wigwagBackUptoRow.holds Try.pinned (OpenSpec.upto wigwagBackSpec)

end Rows
end Go.Proofs.Ytddhlmejaobcgaa
