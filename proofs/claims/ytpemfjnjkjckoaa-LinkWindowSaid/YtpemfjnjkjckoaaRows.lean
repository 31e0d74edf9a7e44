/-
  No cell of these rows narrows 'for every input' (looked for: loops, veiled, ifaces, maps, wideKeys, modest, calm, conditions, laid).
  DERIVED. THE GIVEN ROWS OF THIS SEAT. 5 by the template 'for every input the law returns true; each argument reads behind the call as it read before'; 0 by the template 'total and deterministic' (their statements: YtpemfjnjkjckoaaTotals.lean).
  GIVEN WITH THE SEED: the statements are not yours to turn. If you find one false, say at which input.
  Laid BY PROGRAM, IN A SANDBOX (cutbox-rows.mjs): the forced cells as the released guide's own fill.sh prints them over the translation 90483cf482701c7f… (all of the seat's roots in one cut). By AI agents, Wed Nov 11 2026. No macro, syntax, notation, axiom, sorry.
-/
import Derived.Test.YtpemfjnjkjckoaaChecked
import GoSem.Claim
import GoSem.ClaimJoined
import GoSem.ClaimMapViews
import Derived.JoinedTies
import Derived.KernelRfl
namespace Go.Proofs.Ytpemfjnjkjckoaa
/- THE CELL 'sum', in the pinned program and in every row, IS THE sha256 OF THE DUMP (.gsa) THAT YtpemfjnjkjckoaaProg.lean LOADS. Nothing in Lean hashes anything: it is a label: what it is worth is what the hold of that sum in a sandbox is worth. -/
noncomputable def Try.pinned : Pinned := { name := "ytpemfjnjkjckoaa", sum := "90483cf482701c7f0af82d89bfa3e464e5764b02e684602769aa4dd5cba497c6", checked := Try.checked }
namespace Rows
def none {H : Type} : Left H := { results := [], args := [] }

/-- 'wigwaglaw04.LinkBrings': WHATEVER THE INPUT: true; the input reads as it did. -/
def linkBringsSpec : ChangeSpec := { name := "linkBrings", fn := fun _ => fun
  | [d1, d2] => { results := [.lit (.bool true)], args := [d1, d2] }
  | _ => none }
def linkBringsRow : OpenClaim := { program := "ytpemfjnjkjckoaa", sum := "90483cf482701c7f0af82d89bfa3e464e5764b02e684602769aa4dd5cba497c6", func := "wigwag/wigwaglaw04.LinkBrings", spec := "linkBrings", apart := false }
def LinkBringsSaid : Prop := linkBringsRow.holds Try.pinned (OpenSpec.ofChange linkBringsSpec)

/-- ITS FALSE NEIGHBOUR: 'it returns false'. Refute it at one input. -/
def linkBringsWrong : ChangeSpec := { name := "linkBrings", fn := fun _ => fun
  | [d1, d2] => { results := [.lit (.bool false)], args := [d1, d2] }
  | _ => none }
def LinkBringsWrongFalsely : Prop := linkBringsRow.holds Try.pinned (OpenSpec.ofChange linkBringsWrong)

/-- 'wigwaglaw04.LinkLate': WHATEVER THE INPUT: true; the input reads as it did. -/
def linkLateSpec : ChangeSpec := { name := "linkLate", fn := fun _ => fun
  | [d] => { results := [.lit (.bool true)], args := [d] }
  | _ => none }
def linkLateRow : OpenClaim := { program := "ytpemfjnjkjckoaa", sum := "90483cf482701c7f0af82d89bfa3e464e5764b02e684602769aa4dd5cba497c6", func := "wigwag/wigwaglaw04.LinkLate", spec := "linkLate", apart := false }
def LinkLateSaid : Prop := linkLateRow.holds Try.pinned (OpenSpec.ofChange linkLateSpec)

/-- ITS FALSE NEIGHBOUR: 'it returns false'. Refute it at one input. -/
def linkLateWrong : ChangeSpec := { name := "linkLate", fn := fun _ => fun
  | [d] => { results := [.lit (.bool false)], args := [d] }
  | _ => none }
def LinkLateWrongFalsely : Prop := linkLateRow.holds Try.pinned (OpenSpec.ofChange linkLateWrong)

/-- 'wigwaglaw04.LinkQuiet': WHATEVER THE INPUT: true; the input reads as it did. -/
def linkQuietSpec : ChangeSpec := { name := "linkQuiet", fn := fun _ => fun
  | [d] => { results := [.lit (.bool true)], args := [d] }
  | _ => none }
def linkQuietRow : OpenClaim := { program := "ytpemfjnjkjckoaa", sum := "90483cf482701c7f0af82d89bfa3e464e5764b02e684602769aa4dd5cba497c6", func := "wigwag/wigwaglaw04.LinkQuiet", spec := "linkQuiet", apart := false }
def LinkQuietSaid : Prop := linkQuietRow.holds Try.pinned (OpenSpec.ofChange linkQuietSpec)

/-- ITS FALSE NEIGHBOUR: 'it returns false'. Refute it at one input. -/
def linkQuietWrong : ChangeSpec := { name := "linkQuiet", fn := fun _ => fun
  | [d] => { results := [.lit (.bool false)], args := [d] }
  | _ => none }
def LinkQuietWrongFalsely : Prop := linkQuietRow.holds Try.pinned (OpenSpec.ofChange linkQuietWrong)

/-- 'wigwaglaw04.LinkWindow': WHATEVER THE INPUT: true; the input reads as it did. -/
def linkWindowSpec : ChangeSpec := { name := "linkWindow", fn := fun _ => fun
  | [d1, d2] => { results := [.lit (.bool true)], args := [d1, d2] }
  | _ => none }
def linkWindowRow : OpenClaim := { program := "ytpemfjnjkjckoaa", sum := "90483cf482701c7f0af82d89bfa3e464e5764b02e684602769aa4dd5cba497c6", func := "wigwag/wigwaglaw04.LinkWindow", spec := "linkWindow", recurses := true, apart := false }
def LinkWindowSaid : Prop := linkWindowRow.holds Try.pinned (OpenSpec.ofChange linkWindowSpec)

/-- ITS FALSE NEIGHBOUR: 'it returns false'. Refute it at one input. -/
def linkWindowWrong : ChangeSpec := { name := "linkWindow", fn := fun _ => fun
  | [d1, d2] => { results := [.lit (.bool false)], args := [d1, d2] }
  | _ => none }
def LinkWindowWrongFalsely : Prop := linkWindowRow.holds Try.pinned (OpenSpec.ofChange linkWindowWrong)

/-- 'wigwaglaw04.LinkFull': WHATEVER THE INPUT: true; the input reads as it did. -/
def linkFullSpec : ChangeSpec := { name := "linkFull", fn := fun _ => fun
  | [d] => { results := [.lit (.bool true)], args := [d] }
  | _ => none }
def linkFullRow : OpenClaim := { program := "ytpemfjnjkjckoaa", sum := "90483cf482701c7f0af82d89bfa3e464e5764b02e684602769aa4dd5cba497c6", func := "wigwag/wigwaglaw04.LinkFull", spec := "linkFull", inPlace := ["internal/reflectlite.TypeOf"], unfollowed := true, recurses := true, apart := false }
def LinkFullSaid : Prop := linkFullRow.holds Try.pinned (OpenSpec.ofChange linkFullSpec)

/-- ITS FALSE NEIGHBOUR: 'it returns false'. Refute it at one input. -/
def linkFullWrong : ChangeSpec := { name := "linkFull", fn := fun _ => fun
  | [d] => { results := [.lit (.bool false)], args := [d] }
  | _ => none }
def LinkFullWrongFalsely : Prop := linkFullRow.holds Try.pinned (OpenSpec.ofChange linkFullWrong)

/- THE SECOND FORM. 'bulk': how many values and letters a reading holds, each counted each time it is reached (what is shared counts as often as it is met; a slice's spare places count too). A statement '..UptoSaid' is the law's where the arguments, and the package variables that the reading takes, are together of bulk at most 1048576: NARROWER than '..Said'. Prove '..Said' where nothing that the law and all that it calls make is longer than what came in: it says more and counts as full. Else prove '..UptoSaid'. A law counts once. -/
mutual
def uptoBulk {H : Type} : DataW H → Nat
  | .lit (.string bytes) => bytes.length + 1
  | .lit _ => 1
  | .nil => 1
  | .ptr d => uptoBulk d + 1
  | .slice elems spare => uptoBulkAll elems + uptoBulkAll spare + 1
  | .agg parts => uptoBulkAll parts + 1
  | .iface _ d => uptoBulk d + 1
  | .map entries => uptoBulkEntries entries + 1
  | .held _ => 1
def uptoBulkAll {H : Type} : List (DataW H) → Nat
  | [] => 0
  | d :: r => uptoBulk d + uptoBulkAll r
def uptoBulkEntries {H : Type} : List (Lit × DataW H) → Nat
  | [] => 0
  | x :: r => uptoBulkEntry x + uptoBulkEntries r
def uptoBulkEntry {H : Type} : Lit × DataW H → Nat
  | (.string bytes, d) => bytes.length + uptoBulk d + 1
  | (_, d) => uptoBulk d + 1
 end
def uptoSmall : (H : Type) → List (DataW H) → Bool := fun _ ds => decide (uptoBulkAll ds ≤ 1048576)
def OpenSpec.upto (s : _root_.Go.ChangeSpec) : _root_.Go.OpenSpec := { _root_.Go.OpenSpec.ofChange s with cond := some uptoSmall }

/-- 'wigwaglaw04.LinkBrings', WHERE WHAT IT READS IS OF BULK AT MOST 1048576: true; the input reads as it did. -/
def linkBringsUptoRow : OpenClaim := { program := "ytpemfjnjkjckoaa", sum := "90483cf482701c7f0af82d89bfa3e464e5764b02e684602769aa4dd5cba497c6", func := "wigwag/wigwaglaw04.LinkBrings", spec := "linkBrings", apart := false, narrowed := true }
def LinkBringsUptoSaid : Prop := linkBringsUptoRow.holds Try.pinned (OpenSpec.upto linkBringsSpec)

/-- 'wigwaglaw04.LinkLate', WHERE WHAT IT READS IS OF BULK AT MOST 1048576: true; the input reads as it did. -/
def linkLateUptoRow : OpenClaim := { program := "ytpemfjnjkjckoaa", sum := "90483cf482701c7f0af82d89bfa3e464e5764b02e684602769aa4dd5cba497c6", func := "wigwag/wigwaglaw04.LinkLate", spec := "linkLate", apart := false, narrowed := true }
def LinkLateUptoSaid : Prop := linkLateUptoRow.holds Try.pinned (OpenSpec.upto linkLateSpec)

/-- 'wigwaglaw04.LinkQuiet', WHERE WHAT IT READS IS OF BULK AT MOST 1048576: true; the input reads as it did. -/
def linkQuietUptoRow : OpenClaim := { program := "ytpemfjnjkjckoaa", sum := "90483cf482701c7f0af82d89bfa3e464e5764b02e684602769aa4dd5cba497c6", func := "wigwag/wigwaglaw04.LinkQuiet", spec := "linkQuiet", apart := false, narrowed := true }
def LinkQuietUptoSaid : Prop := linkQuietUptoRow.holds Try.pinned (OpenSpec.upto linkQuietSpec)

/-- 'wigwaglaw04.LinkWindow', WHERE WHAT IT READS IS OF BULK AT MOST 1048576: true; the input reads as it did. -/
def linkWindowUptoRow : OpenClaim := { program := "ytpemfjnjkjckoaa", sum := "90483cf482701c7f0af82d89bfa3e464e5764b02e684602769aa4dd5cba497c6", func := "wigwag/wigwaglaw04.LinkWindow", spec := "linkWindow", recurses := true, apart := false, narrowed := true }
def LinkWindowUptoSaid : Prop := linkWindowUptoRow.holds Try.pinned (OpenSpec.upto linkWindowSpec)

/-- 'wigwaglaw04.LinkFull', WHERE WHAT IT READS IS OF BULK AT MOST 1048576: true; the input reads as it did. -/
def linkFullUptoRow : OpenClaim := { program := "ytpemfjnjkjckoaa", sum := "90483cf482701c7f0af82d89bfa3e464e5764b02e684602769aa4dd5cba497c6", func := "wigwag/wigwaglaw04.LinkFull", spec := "linkFull", inPlace := ["internal/reflectlite.TypeOf"], unfollowed := true, recurses := true, apart := false, narrowed := true }
def LinkFullUptoSaid : Prop := linkFullUptoRow.holds Try.pinned (OpenSpec.upto linkFullSpec)

end Rows
end Go.Proofs.Ytpemfjnjkjckoaa
