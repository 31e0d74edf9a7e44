/-
  No cell of these rows narrows 'for every input' (looked for: loops, veiled, ifaces, maps, wideKeys, modest, calm, conditions, laid).
  DERIVED. THE GIVEN ROWS OF THIS SEAT. 5 by the template 'for every input the law returns true; each argument reads behind the call as it read before'; 0 by the template 'total and deterministic' (their statements: YtemabpapfkplgaaTotals.lean).
  GIVEN WITH THE SEED: the statements are not yours to turn. If you find one false, say at which input.
  Laid BY PROGRAM, IN A SANDBOX (cutbox-rows.mjs): the forced cells as the released guide's own fill.sh prints them over the translation 2bf00486a360cc97… (all of the seat's roots in one cut). By AI agents, Wed Nov 11 2026. No macro, syntax, notation, axiom, sorry.
-/
import Derived.Test.YtemabpapfkplgaaChecked
import GoSem.Claim
import GoSem.ClaimJoined
import GoSem.ClaimMapViews
import Derived.JoinedTies
import Derived.KernelRfl
namespace Go.Proofs.Ytemabpapfkplgaa
/- THE CELL 'sum', in the pinned program and in every row, IS THE sha256 OF THE DUMP (.gsa) THAT YtemabpapfkplgaaProg.lean LOADS. Nothing in Lean hashes anything: it is a label: what it is worth is what the hold of that sum in a sandbox is worth. -/
noncomputable def Try.pinned : Pinned := { name := "ytemabpapfkplgaa", sum := "2bf00486a360cc976084406cae2d4b4e474fade2f73020d101f06a31a48a0f13", checked := Try.checked }
namespace Rows
def none {H : Type} : Left H := { results := [], args := [] }

/-- 'wigwaglaw03.BagOnce': WHATEVER THE INPUT: true; the input reads as it did. -/
def bagOnceSpec : ChangeSpec := { name := "bagOnce", fn := fun _ => fun
  | [d1, d2] => { results := [.lit (.bool true)], args := [d1, d2] }
  | _ => none }
def bagOnceRow : OpenClaim := { program := "ytemabpapfkplgaa", sum := "2bf00486a360cc976084406cae2d4b4e474fade2f73020d101f06a31a48a0f13", func := "wigwag/wigwaglaw03.BagOnce", spec := "bagOnce", inPlace := ["internal/reflectlite.TypeOf"], unfollowed := true, recurses := true, apart := false }
def BagOnceSaid : Prop := bagOnceRow.holds Try.pinned (OpenSpec.ofChange bagOnceSpec)

/-- ITS FALSE NEIGHBOUR: 'it returns false'. Refute it at one input. -/
def bagOnceWrong : ChangeSpec := { name := "bagOnce", fn := fun _ => fun
  | [d1, d2] => { results := [.lit (.bool false)], args := [d1, d2] }
  | _ => none }
def BagOnceWrongFalsely : Prop := bagOnceRow.holds Try.pinned (OpenSpec.ofChange bagOnceWrong)

/-- 'wigwaglaw03.BagFull': WHATEVER THE INPUT: true; the input reads as it did. -/
def bagFullSpec : ChangeSpec := { name := "bagFull", fn := fun _ => fun
  | [d1, d2] => { results := [.lit (.bool true)], args := [d1, d2] }
  | _ => none }
def bagFullRow : OpenClaim := { program := "ytemabpapfkplgaa", sum := "2bf00486a360cc976084406cae2d4b4e474fade2f73020d101f06a31a48a0f13", func := "wigwag/wigwaglaw03.BagFull", spec := "bagFull", inPlace := ["internal/reflectlite.TypeOf"], unfollowed := true, recurses := true, apart := false }
def BagFullSaid : Prop := bagFullRow.holds Try.pinned (OpenSpec.ofChange bagFullSpec)

/-- ITS FALSE NEIGHBOUR: 'it returns false'. Refute it at one input. -/
def bagFullWrong : ChangeSpec := { name := "bagFull", fn := fun _ => fun
  | [d1, d2] => { results := [.lit (.bool false)], args := [d1, d2] }
  | _ => none }
def BagFullWrongFalsely : Prop := bagFullRow.holds Try.pinned (OpenSpec.ofChange bagFullWrong)

/-- 'wigwaglaw03.BagDoubled': WHATEVER THE INPUT: true; the input reads as it did. -/
def bagDoubledSpec : ChangeSpec := { name := "bagDoubled", fn := fun _ => fun
  | [d1, d2, d3, d4] => { results := [.lit (.bool true)], args := [d1, d2, d3, d4] }
  | _ => none }
def bagDoubledRow : OpenClaim := { program := "ytemabpapfkplgaa", sum := "2bf00486a360cc976084406cae2d4b4e474fade2f73020d101f06a31a48a0f13", func := "wigwag/wigwaglaw03.BagDoubled", spec := "bagDoubled", inPlace := ["internal/reflectlite.TypeOf"], unfollowed := true, recurses := true, apart := false }
def BagDoubledSaid : Prop := bagDoubledRow.holds Try.pinned (OpenSpec.ofChange bagDoubledSpec)

/-- ITS FALSE NEIGHBOUR: 'it returns false'. Refute it at one input. -/
def bagDoubledWrong : ChangeSpec := { name := "bagDoubled", fn := fun _ => fun
  | [d1, d2, d3, d4] => { results := [.lit (.bool false)], args := [d1, d2, d3, d4] }
  | _ => none }
def BagDoubledWrongFalsely : Prop := bagDoubledRow.holds Try.pinned (OpenSpec.ofChange bagDoubledWrong)

/-- 'wigwaglaw03.BagOrder': WHATEVER THE INPUT: true; the input reads as it did. -/
def bagOrderSpec : ChangeSpec := { name := "bagOrder", fn := fun _ => fun
  | [d] => { results := [.lit (.bool true)], args := [d] }
  | _ => none }
def bagOrderRow : OpenClaim := { program := "ytemabpapfkplgaa", sum := "2bf00486a360cc976084406cae2d4b4e474fade2f73020d101f06a31a48a0f13", func := "wigwag/wigwaglaw03.BagOrder", spec := "bagOrder", inPlace := ["internal/reflectlite.TypeOf"], unfollowed := true, recurses := true, apart := false }
def BagOrderSaid : Prop := bagOrderRow.holds Try.pinned (OpenSpec.ofChange bagOrderSpec)

/-- ITS FALSE NEIGHBOUR: 'it returns false'. Refute it at one input. -/
def bagOrderWrong : ChangeSpec := { name := "bagOrder", fn := fun _ => fun
  | [d] => { results := [.lit (.bool false)], args := [d] }
  | _ => none }
def BagOrderWrongFalsely : Prop := bagOrderRow.holds Try.pinned (OpenSpec.ofChange bagOrderWrong)

/-- 'wigwaglaw03.BagPurged': WHATEVER THE INPUT: true; the input reads as it did. -/
def bagPurgedSpec : ChangeSpec := { name := "bagPurged", fn := fun _ => fun
  | [d1, d2] => { results := [.lit (.bool true)], args := [d1, d2] }
  | _ => none }
def bagPurgedRow : OpenClaim := { program := "ytemabpapfkplgaa", sum := "2bf00486a360cc976084406cae2d4b4e474fade2f73020d101f06a31a48a0f13", func := "wigwag/wigwaglaw03.BagPurged", spec := "bagPurged", inPlace := ["internal/reflectlite.TypeOf"], unfollowed := true, recurses := true, apart := false }
def BagPurgedSaid : Prop := bagPurgedRow.holds Try.pinned (OpenSpec.ofChange bagPurgedSpec)

/-- ITS FALSE NEIGHBOUR: 'it returns false'. Refute it at one input. -/
def bagPurgedWrong : ChangeSpec := { name := "bagPurged", fn := fun _ => fun
  | [d1, d2] => { results := [.lit (.bool false)], args := [d1, d2] }
  | _ => none }
def BagPurgedWrongFalsely : Prop := bagPurgedRow.holds Try.pinned (OpenSpec.ofChange bagPurgedWrong)

/- THE SECOND FORM. 'bulk': how many values and letters a reading holds, each counted each time it is reached (what is shared counts as often as it is met; a slice's spare places count too). A statement '..UptoSaid' is the law's where the arguments, and the package variables that the reading takes, are together of bulk at most 1048576: NARROWER than '..Said'. Prove '..Said' where nothing that the law and all that it calls make is longer than what came in: it says more and counts as full. Else prove '..UptoSaid'. A law counts once. -/
mutual
def uptoBulk {H : Type} : DataW H → Nat
  | .lit (.string bytes) => bytes.length + 1
  | .lit _ => 1
  | .nil => 1
  | .ptr d => uptoBulk d + 1
  | .slice elems spare => uptoBulkAll elems + uptoBulkAll spare + 1
  | .agg parts => uptoBulkAll parts + 1
  | .iface _ d => uptoBulk d + 1
  | .map entries => uptoBulkEntries entries + 1
  | .held _ => 1
def uptoBulkAll {H : Type} : List (DataW H) → Nat
  | [] => 0
  | d :: r => uptoBulk d + uptoBulkAll r
def uptoBulkEntries {H : Type} : List (Lit × DataW H) → Nat
  | [] => 0
  | x :: r => uptoBulkEntry x + uptoBulkEntries r
def uptoBulkEntry {H : Type} : Lit × DataW H → Nat
  | (.string bytes, d) => bytes.length + uptoBulk d + 1
  | (_, d) => uptoBulk d + 1
 end
def uptoSmall : (H : Type) → List (DataW H) → Bool := fun _ ds => decide (uptoBulkAll ds ≤ 1048576)
def OpenSpec.upto (s : _root_.Go.ChangeSpec) : _root_.Go.OpenSpec := { _root_.Go.OpenSpec.ofChange s with cond := some uptoSmall }

/-- 'wigwaglaw03.BagOnce', WHERE WHAT IT READS IS OF BULK AT MOST 1048576: true; the input reads as it did. -/
def bagOnceUptoRow : OpenClaim := { program := "ytemabpapfkplgaa", sum := "2bf00486a360cc976084406cae2d4b4e474fade2f73020d101f06a31a48a0f13", func := "wigwag/wigwaglaw03.BagOnce", spec := "bagOnce", inPlace := ["internal/reflectlite.TypeOf"], unfollowed := true, recurses := true, apart := false, narrowed := true }
def BagOnceUptoSaid : Prop := bagOnceUptoRow.holds Try.pinned (OpenSpec.upto bagOnceSpec)

/-- 'wigwaglaw03.BagFull', WHERE WHAT IT READS IS OF BULK AT MOST 1048576: true; the input reads as it did. -/
def bagFullUptoRow : OpenClaim := { program := "ytemabpapfkplgaa", sum := "2bf00486a360cc976084406cae2d4b4e474fade2f73020d101f06a31a48a0f13", func := "wigwag/wigwaglaw03.BagFull", spec := "bagFull", inPlace := ["internal/reflectlite.TypeOf"], unfollowed := true, recurses := true, apart := false, narrowed := true }
def BagFullUptoSaid : Prop := bagFullUptoRow.holds Try.pinned (OpenSpec.upto bagFullSpec)

/-- 'wigwaglaw03.BagDoubled', WHERE WHAT IT READS IS OF BULK AT MOST 1048576: true; the input reads as it did. -/
def bagDoubledUptoRow : OpenClaim := { program := "ytemabpapfkplgaa", sum := "2bf00486a360cc976084406cae2d4b4e474fade2f73020d101f06a31a48a0f13", func := "wigwag/wigwaglaw03.BagDoubled", spec := "bagDoubled", inPlace := ["internal/reflectlite.TypeOf"], unfollowed := true, recurses := true, apart := false, narrowed := true }
def BagDoubledUptoSaid : Prop := bagDoubledUptoRow.holds Try.pinned (OpenSpec.upto bagDoubledSpec)

/-- 'wigwaglaw03.BagOrder', WHERE WHAT IT READS IS OF BULK AT MOST 1048576: true; the input reads as it did. -/
def bagOrderUptoRow : OpenClaim := { program := "ytemabpapfkplgaa", sum := "2bf00486a360cc976084406cae2d4b4e474fade2f73020d101f06a31a48a0f13", func := "wigwag/wigwaglaw03.BagOrder", spec := "bagOrder", inPlace := ["internal/reflectlite.TypeOf"], unfollowed := true, recurses := true, apart := false, narrowed := true }
def BagOrderUptoSaid : Prop := bagOrderUptoRow.holds Try.pinned (OpenSpec.upto bagOrderSpec)

/-- 'wigwaglaw03.BagPurged', WHERE WHAT IT READS IS OF BULK AT MOST 1048576: true; the input reads as it did. -/
def bagPurgedUptoRow : OpenClaim := { program := "ytemabpapfkplgaa", sum := "2bf00486a360cc976084406cae2d4b4e474fade2f73020d101f06a31a48a0f13", func := "wigwag/wigwaglaw03.BagPurged", spec := "bagPurged", inPlace := ["internal/reflectlite.TypeOf"], unfollowed := true, recurses := true, apart := false, narrowed := true }
def BagPurgedUptoSaid : Prop := bagPurgedUptoRow.holds Try.pinned (OpenSpec.upto bagPurgedSpec)

end Rows
end Go.Proofs.Ytemabpapfkplgaa
