/-
  No cell of these rows narrows 'for every input' (looked for: loops, veiled, ifaces, maps, wideKeys, modest, calm, conditions, laid).
  DERIVED. THE GIVEN ROWS OF THIS SEAT. 5 by the template 'for every input the law returns true; each argument reads behind the call as it read before'; 0 by the template 'total and deterministic' (their statements: YtjibnmmpbpheiaaTotals.lean).
  GIVEN WITH THE SEED: the statements are not yours to turn. If you find one false, say at which input.
  Laid BY PROGRAM, IN A SANDBOX (cutbox-rows.mjs): the forced cells as the released guide's own fill.sh prints them over the translation 129c32af9011fe63… (all of the seat's roots in one cut). By AI agents, Wed Nov 11 2026. No macro, syntax, notation, axiom, sorry.
-/
import Derived.Test.YtjibnmmpbpheiaaChecked
import GoSem.Claim
import GoSem.ClaimJoined
import GoSem.ClaimMapViews
import Derived.JoinedTies
import Derived.KernelRfl
namespace Go.Proofs.Ytjibnmmpbpheiaa
/- THE CELL 'sum', in the pinned program and in every row, IS THE sha256 OF THE DUMP (.gsa) THAT YtjibnmmpbpheiaaProg.lean LOADS. Nothing in Lean hashes anything: it is a label: what it is worth is what the hold of that sum in a sandbox is worth. -/
noncomputable def Try.pinned : Pinned := { name := "ytjibnmmpbpheiaa", sum := "129c32af9011fe63ed15af6e6d6af6eceb13ab3619ce05c400b9fb3e8a31e1d6", checked := Try.checked }
namespace Rows
def none {H : Type} : Left H := { results := [], args := [] }

/-- 'wigwaglaw14.WindowOnce': WHATEVER THE INPUT: true; the input reads as it did. -/
def windowOnceSpec : ChangeSpec := { name := "windowOnce", fn := fun _ => fun
  | [d] => { results := [.lit (.bool true)], args := [d] }
  | _ => none }
def windowOnceRow : OpenClaim := { program := "ytjibnmmpbpheiaa", sum := "129c32af9011fe63ed15af6e6d6af6eceb13ab3619ce05c400b9fb3e8a31e1d6", func := "wigwag/wigwaglaw14.WindowOnce", spec := "windowOnce", apart := false }
def WindowOnceSaid : Prop := windowOnceRow.holds Try.pinned (OpenSpec.ofChange windowOnceSpec)

/-- ITS FALSE NEIGHBOUR: 'it returns false'. Refute it at one input. -/
def windowOnceWrong : ChangeSpec := { name := "windowOnce", fn := fun _ => fun
  | [d] => { results := [.lit (.bool false)], args := [d] }
  | _ => none }
def WindowOnceWrongFalsely : Prop := windowOnceRow.holds Try.pinned (OpenSpec.ofChange windowOnceWrong)

/-- 'wigwaglaw14.WindowRow': WHATEVER THE INPUT: true; the input reads as it did. -/
def windowRowSpec : ChangeSpec := { name := "windowRow", fn := fun _ => fun
  | [d1, d2, d3, d4] => { results := [.lit (.bool true)], args := [d1, d2, d3, d4] }
  | _ => none }
def windowRowRow : OpenClaim := { program := "ytjibnmmpbpheiaa", sum := "129c32af9011fe63ed15af6e6d6af6eceb13ab3619ce05c400b9fb3e8a31e1d6", func := "wigwag/wigwaglaw14.WindowRow", spec := "windowRow", apart := false }
def WindowRowSaid : Prop := windowRowRow.holds Try.pinned (OpenSpec.ofChange windowRowSpec)

/-- ITS FALSE NEIGHBOUR: 'it returns false'. Refute it at one input. -/
def windowRowWrong : ChangeSpec := { name := "windowRow", fn := fun _ => fun
  | [d1, d2, d3, d4] => { results := [.lit (.bool false)], args := [d1, d2, d3, d4] }
  | _ => none }
def WindowRowWrongFalsely : Prop := windowRowRow.holds Try.pinned (OpenSpec.ofChange windowRowWrong)

/-- 'wigwaglaw14.WindowApart': WHATEVER THE INPUT: true; the input reads as it did. -/
def windowApartSpec : ChangeSpec := { name := "windowApart", fn := fun _ => fun
  | [d1, d2] => { results := [.lit (.bool true)], args := [d1, d2] }
  | _ => none }
def windowApartRow : OpenClaim := { program := "ytjibnmmpbpheiaa", sum := "129c32af9011fe63ed15af6e6d6af6eceb13ab3619ce05c400b9fb3e8a31e1d6", func := "wigwag/wigwaglaw14.WindowApart", spec := "windowApart", apart := false }
def WindowApartSaid : Prop := windowApartRow.holds Try.pinned (OpenSpec.ofChange windowApartSpec)

/-- ITS FALSE NEIGHBOUR: 'it returns false'. Refute it at one input. -/
def windowApartWrong : ChangeSpec := { name := "windowApart", fn := fun _ => fun
  | [d1, d2] => { results := [.lit (.bool false)], args := [d1, d2] }
  | _ => none }
def WindowApartWrongFalsely : Prop := windowApartRow.holds Try.pinned (OpenSpec.ofChange windowApartWrong)

/-- 'wigwaglaw14.WindowEdge': WHATEVER THE INPUT: true; the input reads as it did. -/
def windowEdgeSpec : ChangeSpec := { name := "windowEdge", fn := fun _ => fun
  | [d1, d2, d3] => { results := [.lit (.bool true)], args := [d1, d2, d3] }
  | _ => none }
def windowEdgeRow : OpenClaim := { program := "ytjibnmmpbpheiaa", sum := "129c32af9011fe63ed15af6e6d6af6eceb13ab3619ce05c400b9fb3e8a31e1d6", func := "wigwag/wigwaglaw14.WindowEdge", spec := "windowEdge", apart := false }
def WindowEdgeSaid : Prop := windowEdgeRow.holds Try.pinned (OpenSpec.ofChange windowEdgeSpec)

/-- ITS FALSE NEIGHBOUR: 'it returns false'. Refute it at one input. -/
def windowEdgeWrong : ChangeSpec := { name := "windowEdge", fn := fun _ => fun
  | [d1, d2, d3] => { results := [.lit (.bool false)], args := [d1, d2, d3] }
  | _ => none }
def WindowEdgeWrongFalsely : Prop := windowEdgeRow.holds Try.pinned (OpenSpec.ofChange windowEdgeWrong)

/-- 'wigwaglaw14.WindowRefused': WHATEVER THE INPUT: true; the input reads as it did. -/
def windowRefusedSpec : ChangeSpec := { name := "windowRefused", fn := fun _ => fun
  | [d1, d2] => { results := [.lit (.bool true)], args := [d1, d2] }
  | _ => none }
def windowRefusedRow : OpenClaim := { program := "ytjibnmmpbpheiaa", sum := "129c32af9011fe63ed15af6e6d6af6eceb13ab3619ce05c400b9fb3e8a31e1d6", func := "wigwag/wigwaglaw14.WindowRefused", spec := "windowRefused", apart := false }
def WindowRefusedSaid : Prop := windowRefusedRow.holds Try.pinned (OpenSpec.ofChange windowRefusedSpec)

/-- ITS FALSE NEIGHBOUR: 'it returns false'. Refute it at one input. -/
def windowRefusedWrong : ChangeSpec := { name := "windowRefused", fn := fun _ => fun
  | [d1, d2] => { results := [.lit (.bool false)], args := [d1, d2] }
  | _ => none }
def WindowRefusedWrongFalsely : Prop := windowRefusedRow.holds Try.pinned (OpenSpec.ofChange windowRefusedWrong)

/- THE SECOND FORM. 'bulk': how many values and letters a reading holds, each counted each time it is reached (what is shared counts as often as it is met; a slice's spare places count too). A statement '..UptoSaid' is the law's where the arguments, and the package variables that the reading takes, are together of bulk at most 1048576: NARROWER than '..Said'. Prove '..Said' where nothing that the law and all that it calls make is longer than what came in: it says more and counts as full. Else prove '..UptoSaid'. A law counts once. -/
mutual
def uptoBulk {H : Type} : DataW H → Nat
  | .lit (.string bytes) => bytes.length + 1
  | .lit _ => 1
  | .nil => 1
  | .ptr d => uptoBulk d + 1
  | .slice elems spare => uptoBulkAll elems + uptoBulkAll spare + 1
  | .agg parts => uptoBulkAll parts + 1
  | .iface _ d => uptoBulk d + 1
  | .map entries => uptoBulkEntries entries + 1
  | .held _ => 1
def uptoBulkAll {H : Type} : List (DataW H) → Nat
  | [] => 0
  | d :: r => uptoBulk d + uptoBulkAll r
def uptoBulkEntries {H : Type} : List (Lit × DataW H) → Nat
  | [] => 0
  | x :: r => uptoBulkEntry x + uptoBulkEntries r
def uptoBulkEntry {H : Type} : Lit × DataW H → Nat
  | (.string bytes, d) => bytes.length + uptoBulk d + 1
  | (_, d) => uptoBulk d + 1
 end
def uptoSmall : (H : Type) → List (DataW H) → Bool := fun _ ds => decide (uptoBulkAll ds ≤ 1048576)
def OpenSpec.upto (s : _root_.Go.ChangeSpec) : _root_.Go.OpenSpec := { _root_.Go.OpenSpec.ofChange s with cond := some uptoSmall }

/-- 'wigwaglaw14.WindowOnce', WHERE WHAT IT READS IS OF BULK AT MOST 1048576: true; the input reads as it did. -/
def windowOnceUptoRow : OpenClaim := { program := "ytjibnmmpbpheiaa", sum := "129c32af9011fe63ed15af6e6d6af6eceb13ab3619ce05c400b9fb3e8a31e1d6", func := "wigwag/wigwaglaw14.WindowOnce", spec := "windowOnce", apart := false, narrowed := true }
def WindowOnceUptoSaid : Prop := windowOnceUptoRow.holds Try.pinned (OpenSpec.upto windowOnceSpec)

/-- 'wigwaglaw14.WindowRow', WHERE WHAT IT READS IS OF BULK AT MOST 1048576: true; the input reads as it did. -/
def windowRowUptoRow : OpenClaim := { program := "ytjibnmmpbpheiaa", sum := "129c32af9011fe63ed15af6e6d6af6eceb13ab3619ce05c400b9fb3e8a31e1d6", func := "wigwag/wigwaglaw14.WindowRow", spec := "windowRow", apart := false, narrowed := true }
def WindowRowUptoSaid : Prop := windowRowUptoRow.holds Try.pinned (OpenSpec.upto windowRowSpec)

/-- 'wigwaglaw14.WindowApart', WHERE WHAT IT READS IS OF BULK AT MOST 1048576: true; the input reads as it did. -/
def windowApartUptoRow : OpenClaim := { program := "ytjibnmmpbpheiaa", sum := "129c32af9011fe63ed15af6e6d6af6eceb13ab3619ce05c400b9fb3e8a31e1d6", func := "wigwag/wigwaglaw14.WindowApart", spec := "windowApart", apart := false, narrowed := true }
def WindowApartUptoSaid : Prop := windowApartUptoRow.holds Try.pinned (OpenSpec.upto windowApartSpec)

/-- 'wigwaglaw14.WindowEdge', WHERE WHAT IT READS IS OF BULK AT MOST 1048576: true; the input reads as it did. -/
def windowEdgeUptoRow : OpenClaim := { program := "ytjibnmmpbpheiaa", sum := "129c32af9011fe63ed15af6e6d6af6eceb13ab3619ce05c400b9fb3e8a31e1d6", func := "wigwag/wigwaglaw14.WindowEdge", spec := "windowEdge", apart := false, narrowed := true }
def WindowEdgeUptoSaid : Prop := windowEdgeUptoRow.holds Try.pinned (OpenSpec.upto windowEdgeSpec)

/-- 'wigwaglaw14.WindowRefused', WHERE WHAT IT READS IS OF BULK AT MOST 1048576: true; the input reads as it did. -/
def windowRefusedUptoRow : OpenClaim := { program := "ytjibnmmpbpheiaa", sum := "129c32af9011fe63ed15af6e6d6af6eceb13ab3619ce05c400b9fb3e8a31e1d6", func := "wigwag/wigwaglaw14.WindowRefused", spec := "windowRefused", apart := false, narrowed := true }
def WindowRefusedUptoSaid : Prop := windowRefusedUptoRow.holds Try.pinned (OpenSpec.upto windowRefusedSpec)

end Rows
end Go.Proofs.Ytjibnmmpbpheiaa
