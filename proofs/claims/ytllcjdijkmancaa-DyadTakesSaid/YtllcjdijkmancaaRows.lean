/-
  No cell of these rows narrows 'for every input' (looked for: loops, veiled, ifaces, maps, wideKeys, modest, calm, conditions, laid).
  DERIVED. THE GIVEN ROWS OF THIS SEAT. 8 by the template 'for every input the law returns true; each argument reads behind the call as it read before'; 0 by the template 'total and deterministic' (their statements: YtllcjdijkmancaaTotals.lean).
  GIVEN WITH THE SEED: the statements are not yours to turn. If you find one false, say at which input.
  Laid BY PROGRAM, IN A SANDBOX (cutbox-rows.mjs): the forced cells as the released guide's own fill.sh prints them over the translation efe6a7587101586d… (all of the seat's roots in one cut). By AI agents, Wed Nov 11 2026. No macro, syntax, notation, axiom, sorry.
-/
import Derived.Test.YtllcjdijkmancaaChecked
import GoSem.Claim
import GoSem.ClaimJoined
import GoSem.ClaimMapViews
import Derived.JoinedTies
import Derived.KernelRfl
namespace Go.Proofs.Ytllcjdijkmancaa
/- THE CELL 'sum', in the pinned program and in every row, IS THE sha256 OF THE DUMP (.gsa) THAT YtllcjdijkmancaaProg.lean LOADS. Nothing in Lean hashes anything: it is a label: what it is worth is what the hold of that sum in a sandbox is worth. -/
noncomputable def Try.pinned : Pinned := { name := "ytllcjdijkmancaa", sum := "efe6a7587101586dcd7f5be5937601052b87b44db1ff1683d5e48807c6dbea30", checked := Try.checked }
namespace Rows
def none {H : Type} : Left H := { results := [], args := [] }

/-- 'wigwaglaw07.DyadCovers': WHATEVER THE INPUT: true; the input reads as it did. -/
def dyadCoversSpec : ChangeSpec := { name := "dyadCovers", fn := fun _ => fun
  | [d1, d2, d3, d4] => { results := [.lit (.bool true)], args := [d1, d2, d3, d4] }
  | _ => none }
def dyadCoversRow : OpenClaim := { program := "ytllcjdijkmancaa", sum := "efe6a7587101586dcd7f5be5937601052b87b44db1ff1683d5e48807c6dbea30", func := "wigwag/wigwaglaw07.DyadCovers", spec := "dyadCovers", recurses := true, apart := false }
def DyadCoversSaid : Prop := dyadCoversRow.holds Try.pinned (OpenSpec.ofChange dyadCoversSpec)

/-- ITS FALSE NEIGHBOUR: 'it returns false'. Refute it at one input. -/
def dyadCoversWrong : ChangeSpec := { name := "dyadCovers", fn := fun _ => fun
  | [d1, d2, d3, d4] => { results := [.lit (.bool false)], args := [d1, d2, d3, d4] }
  | _ => none }
def DyadCoversWrongFalsely : Prop := dyadCoversRow.holds Try.pinned (OpenSpec.ofChange dyadCoversWrong)

/-- 'wigwaglaw07.DyadOnce': WHATEVER THE INPUT: true; the input reads as it did. -/
def dyadOnceSpec : ChangeSpec := { name := "dyadOnce", fn := fun _ => fun
  | [d1, d2, d3, d4] => { results := [.lit (.bool true)], args := [d1, d2, d3, d4] }
  | _ => none }
def dyadOnceRow : OpenClaim := { program := "ytllcjdijkmancaa", sum := "efe6a7587101586dcd7f5be5937601052b87b44db1ff1683d5e48807c6dbea30", func := "wigwag/wigwaglaw07.DyadOnce", spec := "dyadOnce", apart := false }
def DyadOnceSaid : Prop := dyadOnceRow.holds Try.pinned (OpenSpec.ofChange dyadOnceSpec)

/-- ITS FALSE NEIGHBOUR: 'it returns false'. Refute it at one input. -/
def dyadOnceWrong : ChangeSpec := { name := "dyadOnce", fn := fun _ => fun
  | [d1, d2, d3, d4] => { results := [.lit (.bool false)], args := [d1, d2, d3, d4] }
  | _ => none }
def DyadOnceWrongFalsely : Prop := dyadOnceRow.holds Try.pinned (OpenSpec.ofChange dyadOnceWrong)

/-- 'wigwaglaw07.DyadNests': WHATEVER THE INPUT: true; the input reads as it did. -/
def dyadNestsSpec : ChangeSpec := { name := "dyadNests", fn := fun _ => fun
  | [d1, d2, d3] => { results := [.lit (.bool true)], args := [d1, d2, d3] }
  | _ => none }
def dyadNestsRow : OpenClaim := { program := "ytllcjdijkmancaa", sum := "efe6a7587101586dcd7f5be5937601052b87b44db1ff1683d5e48807c6dbea30", func := "wigwag/wigwaglaw07.DyadNests", spec := "dyadNests", apart := false }
def DyadNestsSaid : Prop := dyadNestsRow.holds Try.pinned (OpenSpec.ofChange dyadNestsSpec)

/-- ITS FALSE NEIGHBOUR: 'it returns false'. Refute it at one input. -/
def dyadNestsWrong : ChangeSpec := { name := "dyadNests", fn := fun _ => fun
  | [d1, d2, d3] => { results := [.lit (.bool false)], args := [d1, d2, d3] }
  | _ => none }
def DyadNestsWrongFalsely : Prop := dyadNestsRow.holds Try.pinned (OpenSpec.ofChange dyadNestsWrong)

/-- 'wigwaglaw07.DyadChains': WHATEVER THE INPUT: true; the input reads as it did. -/
def dyadChainsSpec : ChangeSpec := { name := "dyadChains", fn := fun _ => fun
  | [d1, d2] => { results := [.lit (.bool true)], args := [d1, d2] }
  | _ => none }
def dyadChainsRow : OpenClaim := { program := "ytllcjdijkmancaa", sum := "efe6a7587101586dcd7f5be5937601052b87b44db1ff1683d5e48807c6dbea30", func := "wigwag/wigwaglaw07.DyadChains", spec := "dyadChains", apart := false }
def DyadChainsSaid : Prop := dyadChainsRow.holds Try.pinned (OpenSpec.ofChange dyadChainsSpec)

/-- ITS FALSE NEIGHBOUR: 'it returns false'. Refute it at one input. -/
def dyadChainsWrong : ChangeSpec := { name := "dyadChains", fn := fun _ => fun
  | [d1, d2] => { results := [.lit (.bool false)], args := [d1, d2] }
  | _ => none }
def DyadChainsWrongFalsely : Prop := dyadChainsRow.holds Try.pinned (OpenSpec.ofChange dyadChainsWrong)

/-- 'wigwaglaw07.DyadCells': WHATEVER THE INPUT: true; the input reads as it did. -/
def dyadCellsSpec : ChangeSpec := { name := "dyadCells", fn := fun _ => fun
  | [d1, d2, d3, d4] => { results := [.lit (.bool true)], args := [d1, d2, d3, d4] }
  | _ => none }
def dyadCellsRow : OpenClaim := { program := "ytllcjdijkmancaa", sum := "efe6a7587101586dcd7f5be5937601052b87b44db1ff1683d5e48807c6dbea30", func := "wigwag/wigwaglaw07.DyadCells", spec := "dyadCells", apart := false }
def DyadCellsSaid : Prop := dyadCellsRow.holds Try.pinned (OpenSpec.ofChange dyadCellsSpec)

/-- ITS FALSE NEIGHBOUR: 'it returns false'. Refute it at one input. -/
def dyadCellsWrong : ChangeSpec := { name := "dyadCells", fn := fun _ => fun
  | [d1, d2, d3, d4] => { results := [.lit (.bool false)], args := [d1, d2, d3, d4] }
  | _ => none }
def DyadCellsWrongFalsely : Prop := dyadCellsRow.holds Try.pinned (OpenSpec.ofChange dyadCellsWrong)

/-- 'wigwaglaw07.DyadRises': WHATEVER THE INPUT: true; the input reads as it did. -/
def dyadRisesSpec : ChangeSpec := { name := "dyadRises", fn := fun _ => fun
  | [d1, d2, d3, d4] => { results := [.lit (.bool true)], args := [d1, d2, d3, d4] }
  | _ => none }
def dyadRisesRow : OpenClaim := { program := "ytllcjdijkmancaa", sum := "efe6a7587101586dcd7f5be5937601052b87b44db1ff1683d5e48807c6dbea30", func := "wigwag/wigwaglaw07.DyadRises", spec := "dyadRises", unfollowed := true, recurses := true, apart := false }
def DyadRisesSaid : Prop := dyadRisesRow.holds Try.pinned (OpenSpec.ofChange dyadRisesSpec)

/-- ITS FALSE NEIGHBOUR: 'it returns false'. Refute it at one input. -/
def dyadRisesWrong : ChangeSpec := { name := "dyadRises", fn := fun _ => fun
  | [d1, d2, d3, d4] => { results := [.lit (.bool false)], args := [d1, d2, d3, d4] }
  | _ => none }
def DyadRisesWrongFalsely : Prop := dyadRisesRow.holds Try.pinned (OpenSpec.ofChange dyadRisesWrong)

/-- 'wigwaglaw07.DyadFine': WHATEVER THE INPUT: true; the input reads as it did. -/
def dyadFineSpec : ChangeSpec := { name := "dyadFine", fn := fun _ => fun
  | [d1, d2, d3] => { results := [.lit (.bool true)], args := [d1, d2, d3] }
  | _ => none }
def dyadFineRow : OpenClaim := { program := "ytllcjdijkmancaa", sum := "efe6a7587101586dcd7f5be5937601052b87b44db1ff1683d5e48807c6dbea30", func := "wigwag/wigwaglaw07.DyadFine", spec := "dyadFine", unfollowed := true, recurses := true, apart := false }
def DyadFineSaid : Prop := dyadFineRow.holds Try.pinned (OpenSpec.ofChange dyadFineSpec)

/-- ITS FALSE NEIGHBOUR: 'it returns false'. Refute it at one input. -/
def dyadFineWrong : ChangeSpec := { name := "dyadFine", fn := fun _ => fun
  | [d1, d2, d3] => { results := [.lit (.bool false)], args := [d1, d2, d3] }
  | _ => none }
def DyadFineWrongFalsely : Prop := dyadFineRow.holds Try.pinned (OpenSpec.ofChange dyadFineWrong)

/-- 'wigwaglaw07.DyadTakes': WHATEVER THE INPUT: true; the input reads as it did. -/
def dyadTakesSpec : ChangeSpec := { name := "dyadTakes", fn := fun _ => fun
  | [d1, d2, d3, d4] => { results := [.lit (.bool true)], args := [d1, d2, d3, d4] }
  | _ => none }
def dyadTakesRow : OpenClaim := { program := "ytllcjdijkmancaa", sum := "efe6a7587101586dcd7f5be5937601052b87b44db1ff1683d5e48807c6dbea30", func := "wigwag/wigwaglaw07.DyadTakes", spec := "dyadTakes", unfollowed := true, recurses := true, apart := false }
def DyadTakesSaid : Prop := dyadTakesRow.holds Try.pinned (OpenSpec.ofChange dyadTakesSpec)

/-- ITS FALSE NEIGHBOUR: 'it returns false'. Refute it at one input. -/
def dyadTakesWrong : ChangeSpec := { name := "dyadTakes", fn := fun _ => fun
  | [d1, d2, d3, d4] => { results := [.lit (.bool false)], args := [d1, d2, d3, d4] }
  | _ => none }
def DyadTakesWrongFalsely : Prop := dyadTakesRow.holds Try.pinned (OpenSpec.ofChange dyadTakesWrong)

/- THE SECOND FORM. 'bulk': how many values and letters a reading holds, each counted each time it is reached (what is shared counts as often as it is met; a slice's spare places count too). A statement '..UptoSaid' is the law's where the arguments, and the package variables that the reading takes, are together of bulk at most 1048576: NARROWER than '..Said'. Prove '..Said' where nothing that the law and all that it calls make is longer than what came in: it says more and counts as full. Else prove '..UptoSaid'. A law counts once. -/
mutual
def uptoBulk {H : Type} : DataW H → Nat
  | .lit (.string bytes) => bytes.length + 1
  | .lit _ => 1
  | .nil => 1
  | .ptr d => uptoBulk d + 1
  | .slice elems spare => uptoBulkAll elems + uptoBulkAll spare + 1
  | .agg parts => uptoBulkAll parts + 1
  | .iface _ d => uptoBulk d + 1
  | .map entries => uptoBulkEntries entries + 1
  | .held _ => 1
def uptoBulkAll {H : Type} : List (DataW H) → Nat
  | [] => 0
  | d :: r => uptoBulk d + uptoBulkAll r
def uptoBulkEntries {H : Type} : List (Lit × DataW H) → Nat
  | [] => 0
  | x :: r => uptoBulkEntry x + uptoBulkEntries r
def uptoBulkEntry {H : Type} : Lit × DataW H → Nat
  | (.string bytes, d) => bytes.length + uptoBulk d + 1
  | (_, d) => uptoBulk d + 1
 end
def uptoSmall : (H : Type) → List (DataW H) → Bool := fun _ ds => decide (uptoBulkAll ds ≤ 1048576)
def OpenSpec.upto (s : _root_.Go.ChangeSpec) : _root_.Go.OpenSpec := { _root_.Go.OpenSpec.ofChange s with cond := some uptoSmall }

/-- 'wigwaglaw07.DyadCovers', WHERE WHAT IT READS IS OF BULK AT MOST 1048576: true; the input reads as it did. -/
def dyadCoversUptoRow : OpenClaim := { program := "ytllcjdijkmancaa", sum := "efe6a7587101586dcd7f5be5937601052b87b44db1ff1683d5e48807c6dbea30", func := "wigwag/wigwaglaw07.DyadCovers", spec := "dyadCovers", recurses := true, apart := false, narrowed := true }
def DyadCoversUptoSaid : Prop := dyadCoversUptoRow.holds Try.pinned (OpenSpec.upto dyadCoversSpec)

/-- 'wigwaglaw07.DyadOnce', WHERE WHAT IT READS IS OF BULK AT MOST 1048576: true; the input reads as it did. -/
def dyadOnceUptoRow : OpenClaim := { program := "ytllcjdijkmancaa", sum := "efe6a7587101586dcd7f5be5937601052b87b44db1ff1683d5e48807c6dbea30", func := "wigwag/wigwaglaw07.DyadOnce", spec := "dyadOnce", apart := false, narrowed := true }
def DyadOnceUptoSaid : Prop := dyadOnceUptoRow.holds Try.pinned (OpenSpec.upto dyadOnceSpec)

/-- 'wigwaglaw07.DyadNests', WHERE WHAT IT READS IS OF BULK AT MOST 1048576: true; the input reads as it did. -/
def dyadNestsUptoRow : OpenClaim := { program := "ytllcjdijkmancaa", sum := "efe6a7587101586dcd7f5be5937601052b87b44db1ff1683d5e48807c6dbea30", func := "wigwag/wigwaglaw07.DyadNests", spec := "dyadNests", apart := false, narrowed := true }
def DyadNestsUptoSaid : Prop := dyadNestsUptoRow.holds Try.pinned (OpenSpec.upto dyadNestsSpec)

/-- 'wigwaglaw07.DyadChains', WHERE WHAT IT READS IS OF BULK AT MOST 1048576: true; the input reads as it did. -/
def dyadChainsUptoRow : OpenClaim := { program := "ytllcjdijkmancaa", sum := "efe6a7587101586dcd7f5be5937601052b87b44db1ff1683d5e48807c6dbea30", func := "wigwag/wigwaglaw07.DyadChains", spec := "dyadChains", apart := false, narrowed := true }
def DyadChainsUptoSaid : Prop := dyadChainsUptoRow.holds Try.pinned (OpenSpec.upto dyadChainsSpec)

/-- 'wigwaglaw07.DyadCells', WHERE WHAT IT READS IS OF BULK AT MOST 1048576: true; the input reads as it did. -/
def dyadCellsUptoRow : OpenClaim := { program := "ytllcjdijkmancaa", sum := "efe6a7587101586dcd7f5be5937601052b87b44db1ff1683d5e48807c6dbea30", func := "wigwag/wigwaglaw07.DyadCells", spec := "dyadCells", apart := false, narrowed := true }
def DyadCellsUptoSaid : Prop := dyadCellsUptoRow.holds Try.pinned (OpenSpec.upto dyadCellsSpec)

/-- 'wigwaglaw07.DyadRises', WHERE WHAT IT READS IS OF BULK AT MOST 1048576: true; the input reads as it did. -/
def dyadRisesUptoRow : OpenClaim := { program := "ytllcjdijkmancaa", sum := "efe6a7587101586dcd7f5be5937601052b87b44db1ff1683d5e48807c6dbea30", func := "wigwag/wigwaglaw07.DyadRises", spec := "dyadRises", unfollowed := true, recurses := true, apart := false, narrowed := true }
def DyadRisesUptoSaid : Prop := dyadRisesUptoRow.holds Try.pinned (OpenSpec.upto dyadRisesSpec)

/-- 'wigwaglaw07.DyadFine', WHERE WHAT IT READS IS OF BULK AT MOST 1048576: true; the input reads as it did. -/
def dyadFineUptoRow : OpenClaim := { program := "ytllcjdijkmancaa", sum := "efe6a7587101586dcd7f5be5937601052b87b44db1ff1683d5e48807c6dbea30", func := "wigwag/wigwaglaw07.DyadFine", spec := "dyadFine", unfollowed := true, recurses := true, apart := false, narrowed := true }
def DyadFineUptoSaid : Prop := dyadFineUptoRow.holds Try.pinned (OpenSpec.upto dyadFineSpec)

/-- 'wigwaglaw07.DyadTakes', WHERE WHAT IT READS IS OF BULK AT MOST 1048576: true; the input reads as it did. -/
def dyadTakesUptoRow : OpenClaim := { program := "ytllcjdijkmancaa", sum := "efe6a7587101586dcd7f5be5937601052b87b44db1ff1683d5e48807c6dbea30", func := "wigwag/wigwaglaw07.DyadTakes", spec := "dyadTakes", unfollowed := true, recurses := true, apart := false, narrowed := true }
def DyadTakesUptoSaid : Prop := dyadTakesUptoRow.holds Try.pinned (OpenSpec.upto dyadTakesSpec)

end Rows
end Go.Proofs.Ytllcjdijkmancaa
