/-
  No cell of these rows narrows 'for every input' (looked for: loops, veiled, ifaces, maps, wideKeys, modest, calm, conditions, laid).
  DERIVED. THE GIVEN ROWS OF THIS SEAT. 5 by the template 'for every input the law returns true; each argument reads behind the call as it read before'; 0 by the template 'total and deterministic' (their statements: YtcanicacdfkaeaaTotals.lean).
  GIVEN WITH THE SEED: the statements are not yours to turn. If you find one false, say at which input.
  Laid BY PROGRAM, IN A SANDBOX (cutbox-rows.mjs): the forced cells as the released guide's own fill.sh prints them over the translation e9375a4e921a5897… (all of the seat's roots in one cut). By AI agents, Wed Nov 11 2026. No macro, syntax, notation, axiom, sorry.
-/
import Derived.Test.YtcanicacdfkaeaaChecked
import GoSem.Claim
import GoSem.ClaimJoined
import GoSem.ClaimMapViews
import Derived.JoinedTies
import Derived.KernelRfl
namespace Go.Proofs.Ytcanicacdfkaeaa
/- THE CELL 'sum', in the pinned program and in every row, IS THE sha256 OF THE DUMP (.gsa) THAT YtcanicacdfkaeaaProg.lean LOADS. Nothing in Lean hashes anything: it is a label: what it is worth is what the hold of that sum in a sandbox is worth. -/
noncomputable def Try.pinned : Pinned := { name := "ytcanicacdfkaeaa", sum := "e9375a4e921a5897c57a06a3e522042eca2311081667265c8d57c7b54f8ed253", checked := Try.checked }
namespace Rows
def none {H : Type} : Left H := { results := [], args := [] }

/-- 'wigwaglaw05.ValueMatches': WHATEVER THE INPUT: true; the input reads as it did. -/
def valueMatchesSpec : ChangeSpec := { name := "valueMatches", fn := fun _ => fun
  | [d1, d2, d3] => { results := [.lit (.bool true)], args := [d1, d2, d3] }
  | _ => none }
def valueMatchesRow : OpenClaim := { program := "ytcanicacdfkaeaa", sum := "e9375a4e921a5897c57a06a3e522042eca2311081667265c8d57c7b54f8ed253", func := "wigwag/wigwaglaw05.ValueMatches", spec := "valueMatches", unfollowed := true, recurses := true, apart := false }
def ValueMatchesSaid : Prop := valueMatchesRow.holds Try.pinned (OpenSpec.ofChange valueMatchesSpec)

/-- ITS FALSE NEIGHBOUR: 'it returns false'. Refute it at one input. -/
def valueMatchesWrong : ChangeSpec := { name := "valueMatches", fn := fun _ => fun
  | [d1, d2, d3] => { results := [.lit (.bool false)], args := [d1, d2, d3] }
  | _ => none }
def ValueMatchesWrongFalsely : Prop := valueMatchesRow.holds Try.pinned (OpenSpec.ofChange valueMatchesWrong)

/-- 'wigwaglaw05.ValueTighter': WHATEVER THE INPUT: true; the input reads as it did. -/
def valueTighterSpec : ChangeSpec := { name := "valueTighter", fn := fun _ => fun
  | [d1, d2, d3, d4] => { results := [.lit (.bool true)], args := [d1, d2, d3, d4] }
  | _ => none }
def valueTighterRow : OpenClaim := { program := "ytcanicacdfkaeaa", sum := "e9375a4e921a5897c57a06a3e522042eca2311081667265c8d57c7b54f8ed253", func := "wigwag/wigwaglaw05.ValueTighter", spec := "valueTighter", unfollowed := true, recurses := true, apart := false }
def ValueTighterSaid : Prop := valueTighterRow.holds Try.pinned (OpenSpec.ofChange valueTighterSpec)

/-- ITS FALSE NEIGHBOUR: 'it returns false'. Refute it at one input. -/
def valueTighterWrong : ChangeSpec := { name := "valueTighter", fn := fun _ => fun
  | [d1, d2, d3, d4] => { results := [.lit (.bool false)], args := [d1, d2, d3, d4] }
  | _ => none }
def ValueTighterWrongFalsely : Prop := valueTighterRow.holds Try.pinned (OpenSpec.ofChange valueTighterWrong)

/-- 'wigwaglaw05.ValueParts': WHATEVER THE INPUT: true; the input reads as it did. -/
def valuePartsSpec : ChangeSpec := { name := "valueParts", fn := fun _ => fun
  | [d1, d2, d3, d4, d5, d6] => { results := [.lit (.bool true)], args := [d1, d2, d3, d4, d5, d6] }
  | _ => none }
def valuePartsRow : OpenClaim := { program := "ytcanicacdfkaeaa", sum := "e9375a4e921a5897c57a06a3e522042eca2311081667265c8d57c7b54f8ed253", func := "wigwag/wigwaglaw05.ValueParts", spec := "valueParts", unfollowed := true, recurses := true, apart := false }
def ValuePartsSaid : Prop := valuePartsRow.holds Try.pinned (OpenSpec.ofChange valuePartsSpec)

/-- ITS FALSE NEIGHBOUR: 'it returns false'. Refute it at one input. -/
def valuePartsWrong : ChangeSpec := { name := "valueParts", fn := fun _ => fun
  | [d1, d2, d3, d4, d5, d6] => { results := [.lit (.bool false)], args := [d1, d2, d3, d4, d5, d6] }
  | _ => none }
def ValuePartsWrongFalsely : Prop := valuePartsRow.holds Try.pinned (OpenSpec.ofChange valuePartsWrong)

/-- 'wigwaglaw05.ValueAll': WHATEVER THE INPUT: true; the input reads as it did. -/
def valueAllSpec : ChangeSpec := { name := "valueAll", fn := fun _ => fun
  | [d1, d2, d3] => { results := [.lit (.bool true)], args := [d1, d2, d3] }
  | _ => none }
def valueAllRow : OpenClaim := { program := "ytcanicacdfkaeaa", sum := "e9375a4e921a5897c57a06a3e522042eca2311081667265c8d57c7b54f8ed253", func := "wigwag/wigwaglaw05.ValueAll", spec := "valueAll", unfollowed := true, recurses := true, apart := false }
def ValueAllSaid : Prop := valueAllRow.holds Try.pinned (OpenSpec.ofChange valueAllSpec)

/-- ITS FALSE NEIGHBOUR: 'it returns false'. Refute it at one input. -/
def valueAllWrong : ChangeSpec := { name := "valueAll", fn := fun _ => fun
  | [d1, d2, d3] => { results := [.lit (.bool false)], args := [d1, d2, d3] }
  | _ => none }
def ValueAllWrongFalsely : Prop := valueAllRow.holds Try.pinned (OpenSpec.ofChange valueAllWrong)

/-- 'wigwaglaw05.ValueExact': WHATEVER THE INPUT: true; the input reads as it did. -/
def valueExactSpec : ChangeSpec := { name := "valueExact", fn := fun _ => fun
  | [d1, d2] => { results := [.lit (.bool true)], args := [d1, d2] }
  | _ => none }
def valueExactRow : OpenClaim := { program := "ytcanicacdfkaeaa", sum := "e9375a4e921a5897c57a06a3e522042eca2311081667265c8d57c7b54f8ed253", func := "wigwag/wigwaglaw05.ValueExact", spec := "valueExact", unfollowed := true, recurses := true, apart := false }
def ValueExactSaid : Prop := valueExactRow.holds Try.pinned (OpenSpec.ofChange valueExactSpec)

/-- ITS FALSE NEIGHBOUR: 'it returns false'. Refute it at one input. -/
def valueExactWrong : ChangeSpec := { name := "valueExact", fn := fun _ => fun
  | [d1, d2] => { results := [.lit (.bool false)], args := [d1, d2] }
  | _ => none }
def ValueExactWrongFalsely : Prop := valueExactRow.holds Try.pinned (OpenSpec.ofChange valueExactWrong)

/- THE SECOND FORM. 'bulk': how many values and letters a reading holds, each counted each time it is reached (what is shared counts as often as it is met; a slice's spare places count too). A statement '..UptoSaid' is the law's where the arguments, and the package variables that the reading takes, are together of bulk at most 1048576: NARROWER than '..Said'. Prove '..Said' where nothing that the law and all that it calls make is longer than what came in: it says more and counts as full. Else prove '..UptoSaid'. A law counts once. -/
mutual
def uptoBulk {H : Type} : DataW H → Nat
  | .lit (.string bytes) => bytes.length + 1
  | .lit _ => 1
  | .nil => 1
  | .ptr d => uptoBulk d + 1
  | .slice elems spare => uptoBulkAll elems + uptoBulkAll spare + 1
  | .agg parts => uptoBulkAll parts + 1
  | .iface _ d => uptoBulk d + 1
  | .map entries => uptoBulkEntries entries + 1
  | .held _ => 1
def uptoBulkAll {H : Type} : List (DataW H) → Nat
  | [] => 0
  | d :: r => uptoBulk d + uptoBulkAll r
def uptoBulkEntries {H : Type} : List (Lit × DataW H) → Nat
  | [] => 0
  | x :: r => uptoBulkEntry x + uptoBulkEntries r
def uptoBulkEntry {H : Type} : Lit × DataW H → Nat
  | (.string bytes, d) => bytes.length + uptoBulk d + 1
  | (_, d) => uptoBulk d + 1
 end
def uptoSmall : (H : Type) → List (DataW H) → Bool := fun _ ds => decide (uptoBulkAll ds ≤ 1048576)
def OpenSpec.upto (s : _root_.Go.ChangeSpec) : _root_.Go.OpenSpec := { _root_.Go.OpenSpec.ofChange s with cond := some uptoSmall }

/-- 'wigwaglaw05.ValueMatches', WHERE WHAT IT READS IS OF BULK AT MOST 1048576: true; the input reads as it did. -/
def valueMatchesUptoRow : OpenClaim := { program := "ytcanicacdfkaeaa", sum := "e9375a4e921a5897c57a06a3e522042eca2311081667265c8d57c7b54f8ed253", func := "wigwag/wigwaglaw05.ValueMatches", spec := "valueMatches", unfollowed := true, recurses := true, apart := false, narrowed := true }
def ValueMatchesUptoSaid : Prop := valueMatchesUptoRow.holds Try.pinned (OpenSpec.upto valueMatchesSpec)

/-- 'wigwaglaw05.ValueTighter', WHERE WHAT IT READS IS OF BULK AT MOST 1048576: true; the input reads as it did. -/
def valueTighterUptoRow : OpenClaim := { program := "ytcanicacdfkaeaa", sum := "e9375a4e921a5897c57a06a3e522042eca2311081667265c8d57c7b54f8ed253", func := "wigwag/wigwaglaw05.ValueTighter", spec := "valueTighter", unfollowed := true, recurses := true, apart := false, narrowed := true }
def ValueTighterUptoSaid : Prop := valueTighterUptoRow.holds Try.pinned (OpenSpec.upto valueTighterSpec)

/-- 'wigwaglaw05.ValueParts', WHERE WHAT IT READS IS OF BULK AT MOST 1048576: true; the input reads as it did. -/
def valuePartsUptoRow : OpenClaim := { program := "ytcanicacdfkaeaa", sum := "e9375a4e921a5897c57a06a3e522042eca2311081667265c8d57c7b54f8ed253", func := "wigwag/wigwaglaw05.ValueParts", spec := "valueParts", unfollowed := true, recurses := true, apart := false, narrowed := true }
def ValuePartsUptoSaid : Prop := valuePartsUptoRow.holds Try.pinned (OpenSpec.upto valuePartsSpec)

/-- 'wigwaglaw05.ValueAll', WHERE WHAT IT READS IS OF BULK AT MOST 1048576: true; the input reads as it did. -/
def valueAllUptoRow : OpenClaim := { program := "ytcanicacdfkaeaa", sum := "e9375a4e921a5897c57a06a3e522042eca2311081667265c8d57c7b54f8ed253", func := "wigwag/wigwaglaw05.ValueAll", spec := "valueAll", unfollowed := true, recurses := true, apart := false, narrowed := true }
def ValueAllUptoSaid : Prop := valueAllUptoRow.holds Try.pinned (OpenSpec.upto valueAllSpec)

/-- 'wigwaglaw05.ValueExact', WHERE WHAT IT READS IS OF BULK AT MOST 1048576: true; the input reads as it did. -/
def valueExactUptoRow : OpenClaim := { program := "ytcanicacdfkaeaa", sum := "e9375a4e921a5897c57a06a3e522042eca2311081667265c8d57c7b54f8ed253", func := "wigwag/wigwaglaw05.ValueExact", spec := "valueExact", unfollowed := true, recurses := true, apart := false, narrowed := true }
def ValueExactUptoSaid : Prop := valueExactUptoRow.holds Try.pinned (OpenSpec.upto valueExactSpec)

end Rows
end Go.Proofs.Ytcanicacdfkaeaa
