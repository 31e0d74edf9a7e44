/-
  NARROWER THAN 'FOR EVERY INPUT', by the rows' own cells (each row's printed sentence says how): CodeCut: laid · CodeTexts: laid · CodeReads: laid · CodeStops: laid.
  DERIVED. THE GIVEN ROWS OF THIS SEAT. 4 by the template 'for every input the law returns true; each argument reads behind the call as it read before'; 0 by the template 'total and deterministic' (their statements: YtgbhfnbehmlohaaDoorTotals.lean).
  GIVEN WITH THE SEED: the statements are not yours to turn. If you find one false, say at which input.
  Laid BY PROGRAM, IN A SANDBOX (cutbox-rows.mjs): the forced cells as the released guide's own fill.sh prints them over the translation 67002a3b38d695e7… (all of the seat's roots in one cut). By AI agents, Wed Nov 11 2026. No macro, syntax, notation, axiom, sorry.
-/
import Derived.Test.YtgbhfnbehmlohaaDoorChecked
import GoSem.Claim
import GoSem.ClaimJoined
import GoSem.ClaimMapViews
import Derived.JoinedTies
import Derived.KernelRfl
namespace Go.Proofs.YtgbhfnbehmlohaaDoor
/- THE CELL 'sum', in the pinned program and in every row, IS THE sha256 OF THE DUMP (.gsa) THAT YtgbhfnbehmlohaaDoorProg.lean LOADS. Nothing in Lean hashes anything: it is a label: what it is worth is what the hold of that sum in a sandbox is worth. -/
noncomputable def Tryd.pinned : Pinned := { name := "ytgbhfnbehmlohaadoor", sum := "67002a3b38d695e7c875683f459fb7055471d25188b0dbbaf50d20a1e0abc5a3", checked := Tryd.checked }
namespace Rows
def none {H : Type} : Left H := { results := [], args := [] }

/- WHAT THE LISTED PACKAGE-LEVEL VARIABLES READ AS WHEN THE CALL BEGINS. Each datum BY PROGRAM (the guide's laid-datum.mjs) off the statement by which the dump's own 'gosem.cut.vars' lays the variable. In a bare row this is a premise. The card (YtgbhfnbehmlohaaDoorCards.lean) ties it to the program's text. -/
def laid_errors_errorType {H : Type} : DataW H := .iface "internal/reflectlite.rtype" (.agg [.ptr (.lit (.string [101, 114, 114, 111, 114]))])

/-- 'wigwaglaw02.CodeCut': WHATEVER THE INPUT: true; the input reads as it did. -/
def codeCutSpec : ChangeSpec := { name := "codeCut", fn := fun _ => fun
  | [d1, d2] => { results := [.lit (.bool true)], args := [d1, d2] }
  | _ => none }
def codeCutRow : OpenClaim := { program := "ytgbhfnbehmlohaadoor", sum := "67002a3b38d695e7c875683f459fb7055471d25188b0dbbaf50d20a1e0abc5a3", func := "wigwag/wigwaglaw02.CodeCut", spec := "codeCut", inPlace := ["internal/reflectlite.TypeOf", "internal/reflectlite.ValueOf", "(internal/reflectlite.Value).Type", "(internal/reflectlite.Value).IsNil", "(internal/reflectlite.Value).Elem", "(internal/reflectlite.Value).Set"], unfollowed := true, recurses := true, named := ["errors.errorType"], apart := false, laid := [("errors.errorType", laid_errors_errorType)] }
def CodeCutSaid : Prop := codeCutRow.holds Tryd.pinned (OpenSpec.ofChange codeCutSpec)

/-- ITS FALSE NEIGHBOUR: 'it returns false'. Refute it at one input. -/
def codeCutWrong : ChangeSpec := { name := "codeCut", fn := fun _ => fun
  | [d1, d2] => { results := [.lit (.bool false)], args := [d1, d2] }
  | _ => none }
def CodeCutWrongFalsely : Prop := codeCutRow.holds Tryd.pinned (OpenSpec.ofChange codeCutWrong)

/-- 'wigwaglaw02.CodeTexts': WHATEVER THE INPUT: true; the input reads as it did. -/
def codeTextsSpec : ChangeSpec := { name := "codeTexts", fn := fun _ => fun
  | [d1, d2] => { results := [.lit (.bool true)], args := [d1, d2] }
  | _ => none }
def codeTextsRow : OpenClaim := { program := "ytgbhfnbehmlohaadoor", sum := "67002a3b38d695e7c875683f459fb7055471d25188b0dbbaf50d20a1e0abc5a3", func := "wigwag/wigwaglaw02.CodeTexts", spec := "codeTexts", inPlace := ["internal/reflectlite.TypeOf", "internal/reflectlite.ValueOf", "(internal/reflectlite.Value).Type", "(internal/reflectlite.Value).IsNil", "(internal/reflectlite.Value).Elem", "(internal/reflectlite.Value).Set"], unfollowed := true, recurses := true, named := ["errors.errorType"], apart := false, laid := [("errors.errorType", laid_errors_errorType)] }
def CodeTextsSaid : Prop := codeTextsRow.holds Tryd.pinned (OpenSpec.ofChange codeTextsSpec)

/-- ITS FALSE NEIGHBOUR: 'it returns false'. Refute it at one input. -/
def codeTextsWrong : ChangeSpec := { name := "codeTexts", fn := fun _ => fun
  | [d1, d2] => { results := [.lit (.bool false)], args := [d1, d2] }
  | _ => none }
def CodeTextsWrongFalsely : Prop := codeTextsRow.holds Tryd.pinned (OpenSpec.ofChange codeTextsWrong)

/-- 'wigwaglaw02.CodeReads': WHATEVER THE INPUT: true; the input reads as it did. -/
def codeReadsSpec : ChangeSpec := { name := "codeReads", fn := fun _ => fun
  | [d1, d2] => { results := [.lit (.bool true)], args := [d1, d2] }
  | _ => none }
def codeReadsRow : OpenClaim := { program := "ytgbhfnbehmlohaadoor", sum := "67002a3b38d695e7c875683f459fb7055471d25188b0dbbaf50d20a1e0abc5a3", func := "wigwag/wigwaglaw02.CodeReads", spec := "codeReads", inPlace := ["internal/reflectlite.TypeOf", "internal/reflectlite.ValueOf", "(internal/reflectlite.Value).Type", "(internal/reflectlite.Value).IsNil", "(internal/reflectlite.Value).Elem", "(internal/reflectlite.Value).Set"], unfollowed := true, recurses := true, named := ["errors.errorType"], apart := false, laid := [("errors.errorType", laid_errors_errorType)] }
def CodeReadsSaid : Prop := codeReadsRow.holds Tryd.pinned (OpenSpec.ofChange codeReadsSpec)

/-- ITS FALSE NEIGHBOUR: 'it returns false'. Refute it at one input. -/
def codeReadsWrong : ChangeSpec := { name := "codeReads", fn := fun _ => fun
  | [d1, d2] => { results := [.lit (.bool false)], args := [d1, d2] }
  | _ => none }
def CodeReadsWrongFalsely : Prop := codeReadsRow.holds Tryd.pinned (OpenSpec.ofChange codeReadsWrong)

/-- 'wigwaglaw02.CodeStops': WHATEVER THE INPUT: true; the input reads as it did. -/
def codeStopsSpec : ChangeSpec := { name := "codeStops", fn := fun _ => fun
  | [d1, d2] => { results := [.lit (.bool true)], args := [d1, d2] }
  | _ => none }
def codeStopsRow : OpenClaim := { program := "ytgbhfnbehmlohaadoor", sum := "67002a3b38d695e7c875683f459fb7055471d25188b0dbbaf50d20a1e0abc5a3", func := "wigwag/wigwaglaw02.CodeStops", spec := "codeStops", inPlace := ["internal/reflectlite.ValueOf", "(internal/reflectlite.Value).Type", "(internal/reflectlite.Value).IsNil", "internal/reflectlite.TypeOf", "(internal/reflectlite.Value).Elem", "(internal/reflectlite.Value).Set"], unfollowed := true, recurses := true, named := ["errors.errorType"], apart := false, laid := [("errors.errorType", laid_errors_errorType)] }
def CodeStopsSaid : Prop := codeStopsRow.holds Tryd.pinned (OpenSpec.ofChange codeStopsSpec)

/-- ITS FALSE NEIGHBOUR: 'it returns false'. Refute it at one input. -/
def codeStopsWrong : ChangeSpec := { name := "codeStops", fn := fun _ => fun
  | [d1, d2] => { results := [.lit (.bool false)], args := [d1, d2] }
  | _ => none }
def CodeStopsWrongFalsely : Prop := codeStopsRow.holds Tryd.pinned (OpenSpec.ofChange codeStopsWrong)

/- THE SECOND FORM. 'bulk': how many values and letters a reading holds, each counted each time it is reached (what is shared counts as often as it is met; a slice's spare places count too). A statement '..UptoSaid' is the law's where the arguments, and the package variables that the reading takes, are together of bulk at most 1048576: NARROWER than '..Said'. Prove '..Said' where nothing that the law and all that it calls make is longer than what came in: it says more and counts as full. Else prove '..UptoSaid'. A law counts once. -/
mutual
def uptoBulk {H : Type} : DataW H → Nat
  | .lit (.string bytes) => bytes.length + 1
  | .lit _ => 1
  | .nil => 1
  | .ptr d => uptoBulk d + 1
  | .slice elems spare => uptoBulkAll elems + uptoBulkAll spare + 1
  | .agg parts => uptoBulkAll parts + 1
  | .iface _ d => uptoBulk d + 1
  | .map entries => uptoBulkEntries entries + 1
  | .held _ => 1
def uptoBulkAll {H : Type} : List (DataW H) → Nat
  | [] => 0
  | d :: r => uptoBulk d + uptoBulkAll r
def uptoBulkEntries {H : Type} : List (Lit × DataW H) → Nat
  | [] => 0
  | x :: r => uptoBulkEntry x + uptoBulkEntries r
def uptoBulkEntry {H : Type} : Lit × DataW H → Nat
  | (.string bytes, d) => bytes.length + uptoBulk d + 1
  | (_, d) => uptoBulk d + 1
 end
def uptoSmall : (H : Type) → List (DataW H) → Bool := fun _ ds => decide (uptoBulkAll ds ≤ 1048576)
def OpenSpec.upto (s : _root_.Go.ChangeSpec) : _root_.Go.OpenSpec := { _root_.Go.OpenSpec.ofChange s with cond := some uptoSmall }

/-- 'wigwaglaw02.CodeCut', WHERE WHAT IT READS IS OF BULK AT MOST 1048576: true; the input reads as it did. -/
def codeCutUptoRow : OpenClaim := { program := "ytgbhfnbehmlohaadoor", sum := "67002a3b38d695e7c875683f459fb7055471d25188b0dbbaf50d20a1e0abc5a3", func := "wigwag/wigwaglaw02.CodeCut", spec := "codeCut", inPlace := ["internal/reflectlite.TypeOf", "internal/reflectlite.ValueOf", "(internal/reflectlite.Value).Type", "(internal/reflectlite.Value).IsNil", "(internal/reflectlite.Value).Elem", "(internal/reflectlite.Value).Set"], unfollowed := true, recurses := true, named := ["errors.errorType"], apart := false, laid := [("errors.errorType", laid_errors_errorType)], narrowed := true }
def CodeCutUptoSaid : Prop := codeCutUptoRow.holds Tryd.pinned (OpenSpec.upto codeCutSpec)

/-- 'wigwaglaw02.CodeTexts', WHERE WHAT IT READS IS OF BULK AT MOST 1048576: true; the input reads as it did. -/
def codeTextsUptoRow : OpenClaim := { program := "ytgbhfnbehmlohaadoor", sum := "67002a3b38d695e7c875683f459fb7055471d25188b0dbbaf50d20a1e0abc5a3", func := "wigwag/wigwaglaw02.CodeTexts", spec := "codeTexts", inPlace := ["internal/reflectlite.TypeOf", "internal/reflectlite.ValueOf", "(internal/reflectlite.Value).Type", "(internal/reflectlite.Value).IsNil", "(internal/reflectlite.Value).Elem", "(internal/reflectlite.Value).Set"], unfollowed := true, recurses := true, named := ["errors.errorType"], apart := false, laid := [("errors.errorType", laid_errors_errorType)], narrowed := true }
def CodeTextsUptoSaid : Prop := codeTextsUptoRow.holds Tryd.pinned (OpenSpec.upto codeTextsSpec)

/-- 'wigwaglaw02.CodeReads', WHERE WHAT IT READS IS OF BULK AT MOST 1048576: true; the input reads as it did. -/
def codeReadsUptoRow : OpenClaim := { program := "ytgbhfnbehmlohaadoor", sum := "67002a3b38d695e7c875683f459fb7055471d25188b0dbbaf50d20a1e0abc5a3", func := "wigwag/wigwaglaw02.CodeReads", spec := "codeReads", inPlace := ["internal/reflectlite.TypeOf", "internal/reflectlite.ValueOf", "(internal/reflectlite.Value).Type", "(internal/reflectlite.Value).IsNil", "(internal/reflectlite.Value).Elem", "(internal/reflectlite.Value).Set"], unfollowed := true, recurses := true, named := ["errors.errorType"], apart := false, laid := [("errors.errorType", laid_errors_errorType)], narrowed := true }
def CodeReadsUptoSaid : Prop := codeReadsUptoRow.holds Tryd.pinned (OpenSpec.upto codeReadsSpec)

/-- 'wigwaglaw02.CodeStops', WHERE WHAT IT READS IS OF BULK AT MOST 1048576: true; the input reads as it did. -/
def codeStopsUptoRow : OpenClaim := { program := "ytgbhfnbehmlohaadoor", sum := "67002a3b38d695e7c875683f459fb7055471d25188b0dbbaf50d20a1e0abc5a3", func := "wigwag/wigwaglaw02.CodeStops", spec := "codeStops", inPlace := ["internal/reflectlite.ValueOf", "(internal/reflectlite.Value).Type", "(internal/reflectlite.Value).IsNil", "internal/reflectlite.TypeOf", "(internal/reflectlite.Value).Elem", "(internal/reflectlite.Value).Set"], unfollowed := true, recurses := true, named := ["errors.errorType"], apart := false, laid := [("errors.errorType", laid_errors_errorType)], narrowed := true }
def CodeStopsUptoSaid : Prop := codeStopsUptoRow.holds Tryd.pinned (OpenSpec.upto codeStopsSpec)

end Rows
end Go.Proofs.YtgbhfnbehmlohaaDoor
