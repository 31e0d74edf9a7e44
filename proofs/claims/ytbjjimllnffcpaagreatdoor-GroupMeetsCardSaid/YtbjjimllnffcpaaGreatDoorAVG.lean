import Derived.Test.YtbjjimllnffcpaaGreatDoorA
import Derived.LaidLaws
import Derived.LaidHandle
import Derived.Stop.Joined
import Derived.Lib.LaidTab
import Derived.Test.YtbjjimllnffcpaaGreatDoorRows
set_option maxRecDepth 100000
set_option linter.unusedVariables false
set_option linter.unusedSimpArgs false
/- What the row says of the library's tables and of errors.errorType. -/
namespace Go.Proofs.YtbjjimllnffcpaaGreatDoor.As
open Go Go.RowKit Go.ChangeShapes Go.WideShapes
theorem own : ownKnob Tryz.prog.godebug = none := by kernel_rfl
theorem laidOut : laidOutB Tryz.prog = true := by kernel_rfl
theorem et : Tryz.prog.globalNamed "errors.errorType" = some 0 := by kernel_rfl
theorem rt : (Tryz.prog.cutTypes.find? (·.1 == "internal/reflectlite.rtype")).map (·.2) = some 144 := by kernel_rfl
theorem oneRow : ((List.range 233).filter fun t => Tryz.prog.rowNamed t [101, 114, 114, 111, 114]) = [39] := by kernel_rfl
theorem typesSize : Tryz.prog.types.size = 233 := by kernel_rfl
abbrev laidT : List (String × DataW Unit) := [("math/bits.deBruijn32tab", Rows.laid_math_bits_deBruijn32tab), ("math/bits.deBruijn64tab", Rows.laid_math_bits_deBruijn64tab), ("internal/strconv.uint64pow10", Rows.laid_internal_strconv_uint64pow10)]
abbrev laidO : List (String × DataW Unit) := [("errors.errorType", .iface "internal/reflectlite.rtype" (.agg [.ptr (.lit (.string [101, 114, 114, 111, 114]))]))]
abbrev laidE : List (String × DataW Unit) := [("math/bits.deBruijn32tab", Rows.laid_math_bits_deBruijn32tab), ("math/bits.deBruijn64tab", Rows.laid_math_bits_deBruijn64tab), ("internal/strconv.uint64pow10", Rows.laid_internal_strconv_uint64pow10), ("errors.errorType", .iface "internal/reflectlite.rtype" (.agg [.ptr (.lit (.string [101, 114, 114, 111, 114]))]))]
theorem handle_of_laid {W : World} (h' : handlesMet Tryz.prog laidO W) : W.cell? ⟨0, 0, none⟩ = some (.iface 144 (.agg #[.pointer (some ⟨9, 39, none⟩)])) := by
  obtain ⟨name, u, ty, e1, e2, e3, e4, e5⟩ := h' _ (List.mem_singleton.2 rfl)
  have en : name = [101, 114, 114, 111, 114] := (Option.some.inj e1).symm
  subst en
  obtain rfl := Option.some.inj (rt.symm.trans e2)
  have hm : ty ∈ (List.range 233).filter fun t => Tryz.prog.rowNamed t [101, 114, 114, 111, 114] := List.mem_filter.2 ⟨List.mem_range.2 (by rw [← typesSize]; exact e3), e4⟩
  rw [oneRow] at hm
  obtain rfl := List.mem_singleton.1 hm
  have hh : typeHandle Tryz.prog 39 = .pointer (some ⟨9, 39, none⟩) := by kernel_rfl
  rw [hh] at e5
  simpa using World.var?_cell et e5 0
def pow10L : List Int := (List.range 20).map fun (j : Nat) => (10 : Int) ^ j
theorem tabNamed : Tryz.prog.globalNamed "internal/strconv.uint64pow10" = some 4 := by kernel_rfl
theorem tabType : (Tryz.prog.globals[4]?).map (·.type) = some 191 := by kernel_rfl
theorem tabIs : Rows.laid_internal_strconv_uint64pow10 = (Lib.tabData .u64 pow10L : DataW Unit) := by
  unfold Rows.laid_internal_strconv_uint64pow10 Lib.tabData
  congr 1
theorem glob_of_laid {W : World} (h : laidMetH Tryz.prog laidE W) (a : Addr) (v : Value) (ha : Go.Am.glJ a v) : W.cell? a = some v := by
  have h2 : laidMet Tryz.prog laidT W ∧ handlesMet Tryz.prog laidO W := h
  rcases ha with ⟨rfl, rfl⟩ | ⟨j, hj, rfl, rfl⟩
  · exact handle_of_laid h2.2
  · obtain ⟨ps, ⟨g1, t1, c1, f1, p1, q1, _, _, _, _, ⟨g2, t2, c2, f2, p2, q2, _, _, _, _, ⟨g, t, cs, fuel, p, q, hg, ht, hvar, hd, _, _⟩, _⟩, _⟩, _⟩ := h2.1
    obtain rfl := Option.some.inj (tabNamed.symm.trans hg)
    obtain rfl := Option.some.inj (tabType.symm.trans ht)
    rw [tabIs] at hd
    have hcs := Lib.cells_of_tab Tryz.underlying191 Tryz.underlying66 (by kernel_rfl) (by kernel_rfl) hd
    have := World.var?_cell hg hvar j
    rw [this, ← Array.getElem?_toList, hcs]
    simp [pow10L, List.getElem?_map, List.getElem?_range hj]
def valsOf : DataW Unit → Array Value
  | .agg l => (l.map fun d => match d with
    | .lit (.int k n) => Value.int k n
    | _ => .nilIface).toArray
  | _ => #[]
def setA (g : Nat) (vs : Array Value) (w : World) : World :=
  { w with heap := w.heap.modify g fun
      | .cells _ t frozen => .cells vs t frozen
      | o => o }
/-- A world that meets the condition. -/
noncomputable def laidWorld (os : Os) : World :=
  setA 0 #[.iface 144 (.agg #[.pointer (some ⟨9, 39, none⟩)])] (setA 7 (valsOf Rows.laid_math_bits_deBruijn32tab) (setA 8 (valsOf Rows.laid_math_bits_deBruijn64tab) (setA 4 (valsOf Rows.laid_internal_strconv_uint64pow10) (World.holding Tryz.prog os ⟨#[], #[], []⟩))))
theorem laidWorld_met (os : Os) (args : Array Value) : laidMetH Tryz.prog laidE ((laidWorld os).forCall (fun _ _ => 0) ⟨#[], args, []⟩).memory :=
  laidMetH_of_parts (show laidMet Tryz.prog laidT _ from laidMet_of_run' 10 (by kernel_rfl) (by kernel_rfl)) (by kernel_rfl)
end Go.Proofs.YtbjjimllnffcpaaGreatDoor.As
