import Derived.Test.YtddhlmejaobcgaaDoorAm24
import Derived.Test.YtddhlmejaobcgaaDoorChecked
import Derived.LaidLaws
import Derived.LaidHandle
import Derived.Lib.LaidTab
import Derived.Test.YtddhlmejaobcgaaDoorRows
set_option maxRecDepth 100000
set_option linter.unusedVariables false
set_option linter.unusedSimpArgs false
/- What the row says of the library's tables. -/
namespace Go.Proofs.YtddhlmejaobcgaaDoor.As
open Go Go.RowKit Go.ChangeShapes Go.WideShapes
theorem own : ownKnob Tryd.prog.godebug = none := by kernel_rfl
theorem laidOut : laidOutB Tryd.prog = true := by kernel_rfl
abbrev laidE : List (String × DataW Unit) := [("math/bits.deBruijn32tab", Rows.laid_math_bits_deBruijn32tab), ("math/bits.deBruijn64tab", Rows.laid_math_bits_deBruijn64tab), ("internal/strconv.uint64pow10", Rows.laid_internal_strconv_uint64pow10)]
def pow10L : List Int := (List.range 20).map fun (j : Nat) => (10 : Int) ^ j
theorem tabNamed : Tryd.prog.globalNamed "internal/strconv.uint64pow10" = some 0 := by kernel_rfl
theorem tabType : (Tryd.prog.globals[0]?).map (·.type) = some 135 := by kernel_rfl
theorem tabIs : Rows.laid_internal_strconv_uint64pow10 = (Lib.tabData .u64 pow10L : DataW Unit) := by
  unfold Rows.laid_internal_strconv_uint64pow10 Lib.tabData
  congr 1
theorem glob_of_laid {W : World} (h : laidMetH Tryd.prog laidE W) (a : Addr) (v : Value) (ha : Go.Am.glJ a v) : W.cell? a = some v := by
  obtain ⟨j, hj, rfl, rfl⟩ := ha
  have h' : laidMet Tryd.prog laidE W := h
  obtain ⟨ps, ⟨g1, t1, c1, f1, p1, q1, _, _, _, _, ⟨g2, t2, c2, f2, p2, q2, _, _, _, _, ⟨g, t, cs, fuel, p, q, hg, ht, hvar, hd, _, _⟩, _⟩, _⟩, _⟩ := h'
  obtain rfl := Option.some.inj (tabNamed.symm.trans hg)
  obtain rfl := Option.some.inj (tabType.symm.trans ht)
  rw [tabIs] at hd
  have hcs := Lib.cells_of_tab Tryd.underlying135 Tryd.underlying128 (by kernel_rfl) (by kernel_rfl) hd
  have := World.var?_cell hg hvar j
  rw [this, ← Array.getElem?_toList, hcs]
  simp [pow10L, List.getElem?_map, List.getElem?_range hj]
def valsOf : DataW Unit → Array Value
  | .agg l => (l.map fun d => match d with
    | .lit (.int k n) => Value.int k n
    | _ => .nilIface).toArray
  | _ => #[]
def setV (g : Nat) (d : DataW Unit) (w : World) : World :=
  { w with heap := w.heap.modify g fun
      | .cells _ t frozen => .cells (valsOf d) t frozen
      | o => o }
/-- A world that meets the condition. -/
noncomputable def laidWorld (os : Os) : World :=
  setV 1 Rows.laid_math_bits_deBruijn32tab (setV 2 Rows.laid_math_bits_deBruijn64tab (setV 0 Rows.laid_internal_strconv_uint64pow10 (World.holding Tryd.prog os ⟨#[], #[], []⟩)))
theorem laidWorld_met (os : Os) (args : Array Value) : laidMetH Tryd.prog laidE ((laidWorld os).forCall (fun _ _ => 0) ⟨#[], args, []⟩).memory :=
  show laidMet Tryd.prog laidE _ from laidMet_of_run' 10 (by kernel_rfl) (by kernel_rfl)
end Go.Proofs.YtddhlmejaobcgaaDoor.As
