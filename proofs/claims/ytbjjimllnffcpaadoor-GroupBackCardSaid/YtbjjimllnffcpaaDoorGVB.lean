import Derived.Test.YtbjjimllnffcpaaDoorAm24
import Derived.Test.YtbjjimllnffcpaaDoorChecked
import Derived.LaidLaws
import Derived.LaidHandle
import Derived.Lib.LaidTab
import Derived.LaidMore
import Derived.Lay
import Derived.MakeChecks
import Derived.Test.YtbjjimllnffcpaaDoorRows
set_option maxRecDepth 100000
set_option linter.unusedVariables false
set_option linter.unusedSimpArgs false
/- What the row says of the library's tables and sentinels. -/
namespace Go.Proofs.YtbjjimllnffcpaaDoor.As
open Go Go.RowKit Go.ChangeShapes Go.WideShapes
theorem own : ownKnob Tryd.prog.godebug = none := by kernel_rfl
theorem laidOut : laidOutB Tryd.prog = true := by kernel_rfl
abbrev laidE : List (String × DataW Unit) := [("math/bits.deBruijn32tab", Rows.laid_math_bits_deBruijn32tab), ("math/bits.deBruijn64tab", Rows.laid_math_bits_deBruijn64tab), ("internal/strconv.uint64pow10", Rows.laid_internal_strconv_uint64pow10), ("unicode/utf8.acceptRanges", Rows.laid_unicode_utf8_acceptRanges), ("strconv.ErrRange", Rows.laid_strconv_ErrRange), ("strconv.ErrSyntax", Rows.laid_strconv_ErrSyntax), ("unicode/utf8.first", Rows.laid_unicode_utf8_first)]
def pow10L : List Int := (List.range 20).map fun (j : Nat) => (10 : Int) ^ j
theorem tabNamed : Tryd.prog.globalNamed "internal/strconv.uint64pow10" = some 2 := by kernel_rfl
theorem tabType : (Tryd.prog.globals[2]?).map (·.type) = some 133 := by kernel_rfl
theorem tabIs : Rows.laid_internal_strconv_uint64pow10 = (Lib.tabData .u64 pow10L : DataW Unit) := by
  unfold Rows.laid_internal_strconv_uint64pow10 Lib.tabData
  congr 1
theorem glob_of_laid {W : World} (h : laidMetH Tryd.prog laidE W) (a : Addr) (v : Value) (ha : Go.Am.glJ a v) : W.cell? a = some v := by
  obtain ⟨j, hj, rfl, rfl⟩ := ha
  rw [MakeChecks.laidMetH_plain _ _ _ (by kernel_rfl)] at h
  obtain ⟨ps, ⟨g1, t1, c1, f1, p1, q1, _, _, _, _, ⟨g2, t2, c2, f2, p2, q2, _, _, _, _, ⟨g, t, cs, fuel, p, q, hg, ht, hvar, hd, _, _⟩, _⟩, _⟩, _⟩ := h
  obtain rfl := Option.some.inj (tabNamed.symm.trans hg)
  obtain rfl := Option.some.inj (tabType.symm.trans ht)
  rw [tabIs] at hd
  have hcs := Lib.cells_of_tab Tryd.underlying133 Tryd.underlying117 (by kernel_rfl) (by kernel_rfl) hd
  have := World.var?_cell hg hvar j
  rw [this, ← Array.getElem?_toList, hcs]
  simp [pow10L, List.getElem?_map, List.getElem?_range hj]
end Go.Proofs.YtbjjimllnffcpaaDoor.As
