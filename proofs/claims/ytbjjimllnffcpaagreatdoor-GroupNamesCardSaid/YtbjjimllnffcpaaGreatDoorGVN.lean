import Derived.Test.YtbjjimllnffcpaaGreatDoorAm24
import Derived.Test.YtbjjimllnffcpaaGreatDoorChecked
import Derived.LaidLaws
import Derived.LaidHandle
import Derived.Lib.LaidTab
import Derived.LaidMore
import Derived.Lay
import Derived.MakeChecks
import Derived.Test.YtbjjimllnffcpaaGreatDoorRows
set_option maxRecDepth 100000
set_option linter.unusedVariables false
set_option linter.unusedSimpArgs false
/- What the row says of the library's tables and sentinels. -/
namespace Go.Proofs.YtbjjimllnffcpaaGreatDoor.As
open Go Go.RowKit Go.ChangeShapes Go.WideShapes
theorem own : ownKnob Tryz.prog.godebug = none := by kernel_rfl
theorem laidOut : laidOutB Tryz.prog = true := by kernel_rfl
abbrev laidE : List (String × DataW Unit) := [("math/bits.deBruijn32tab", Rows.laid_math_bits_deBruijn32tab), ("math/bits.deBruijn64tab", Rows.laid_math_bits_deBruijn64tab), ("internal/strconv.uint64pow10", Rows.laid_internal_strconv_uint64pow10), ("unicode/utf8.acceptRanges", Rows.laid_unicode_utf8_acceptRanges), ("strconv.ErrRange", Rows.laid_strconv_ErrRange), ("strconv.ErrSyntax", Rows.laid_strconv_ErrSyntax), ("unicode/utf8.first", Rows.laid_unicode_utf8_first)]
def pow10L : List Int := (List.range 20).map fun (j : Nat) => (10 : Int) ^ j
theorem tabNamed : Tryz.prog.globalNamed "internal/strconv.uint64pow10" = some 4 := by kernel_rfl
theorem tabType : (Tryz.prog.globals[4]?).map (·.type) = some 191 := by kernel_rfl
theorem rangeNamed : Tryz.prog.globalNamed "strconv.ErrRange" = some 2 := by kernel_rfl
theorem rangeType : (Tryz.prog.globals[2]?).map (·.type) = some 39 := by kernel_rfl
theorem syntaxNamed : Tryz.prog.globalNamed "strconv.ErrSyntax" = some 1 := by kernel_rfl
theorem syntaxType : (Tryz.prog.globals[1]?).map (·.type) = some 39 := by kernel_rfl
theorem tabIs : Rows.laid_internal_strconv_uint64pow10 = (Lib.tabData .u64 pow10L : DataW Unit) := by
  unfold Rows.laid_internal_strconv_uint64pow10 Lib.tabData
  congr 1
theorem iface_of_trod {H : Type} {enc : TypeId × Value → H} {P : Program} {w : World} {base : Nat} {sp : Nat → Bool} {held : Bool} {fuel : Nat} {t : TypeId} {m : Array (String × TypeId)} {cs : List Value} {x : DataW H × List MemPlace}
    (ht : P.underlying t = some (.interface m)) (h : DataW.trod enc P w base sp held fuel t cs = some x) : ∃ c, cs = [c] ∧ (c = .nilIface ∨ ∃ u v, c = .iface u v) := by
  cases fuel with
  | zero => simp [DataW.trod] at h
  | succ fuel =>
    unfold DataW.trod at h
    rw [ht] at h
    rcases cs with _ | ⟨c, _ | ⟨c2, r⟩⟩
    · simp at h
    · cases c
      all_goals first
        | exact ⟨_, rfl, .inl rfl⟩
        | exact ⟨_, rfl, .inr ⟨_, _, rfl⟩⟩
        | simp at h
    · simp at h
theorem laid_parts {W : World} (h : laidMetH Tryz.prog laidE W) : (∀ j : Nat, j < 20 → W.cell? ⟨4, j, none⟩ = some (.int .u64 (10 ^ j))) ∧ (∀ g : Nat, g = 1 ∨ g = 2 → ∃ v, W.cell? ⟨g, 0, none⟩ = some v ∧ (v = .nilIface ∨ ∃ t x, v = .iface t x)) := by
  rw [MakeChecks.laidMetH_plain _ _ _ (by kernel_rfl)] at h
  obtain ⟨ps, ⟨g1, t1, c1, f1, p1, q1, _, _, _, _, ⟨g2, t2, c2, f2, p2, q2, _, _, _, _, ⟨g, t, cs, fuel, p, q, hg, ht, hvar, hd, ⟨g4, t4, c4, f4, p4, q4, _, _, _, _, ⟨g5, t5, c5, f5, p5, q5, hg5, ht5, hvar5, hd5, ⟨g6, t6, c6, f6, p6, q6, hg6, ht6, hvar6, hd6, _, _⟩, _⟩, _⟩, _⟩, _⟩, _⟩, _⟩ := h
  refine ⟨fun j hj => ?_, fun g' hg' => ?_⟩
  · obtain rfl := Option.some.inj (tabNamed.symm.trans hg)
    obtain rfl := Option.some.inj (tabType.symm.trans ht)
    rw [tabIs] at hd
    have hcs := Lib.cells_of_tab Tryz.underlying191 Tryz.underlying66 (by kernel_rfl) (by kernel_rfl) hd
    have := World.var?_cell hg hvar j
    rw [this, ← Array.getElem?_toList, hcs]
    simp [pow10L, List.getElem?_map, List.getElem?_range hj]
  · rcases hg' with rfl | rfl
    · obtain rfl := Option.some.inj (syntaxNamed.symm.trans hg6)
      obtain rfl := Option.some.inj (syntaxType.symm.trans ht6)
      obtain ⟨c, hc, k⟩ := iface_of_trod Tryz.underlying39 hd6
      refine ⟨c, ?_, k⟩
      rw [World.var?_cell hg6 hvar6 0, ← Array.getElem?_toList, hc]
      rfl
    · obtain rfl := Option.some.inj (rangeNamed.symm.trans hg5)
      obtain rfl := Option.some.inj (rangeType.symm.trans ht5)
      obtain ⟨c, hc, k⟩ := iface_of_trod Tryz.underlying39 hd5
      refine ⟨c, ?_, k⟩
      rw [World.var?_cell hg5 hvar5 0, ← Array.getElem?_toList, hc]
      rfl
theorem glob_of_laid {W : World} (h : laidMetH Tryz.prog laidE W) (a : Addr) (v : Value) (ha : Go.Am.glJ a v) : W.cell? a = some v := by
  obtain ⟨j, hj, rfl, rfl⟩ := ha
  exact (laid_parts h).1 j hj
theorem sent_of_laid {W : World} (h : laidMetH Tryz.prog laidE W) (a : Addr) (ha : Go.Am.glS a) : ∃ v, W.cell? a = some v ∧ (v = .nilIface ∨ ∃ t x, v = .iface t x) := by
  rcases ha with rfl | rfl
  · exact (laid_parts h).2 1 (.inl rfl)
  · exact (laid_parts h).2 2 (.inr rfl)
end Go.Proofs.YtbjjimllnffcpaaGreatDoor.As
