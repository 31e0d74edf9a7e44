import Derived.Test.YtbjjimllnffcpaaGreatDoorGNL
import Derived.Test.YtbjjimllnffcpaaGreatDoorAm19
import Derived.Test.YtbjjimllnffcpaaGreatDoorChecked
set_option maxRecDepth 100000
set_option linter.unusedVariables false
set_option linter.unusedSimpArgs false
/- The parameters of the law. -/
namespace Go.Proofs.YtbjjimllnffcpaaGreatDoor.Gr
open Go Go.Am Va
theorem tc_i64 {n : Nat} {cs : List D} (h : TC Tryz.prog (n + 1) 3 cs) : ∃ m : I64, cs = [nI m.1] := by
  unfold TC at h
  rw [Tryz.underlying3] at h
  obtain ⟨m, rfl, hw⟩ := h
  have hw : (decide (IntKind.min .i64 ≤ m) && decide (m ≤ IntKind.max .i64)) = true := hw
  simp only [Bool.and_eq_true, decide_eq_true_eq] at hw
  exact ⟨⟨m, hw⟩, rfl⟩
theorem tc_int {n : Nat} {cs : List D} (h : TC Tryz.prog (n + 1) 3 cs) : ∃ m, cs = [nI m] := by
  obtain ⟨m, rfl⟩ := tc_i64 h
  exact ⟨_, rfl⟩
theorem tc_str {n : Nat} {cs : List D} (h : TC Tryz.prog (n + 1) 9 cs) : ∃ m, cs = [sD m] := by
  unfold TC at h
  rw [Tryz.underlying9] at h
  obtain ⟨m, rfl, _⟩ := h
  exact ⟨m, rfl⟩
theorem arg_int (m : Int) : argD Tryz.prog 3 [nI m] = nI m := by unfold argD; rw [Tryz.underlying3]
theorem arg_str (m : ByteArray) : argD Tryz.prog 9 [sD m] = sD m := by unfold argD; rw [Tryz.underlying9]
theorem tc_iv {n : Nat} {cs : List D} (h : TC Tryz.prog (n + 2) 57 cs) : ∃ l i : I64, cs = [nI l.1, nI i.1] := by
  unfold TC at h
  rw [Tryz.underlying57] at h
  obtain ⟨parts, rfl, hp⟩ := h
  obtain ⟨a, r, rfl, h1, hp⟩ := all2_cons hp
  obtain ⟨b, r, rfl, h2, hp⟩ := all2_cons hp
  obtain rfl := all2_nil hp
  obtain ⟨l, rfl⟩ := tc_i64 h1
  obtain ⟨i, rfl⟩ := tc_i64 h2
  exact ⟨l, i, rfl⟩
theorem arg_iv (cs : List D) : argD Tryz.prog 57 cs = .agg cs := by unfold argD; rw [Tryz.underlying57]
end Go.Proofs.YtbjjimllnffcpaaGreatDoor.Gr
