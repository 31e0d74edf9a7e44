import Derived.Test.YtemabpapfkplgaaDoorBI
import Derived.Test.YtemabpapfkplgaaDoorAm19
import Derived.Test.YtemabpapfkplgaaDoorChecked
set_option maxRecDepth 100000
set_option linter.unusedVariables false
set_option linter.unusedSimpArgs false
/- Layer 3: the law's parameter (calls). -/
namespace Go.Proofs.YtemabpapfkplgaaDoor.Bg
open Go Go.Am
theorem tc_str {n : Nat} {cs : List D} (h : TC Tryd.prog (n + 1) 9 cs) : ∃ m, cs = [sD m] := by
  unfold TC at h
  rw [Tryd.underlying9] at h
  obtain ⟨m, rfl, _⟩ := h
  exact ⟨m, rfl⟩
theorem tc_int {n : Nat} {cs : List D} (h : TC Tryd.prog (n + 1) 3 cs) : ∃ m, cs = [nI m] := by
  unfold TC at h
  rw [Tryd.underlying3] at h
  obtain ⟨m, rfl, _⟩ := h
  exact ⟨m, rfl⟩
theorem tc_ac {n : Nat} {cs : List D} (h : TC Tryd.prog (n + 2) 31 cs) : ∃ t : Act, cs = acC t := by
  unfold TC at h
  rw [Tryd.underlying31] at h
  obtain ⟨parts, rfl, hp⟩ := h
  obtain ⟨a, r, rfl, h1, hp⟩ := all2_cons hp
  obtain ⟨b, r, rfl, h2, hp⟩ := all2_cons hp
  obtain ⟨c, r, rfl, h3, hp⟩ := all2_cons hp
  obtain ⟨d, r, rfl, h4, hp⟩ := all2_cons hp
  obtain rfl := all2_nil hp
  obtain ⟨a, rfl⟩ := tc_int h1
  obtain ⟨b, rfl⟩ := tc_int h2
  obtain ⟨c, rfl⟩ := tc_int h3
  obtain ⟨d, rfl⟩ := tc_str h4
  exact ⟨⟨a, b, c, d⟩, rfl⟩
theorem tc_acs {n : Nat} {cs : List D} (h : TC Tryd.prog (n + 3) 22 cs) : ∃ l : List Act, cs = [.sl l.length (flat acC l)] := by
  unfold TC at h
  rw [Tryd.underlying22] at h
  rcases h with rfl | ⟨parts, rfl, hlen, hp⟩
  · exact ⟨[], rfl⟩
  · clear hlen
    suffices ∃ l : List Act, l.length = parts.length ∧ flat acC l = parts.flatten by
      obtain ⟨l, h1, h2⟩ := this
      exact ⟨l, by rw [h1, h2]⟩
    induction parts with
    | nil => exact ⟨[], rfl, rfl⟩
    | cons p r ih =>
      obtain ⟨l, h1, h2⟩ := ih fun q hq => hp q (by simp [hq])
      obtain ⟨a, rfl⟩ := tc_ac (hp p (by simp))
      exact ⟨a :: l, by simp [h1], by simp [flat, h2]⟩
theorem arg_acs (n : Nat) (cs : List D) : argD Tryd.prog 22 [.sl n cs] = .sl n cs := by unfold argD; rw [Tryd.underlying22]
end Go.Proofs.YtemabpapfkplgaaDoor.Bg
