import Derived.Test.YtpemfjnjkjckoaaDoorRT
import Derived.Test.YtpemfjnjkjckoaaDoorAm19
import Derived.Test.YtpemfjnjkjckoaaDoorChecked
set_option maxRecDepth 100000
set_option linter.unusedVariables false
set_option linter.unusedSimpArgs false
/- Layer 4: the laws' parameters (calls). -/
namespace Go.Proofs.YtpemfjnjkjckoaaDoor.Lv
open Go Go.Am Co Lk
theorem own : ownKnob Tryd.prog.godebug = none := by kernel_rfl
theorem laid : laidOutB Tryd.prog = true := by kernel_rfl
theorem tc_str {n : Nat} {cs : List D} (h : TC Tryd.prog (n + 1) 9 cs) : ∃ m, cs = [sD m] := by
  unfold TC at h
  rw [Tryd.underlying9] at h
  obtain ⟨m, rfl, _⟩ := h
  exact ⟨m, rfl⟩
theorem tc_int {n : Nat} {cs : List D} (h : TC Tryd.prog (n + 1) 3 cs) : ∃ m, cs = [nI m] := by
  unfold TC at h
  rw [Tryd.underlying3] at h
  obtain ⟨m, rfl, _⟩ := h
  exact ⟨m, rfl⟩
theorem tc_bool {n : Nat} {cs : List D} (h : TC Tryd.prog (n + 1) 4 cs) : ∃ b, cs = [.lit (.bool b)] := by
  unfold TC at h
  rw [Tryd.underlying4] at h
  obtain ⟨b, rfl⟩ := h
  exact ⟨b, rfl⟩
theorem tc_ac {n : Nat} {cs : List D} (h : TC Tryd.prog (n + 2) 32 cs) : ∃ t : Lk.Act, cs = acC t := by
  unfold TC at h
  rw [Tryd.underlying32] at h
  obtain ⟨parts, rfl, hp⟩ := h
  obtain ⟨a, r, rfl, h1, hp⟩ := all2_cons hp
  obtain ⟨b, r, rfl, h2, hp⟩ := all2_cons hp
  obtain ⟨c, r, rfl, h3, hp⟩ := all2_cons hp
  obtain ⟨d, r, rfl, h4, hp⟩ := all2_cons hp
  obtain rfl := all2_nil hp
  obtain ⟨a, rfl⟩ := tc_bool h1
  obtain ⟨b, rfl⟩ := tc_int h2
  obtain ⟨c, rfl⟩ := tc_int h3
  obtain ⟨d, rfl⟩ := tc_str h4
  exact ⟨⟨a, b, c, d⟩, rfl⟩
theorem tc_acs {n : Nat} {cs : List D} (h : TC Tryd.prog (n + 3) 22 cs) : ∃ l : List Lk.Act, cs = [.sl l.length (flat acC l)] := by
  unfold TC at h
  rw [Tryd.underlying22] at h
  rcases h with rfl | ⟨parts, rfl, hlen, hp⟩
  · exact ⟨[], rfl⟩
  · clear hlen
    suffices ∃ l : List Lk.Act, l.length = parts.length ∧ flat acC l = parts.flatten by
      obtain ⟨l, h1, h2⟩ := this
      exact ⟨l, by rw [h1, h2]⟩
    induction parts with
    | nil => exact ⟨[], rfl, rfl⟩
    | cons p r ih =>
      obtain ⟨l, h1, h2⟩ := ih fun q hq => hp q (by simp [hq])
      obtain ⟨a, rfl⟩ := tc_ac (hp p (by simp))
      exact ⟨a :: l, by simp [h1], by simp [flat, h2]⟩
theorem arg_str (m : ByteArray) : argD Tryd.prog 9 [sD m] = sD m := by unfold argD; rw [Tryd.underlying9]
theorem arg_acs (n : Nat) (cs : List D) : argD Tryd.prog 22 [.sl n cs] = .sl n cs := by unfold argD; rw [Tryd.underlying22]
theorem ok4 (a : List Lk.Act) (p : ByteArray) : Go.Am.Pure Tryd.prog 4 [slF acC a, .d (sD p)] (bI true) := Lk.ok4 a p
end Go.Proofs.YtpemfjnjkjckoaaDoor.Lv
