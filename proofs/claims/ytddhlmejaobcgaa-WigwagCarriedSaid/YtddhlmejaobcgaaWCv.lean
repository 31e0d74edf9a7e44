import Derived.Test.YtddhlmejaobcgaaWCf
import Derived.Test.YtddhlmejaobcgaaAm19
import Derived.Test.YtddhlmejaobcgaaChecked
set_option maxRecDepth 100000
set_option linter.unusedVariables false
set_option linter.unusedSimpArgs false
/- The parameter of WigwagCarried. -/
namespace Go.Proofs.Ytddhlmejaobcgaa.Lk
open Go Go.Am Co
theorem own : ownKnob Try.prog.godebug = none := by kernel_rfl
theorem laid : laidOutB Try.prog = true := by kernel_rfl
theorem tc_str {n : Nat} {cs : List D} (h : TC Try.prog (n + 1) 9 cs) : ∃ m, cs = [sD m] := by
  unfold TC at h
  rw [Try.underlying9] at h
  obtain ⟨m, rfl, _⟩ := h
  exact ⟨m, rfl⟩
theorem tc_int {n : Nat} {cs : List D} (h : TC Try.prog (n + 1) 3 cs) : ∃ m, cs = [nI m] := by
  unfold TC at h
  rw [Try.underlying3] at h
  obtain ⟨m, rfl, _⟩ := h
  exact ⟨m, rfl⟩
theorem tc_ac {n : Nat} {cs : List D} (h : TC Try.prog (n + 2) 42 cs) : ∃ t : Trip, cs = trC t := by
  unfold TC at h
  rw [Try.underlying42] at h
  obtain ⟨parts, rfl, hp⟩ := h
  obtain ⟨a, r, rfl, h1, hp⟩ := all2_cons hp
  obtain ⟨b, r, rfl, h2, hp⟩ := all2_cons hp
  obtain ⟨c, r, rfl, h3, hp⟩ := all2_cons hp
  obtain rfl := all2_nil hp
  obtain ⟨a, rfl⟩ := tc_int h1
  obtain ⟨b, rfl⟩ := tc_int h2
  obtain ⟨c, rfl⟩ := tc_str h3
  exact ⟨⟨a, b, c⟩, rfl⟩
theorem tc_list {α : Type} {c : α → List D} {parts : List (List D)} (hp : ∀ q ∈ parts, ∃ a, q = c a) : ∃ l : List α, l.length = parts.length ∧ flat c l = parts.flatten := by
  induction parts with
  | nil => exact ⟨[], rfl, rfl⟩
  | cons p r ih =>
    obtain ⟨l, h1, h2⟩ := ih fun q hq => hp q (by simp [hq])
    obtain ⟨a, rfl⟩ := hp p (by simp)
    exact ⟨a :: l, by simp [h1], by simp [flat, h2]⟩
theorem tc_acs {n : Nat} {cs : List D} (h : TC Try.prog (n + 3) 22 cs) : ∃ l : List Trip, cs = [.sl l.length (flat trC l)] := by
  unfold TC at h
  rw [Try.underlying22] at h
  rcases h with rfl | ⟨parts, rfl, hlen, hp⟩
  · exact ⟨[], rfl⟩
  · obtain ⟨l, h1, h2⟩ := tc_list fun q hq => tc_ac (hp q hq)
    exact ⟨l, by rw [h1, h2]⟩
theorem arg_acs (n : Nat) (cs : List D) : argD Try.prog 22 [.sl n cs] = .sl n cs := by unfold argD; rw [Try.underlying22]
end Go.Proofs.Ytddhlmejaobcgaa.Lk
