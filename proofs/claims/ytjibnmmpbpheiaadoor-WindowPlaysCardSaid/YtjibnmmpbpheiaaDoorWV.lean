import Derived.Test.YtjibnmmpbpheiaaDoorWP
import Derived.Test.YtjibnmmpbpheiaaDoorAm19
import Derived.Test.YtjibnmmpbpheiaaDoorChecked
set_option maxRecDepth 100000
set_option linter.unusedVariables false
set_option linter.unusedSimpArgs false
namespace Go.Proofs.YtjibnmmpbpheiaaDoor.Wi
open Go Go.Am
theorem own : ownKnob Tryd.prog.godebug = none := by kernel_rfl
theorem laid : laidOutB Tryd.prog = true := by kernel_rfl
theorem tc_int {n : Nat} {cs : List D} (h : TC Tryd.prog (n + 1) 3 cs) : ∃ m, cs = [nI m] := by
  unfold TC at h
  rw [Tryd.underlying3] at h
  obtain ⟨m, rfl, _⟩ := h
  exact ⟨m, rfl⟩
theorem tc_pair {n : Nat} {cs : List D} (h : TC Tryd.prog (n + 2) 28 cs) : ∃ a b, cs = [nI a, nI b] := by
  unfold TC at h
  rw [Tryd.underlying28] at h
  obtain ⟨parts, rfl, hl, hp⟩ := h
  match parts, hl, hp with
  | [x, y], _, hp =>
    obtain ⟨a, rfl⟩ := tc_int (hp x (by simp))
    obtain ⟨b, rfl⟩ := tc_int (hp y (by simp))
    exact ⟨a, b, rfl⟩
theorem tc_pairs {n : Nat} {cs : List D} (h : TC Tryd.prog (n + 3) 22 cs) : ∃ l : List (Int × Int), cs = [.sl l.length (prs l)] := by
  unfold TC at h
  rw [Tryd.underlying22] at h
  rcases h with rfl | ⟨parts, rfl, hlen, hp⟩
  · exact ⟨[], rfl⟩
  · clear hlen
    suffices ∃ l : List (Int × Int), l.length = parts.length ∧ prs l = parts.flatten by
      obtain ⟨l, h1, h2⟩ := this
      exact ⟨l, by rw [h1, h2]⟩
    induction parts with
    | nil => exact ⟨[], rfl, rfl⟩
    | cons p r ih =>
      obtain ⟨l, h1, h2⟩ := ih fun q hq => hp q (by simp [hq])
      obtain ⟨a, b, rfl⟩ := tc_pair (hp p (by simp))
      exact ⟨(a, b) :: l, by simp [h1], by simp [prs, h2]⟩
theorem arg_int (m : Int) : argD Tryd.prog 3 [nI m] = nI m := by unfold argD; rw [Tryd.underlying3]
theorem arg_sl (n : Nat) (cs : List D) : argD Tryd.prog 22 [.sl n cs] = .sl n cs := by unfold argD; rw [Tryd.underlying22]
end Go.Proofs.YtjibnmmpbpheiaaDoor.Wi
