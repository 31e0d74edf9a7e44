import Derived.Test.YtddhlmejaobcgaaDoorVV
import Derived.Test.YtddhlmejaobcgaaDoorAm19
import Derived.Test.YtddhlmejaobcgaaDoorChecked
set_option maxRecDepth 100000
set_option linter.unusedVariables false
set_option linter.unusedSimpArgs false
/- The parameters of a law. -/
namespace Go.Proofs.YtddhlmejaobcgaaDoor.Va
open Go Go.Am
theorem tc_int {n : Nat} {cs : List D} (h : TC Tryd.prog (n + 1) 3 cs) : ∃ m, cs = [nI m] := by
  unfold TC at h
  rw [Tryd.underlying3] at h
  obtain ⟨m, rfl, _⟩ := h
  exact ⟨m, rfl⟩
theorem tc_str {n : Nat} {cs : List D} (h : TC Tryd.prog (n + 1) 9 cs) : ∃ m, cs = [sD m] := by
  unfold TC at h
  rw [Tryd.underlying9] at h
  obtain ⟨m, rfl, _⟩ := h
  exact ⟨m, rfl⟩
theorem arg_int (m : Int) : argD Tryd.prog 3 [nI m] = nI m := by unfold argD; rw [Tryd.underlying3]
theorem arg_str (m : ByteArray) : argD Tryd.prog 9 [sD m] = sD m := by unfold argD; rw [Tryd.underlying9]
theorem tc_at {n : Nat} {cs : List D} (h : TC Tryd.prog (n + 2) 54 cs) : ∃ a, cs = atC a := by
  unfold TC at h
  rw [Tryd.underlying54] at h
  obtain ⟨parts, rfl, hp⟩ := h
  obtain ⟨a, r, rfl, h1, hp⟩ := all2_cons hp
  obtain ⟨b, r, rfl, h2, hp⟩ := all2_cons hp
  obtain ⟨c, r, rfl, h3, hp⟩ := all2_cons hp
  obtain ⟨d, r, rfl, h4, hp⟩ := all2_cons hp
  obtain rfl := all2_nil hp
  obtain ⟨a, rfl⟩ := tc_str h1
  obtain ⟨b, rfl⟩ := tc_int h2
  obtain ⟨c, rfl⟩ := tc_int h3
  obtain ⟨d, rfl⟩ := tc_int h4
  exact ⟨⟨a, b, c, d⟩, rfl⟩
theorem tc_va {n : Nat} {cs : List D} (h : TC Tryd.prog (n + 2) 57 cs) : ∃ v, cs = vaC v := by
  unfold TC at h
  rw [Tryd.underlying57] at h
  obtain ⟨parts, rfl, hp⟩ := h
  obtain ⟨a, r, rfl, h1, hp⟩ := all2_cons hp
  obtain ⟨b, r, rfl, h2, hp⟩ := all2_cons hp
  obtain rfl := all2_nil hp
  obtain ⟨a, rfl⟩ := tc_int h1
  obtain ⟨b, rfl⟩ := tc_str h2
  exact ⟨⟨a, b⟩, rfl⟩
theorem tc_pr {n : Nat} {cs : List D} (h : TC Tryd.prog (n + 2) 50 cs) : ∃ p, cs = prC p := by
  unfold TC at h
  rw [Tryd.underlying50] at h
  obtain ⟨parts, rfl, hp⟩ := h
  obtain ⟨a, r, rfl, h1, hp⟩ := all2_cons hp
  obtain ⟨b, r, rfl, h2, hp⟩ := all2_cons hp
  obtain ⟨c, r, rfl, h3, hp⟩ := all2_cons hp
  obtain ⟨d, r, rfl, h4, hp⟩ := all2_cons hp
  obtain ⟨e, r, rfl, h5, hp⟩ := all2_cons hp
  obtain rfl := all2_nil hp
  obtain ⟨a, rfl⟩ := tc_str h1
  obtain ⟨b, rfl⟩ := tc_int h2
  obtain ⟨c, rfl⟩ := tc_int h3
  obtain ⟨d, rfl⟩ := tc_int h4
  obtain ⟨e, rfl⟩ := tc_str h5
  exact ⟨⟨a, b, c, d, e⟩, rfl⟩
theorem parts_flat {α : Type} {c : α → List D} : ∀ {parts : List (List D)}, (∀ p ∈ parts, ∃ x, p = c x) → ∃ l : List α, l.length = parts.length ∧ flat c l = parts.flatten
  | [], _ => ⟨[], rfl, rfl⟩
  | p :: r, h => by
    obtain ⟨l, h1, h2⟩ := parts_flat (c := c) (parts := r) fun q hq => h q (by simp [hq])
    obtain ⟨x, rfl⟩ := h p (by simp)
    exact ⟨x :: l, by simp [h1], by simp [flat, h2]⟩
theorem tc_ats {n : Nat} {cs : List D} (h : TC Tryd.prog (n + 3) 23 cs) : ∃ l : List Att, cs = [.sl l.length (flat atC l)] := by
  unfold TC at h
  rw [Tryd.underlying23] at h
  rcases h with rfl | ⟨parts, rfl, hlen, hp⟩
  · exact ⟨[], rfl⟩
  · obtain ⟨l, h1, h2⟩ := parts_flat (c := atC) (parts := parts) fun q hq => tc_at (hp q hq)
    exact ⟨l, by rw [h1, h2]⟩
theorem tc_prs {n : Nat} {cs : List D} (h : TC Tryd.prog (n + 3) 25 cs) : ∃ l : List Prd, cs = [.sl l.length (flat prC l)] := by
  unfold TC at h
  rw [Tryd.underlying25] at h
  rcases h with rfl | ⟨parts, rfl, hlen, hp⟩
  · exact ⟨[], rfl⟩
  · obtain ⟨l, h1, h2⟩ := parts_flat (c := prC) (parts := parts) fun q hq => tc_pr (hp q hq)
    exact ⟨l, by rw [h1, h2]⟩
theorem tc_vas {n : Nat} {cs : List D} (h : TC Tryd.prog (n + 3) 26 cs) : ∃ l : List Val, cs = [.sl l.length (flat vaC l)] := by
  unfold TC at h
  rw [Tryd.underlying26] at h
  rcases h with rfl | ⟨parts, rfl, hlen, hp⟩
  · exact ⟨[], rfl⟩
  · obtain ⟨l, h1, h2⟩ := parts_flat (c := vaC) (parts := parts) fun q hq => tc_va (hp q hq)
    exact ⟨l, by rw [h1, h2]⟩
theorem tc_ev {n : Nat} {cs : List D} (h : TC Tryd.prog (n + 4) 28 cs) : ∃ e : Evt, cs = evC e := by
  unfold TC at h
  rw [Tryd.underlying28] at h
  obtain ⟨parts, rfl, hp⟩ := h
  obtain ⟨a, r, rfl, h1, hp⟩ := all2_cons hp
  obtain ⟨b, r, rfl, h2, hp⟩ := all2_cons hp
  obtain rfl := all2_nil hp
  obtain ⟨l, rfl⟩ := tc_vas h1
  obtain ⟨s, rfl⟩ := tc_str h2
  exact ⟨⟨l, s⟩, rfl⟩
theorem arg_ats (n : Nat) (cs : List D) : argD Tryd.prog 23 [.sl n cs] = .sl n cs := by unfold argD; rw [Tryd.underlying23]
theorem arg_prs (n : Nat) (cs : List D) : argD Tryd.prog 25 [.sl n cs] = .sl n cs := by unfold argD; rw [Tryd.underlying25]
theorem arg_ev (cs : List D) : argD Tryd.prog 28 cs = .agg cs := by unfold argD; rw [Tryd.underlying28]
end Go.Proofs.YtddhlmejaobcgaaDoor.Va
