import Derived.Test.YtllcjdijkmancaaD26
set_option maxRecDepth 100000
set_option linter.unusedVariables false
set_option linter.unusedSimpArgs false
namespace Go.Proofs.Ytllcjdijkmancaa.Dy
open Go Go.Am Va
theorem parts_flat {α : Type} {c : α → List D} : ∀ {parts : List (List D)}, (∀ p ∈ parts, ∃ x, p = c x) → ∃ l : List α, l.length = parts.length ∧ flat c l = parts.flatten
  | [], _ => ⟨[], rfl, rfl⟩
  | p :: r, h => by
    obtain ⟨l, h1, h2⟩ := parts_flat (c := c) (parts := r) fun q hq => h q (by simp [hq])
    obtain ⟨x, rfl⟩ := h p (by simp)
    exact ⟨x :: l, by simp [h1], by simp [flat, h2]⟩
theorem tc_ats {n : Nat} {cs : List D} (h : TC Try.prog (n + 3) 60 cs) : ∃ l : List Att, cs = [.sl l.length (flat atC l)] := by
  unfold TC at h
  rw [Try.underlying60] at h
  rcases h with rfl | ⟨parts, rfl, hlen, hp⟩
  · exact ⟨[], rfl⟩
  · obtain ⟨l, h1, h2⟩ := parts_flat (c := atC) (parts := parts) fun q hq => by
      obtain ⟨nm, k, mn, mx, rfl⟩ := tc_at (hp q hq)
      exact ⟨⟨nm, k, mn, mx⟩, rfl⟩
    exact ⟨l, by rw [h1, h2]⟩
theorem tc_prs {n : Nat} {cs : List D} (h : TC Try.prog (n + 3) 70 cs) : ∃ l : List Prd, cs = [.sl l.length (flat prC l)] := by
  unfold TC at h
  rw [Try.underlying70] at h
  rcases h with rfl | ⟨parts, rfl, hlen, hp⟩
  · exact ⟨[], rfl⟩
  · obtain ⟨l, h1, h2⟩ := parts_flat (c := prC) (parts := parts) fun q hq => by
      obtain ⟨pn, o, lo, hi, s, rfl⟩ := tc_pr (hp q hq)
      exact ⟨⟨pn, o, lo, hi, s⟩, rfl⟩
    exact ⟨l, by rw [h1, h2]⟩
theorem tc_vas {n : Nat} {cs : List D} (h : TC Try.prog (n + 3) 71 cs) : ∃ l : List Val, cs = [.sl l.length (flat vaC l)] := by
  unfold TC at h
  rw [Try.underlying71] at h
  rcases h with rfl | ⟨parts, rfl, hlen, hp⟩
  · exact ⟨[], rfl⟩
  · obtain ⟨l, h1, h2⟩ := parts_flat (c := vaC) (parts := parts) fun q hq => by
      obtain ⟨num, s, rfl⟩ := tc_va (hp q hq)
      exact ⟨⟨num, s⟩, rfl⟩
    exact ⟨l, by rw [h1, h2]⟩
theorem tc_ev {n : Nat} {cs : List D} (h : TC Try.prog (n + 4) 73 cs) : ∃ e : Evt, cs = evC e := by
  unfold TC at h
  rw [Try.underlying73] at h
  obtain ⟨parts, rfl, hp⟩ := h
  obtain ⟨a, r, rfl, h1, hp⟩ := all2_cons hp
  obtain ⟨b, r, rfl, h2, hp⟩ := all2_cons hp
  obtain rfl := all2_nil hp
  obtain ⟨l, rfl⟩ := tc_vas h1
  obtain ⟨s, rfl⟩ := tc_str h2
  exact ⟨⟨l, s⟩, rfl⟩
theorem tc_va' {n : Nat} {cs : List D} (h : TC Try.prog (n + 2) 47 cs) : ∃ v : Val, cs = vaC v := by
  obtain ⟨num, s, rfl⟩ := tc_va h
  exact ⟨⟨num, s⟩, rfl⟩
theorem arg_ats (n : Nat) (cs : List D) : argD Try.prog 60 [.sl n cs] = .sl n cs := by unfold argD; rw [Try.underlying60]
theorem arg_prs (n : Nat) (cs : List D) : argD Try.prog 70 [.sl n cs] = .sl n cs := by unfold argD; rw [Try.underlying70]
theorem arg_ev (cs : List D) : argD Try.prog 73 cs = .agg cs := by unfold argD; rw [Try.underlying73]
end Go.Proofs.Ytllcjdijkmancaa.Dy
