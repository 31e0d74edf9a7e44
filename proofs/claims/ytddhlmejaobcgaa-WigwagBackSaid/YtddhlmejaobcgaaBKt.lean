import Derived.Test.YtddhlmejaobcgaaBKn
set_option maxRecDepth 100000
set_option linter.unusedVariables false
set_option linter.unusedSimpArgs false
set_option linter.ambiguousOpen false
/- The ring of the base members holds what it should. -/
namespace Go.Proofs.Ytddhlmejaobcgaa.Bk
open Go Go.Am Co Pi
theorem ideal_eq {M : List Ent} (h : M.map (fun e => (e.1, e.2.2)) = idealL 4) : ∃ b0 b1 b2 b3, M = [(0, b0, idealM 0), (1, b1, idealM 1), (2, b2, idealM 2), (3, b3, idealM 3)] := by
  have hl : M.length = 4 := by have := congrArg List.length h; simpa [idealL] using this
  match M, hl with
  | [a, b, c, d], _ =>
    obtain ⟨a1, a2, a3⟩ := a
    obtain ⟨b1, b2, b3⟩ := b
    obtain ⟨c1, c2, c3⟩ := c
    obtain ⟨d1, d2, d3⟩ := d
    have h : [(a1, a3), (b1, b3), (c1, c3), (d1, d3)] = [((0 : Int), idealM 0), (1, idealM 1), (2, idealM 2), (3, idealM 3)] := h
    simp only [List.cons.injEq, Prod.mk.injEq, and_true] at h
    obtain ⟨⟨rfl, rfl⟩, ⟨rfl, rfl⟩, ⟨rfl, rfl⟩, rfl, rfl⟩ := h
    exact ⟨a2, b2, c2, d2, rfl⟩
theorem okP_iff (x y : Int) : okP x y ↔ (0 < distI x y ∧ (distI x 10 = 0 ∨ distI x y ≤ distI x 10) ∧ (distI x 20 = 0 ∨ distI x y ≤ distI x 20) ∧ (distI x 30 = 0 ∨ distI x y ≤ distI x 30) ∧ (distI x 40 = 0 ∨ distI x y ≤ distI x 40)) := by
  refine ⟨fun h => ⟨h.1, h.2 10 (.inl rfl), h.2 20 (.inr (.inl rfl)), h.2 30 (.inr (.inr (.inl rfl))), h.2 40 (.inr (.inr (.inr rfl)))⟩, fun ⟨h, h1, h2, h3, h4⟩ => ⟨h, fun c hc => ?_⟩⟩
  rcases hc with rfl | rfl | rfl | rfl
  · exact h1
  · exact h2
  · exact h3
  · exact h4
theorem okA : okP 10 20 := (okP_iff _ _).2 (by simp only [dist_mod]; decide)
theorem okB : okP 20 30 := (okP_iff _ _).2 (by simp only [dist_mod]; decide)
theorem okC : okP 30 40 := (okP_iff _ _).2 (by simp only [dist_mod]; decide)
theorem okD : okP 40 10 := (okP_iff _ _).2 (by simp only [dist_mod]; decide)
/-- What holds of it. -/
structure Ideal (M : List Ent) : Prop where
  inv : Inv M
  only : OnlyB M
  get : ∀ j : Nat, j < 4 → getM M (j : Int) = idealM j
  keys : ∀ k, fndM M k ≠ none → 0 ≤ k ∧ k < 4
  len : M.length = 4
theorem chain3 {M : List Ent} {x a b c : Int} (h1 : livesM M a = true) (h2 : livesM M b = true) (h3 : livesM M c = true) (k1 : okP x (idM M a)) (k2 : okP (idM M a) (idM M b)) (k3 : okP (idM M b) (idM M c)) : chainM M x [a, b, c] :=
  ⟨fun _ => ⟨k1, fun _ => ⟨k2, fun _ => ⟨k3, trivial⟩, fun k => by rw [h3] at k; cases k⟩, fun k => by rw [h2] at k; cases k⟩, fun k => by rw [h1] at k; cases k⟩
theorem ideal_of {M : List Ent} (h : M.map (fun e => (e.1, e.2.2)) = idealL 4) : Ideal M := by
  obtain ⟨b0, b1, b2, b3, rfl⟩ := ideal_eq h
  generalize hM : ([(0, b0, idealM 0), (1, b1, idealM 1), (2, b2, idealM 2), (3, b3, idealM 3)] : List Ent) = M
  have hk : ∀ e ∈ M, 0 ≤ e.1 ∧ e.1 < 4 := by
    rw [← hM]
    intro e he
    simp only [List.mem_cons, List.mem_nil_iff, or_false] at he
    rcases he with rfl | rfl | rfl | rfl <;> simp
  have hg : ∀ j : Nat, j < 4 → getM M (j : Int) = idealM j := by
    rw [← hM]
    intro j hj
    have : j = 0 ∨ j = 1 ∨ j = 2 ∨ j = 3 := by omega
    rcases this with rfl | rfl | rfl | rfl <;> rfl
  have keys : ∀ k, fndM M k ≠ none → 0 ≤ k ∧ k < 4 := fun k hk2 => by
    cases hf : fndM M k with
    | none => exact absurd hf hk2
    | some e =>
      obtain ⟨m1, m2⟩ := fndM_mem hf
      rw [← m2]; exact hk e m1
  have only : OnlyB M := fun k => ⟨fun hl => keys k (lives_fnd hl), fun ⟨k0, k4⟩ => by
    obtain ⟨j, rfl⟩ := Int.eq_ofNat_of_zero_le k0
    rw [lives_get, hg j (by omega)]; rfl⟩
  have ids : ∀ j : Nat, j < 4 → idM M (j : Int) = 10 * ((j : Int) + 1) := fun j hj => by rw [id_get, hg j hj]; rfl
  have nats : ∀ k, livesM M k = true → ∃ j : Nat, j < 4 ∧ k = (j : Int) := fun k hl => by
    obtain ⟨k0, k4⟩ := (only k).1 hl
    obtain ⟨j, rfl⟩ := Int.eq_ofNat_of_zero_le k0
    exact ⟨j, by omega, rfl⟩
  have l0 : livesM M 0 = true := (only 0).2 (by decide)
  have l1 : livesM M 1 = true := (only 1).2 (by decide)
  have l2 : livesM M 2 = true := (only 2).2 (by decide)
  have l3 : livesM M 3 = true := (only 3).2 (by decide)
  have i0 : idM M 0 = 10 := ids 0 (by decide)
  have i1 : idM M 1 = 20 := ids 1 (by decide)
  have i2 : idM M 2 = 30 := ids 2 (by decide)
  have i3 : idM M 3 = 40 := ids 3 (by decide)
  refine ⟨⟨fun c h0 h4 => ?_, fun n hn => ?_, fun n hn => ((only n).1 hn).1, fun n k hn hk e => ?_, fun n hn => ?_, fun n hn a ha => ?_, fun n hn => ?_⟩, only, hg, keys, by rw [← hM]; rfl⟩
  · refine ⟨(only c).2 ⟨h0, h4⟩, ?_⟩
    obtain ⟨j, rfl⟩ := Int.eq_ofNat_of_zero_le h0
    exact ids j (by omega)
  · obtain ⟨j, hj, rfl⟩ := nats n hn
    rw [ids j hj]; unfold rgP; omega
  · obtain ⟨j, hj, rfl⟩ := nats n hn
    obtain ⟨i, hi, rfl⟩ := nats k hk
    rw [ids j hj, ids i hi] at e
    omega
  · obtain ⟨j, hj, rfl⟩ := nats n hn
    rw [hg j hj]
    have e : hdM M (idealM j) = md ((j : Int) + 1) := by
      unfold hdM
      rw [if_pos ((only _).2 (by show 0 ≤ md ((j : Int) + 1) ∧ md ((j : Int) + 1) < 4; unfold md; omega))]
      rfl
    rw [e]
    exact (only _).2 (by unfold md; omega)
  · obtain ⟨j, hj, rfl⟩ := nats n hn
    rw [hg j hj] at ha
    have ha : a ∈ [md ((j : Int) + 1), md ((j : Int) + 2), md ((j : Int) + 3)] := ha
    simp only [List.mem_cons, List.mem_nil_iff, or_false] at ha
    refine lives_fnd ((only a).2 ?_)
    unfold md at ha
    omega
  · obtain ⟨j, hj, rfl⟩ := nats n hn
    rw [hg j hj, ids j hj]
    have : j = 0 ∨ j = 1 ∨ j = 2 ∨ j = 3 := by omega
    rcases this with rfl | rfl | rfl | rfl
    · show chainM M 10 [1, 2, 3]
      exact chain3 l1 l2 l3 (by rw [i1]; exact okA) (by rw [i1, i2]; exact okB) (by rw [i2, i3]; exact okC)
    · show chainM M 20 [2, 3, 0]
      exact chain3 l2 l3 l0 (by rw [i2]; exact okB) (by rw [i2, i3]; exact okC) (by rw [i3, i0]; exact okD)
    · show chainM M 30 [3, 0, 1]
      exact chain3 l3 l0 l1 (by rw [i3]; exact okC) (by rw [i3, i0]; exact okD) (by rw [i0, i1]; exact okA)
    · show chainM M 40 [0, 1, 2]
      exact chain3 l0 l1 l2 (by rw [i0]; exact okD) (by rw [i0, i1]; exact okA) (by rw [i1, i2]; exact okB)
end Go.Proofs.Ytddhlmejaobcgaa.Bk
