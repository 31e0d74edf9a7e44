import Derived.Test.YtjibnmmpbpheiaaDoorW3
set_option maxRecDepth 100000
set_option linter.unusedVariables false
set_option linter.unusedSimpArgs false
namespace Go.Proofs.YtjibnmmpbpheiaaDoor.Wi
open Go Go.Am
/-! ### pairs -/
def prs : List (Int × Int) → List D
  | [] => []
  | p :: r => nI p.1 :: nI p.2 :: prs r
theorem prs_append (a b : List (Int × Int)) : prs (a ++ b) = prs a ++ prs b := by
  induction a with
  | nil => rfl
  | cons p r ih => simp [prs, ih]
theorem prs_length (a : List (Int × Int)) : (prs a).length = 2 * a.length := by
  induction a with
  | nil => rfl
  | cons p r ih => simp [prs, ih]; omega
def slP (l : List (Int × Int)) : AV := .d (.sl l.length (prs l))
theorem prs_rd : ∀ (l : List (Int × Int)) (i : Nat) (p : Int × Int), l[i]? = some p → rdD (prs l) (i * 2) = nI p.1 ∧ rdD (prs l) (i * 2 + 1) = nI p.2
  | [], i, p, h => by simp at h
  | q :: r, 0, p, h => by simp at h; subst h; exact ⟨rfl, rfl⟩
  | q :: r, i + 1, p, h => by
    have := prs_rd r i p (by simpa using h)
    rw [show (i + 1) * 2 = i * 2 + 2 from by omega]
    exact this
theorem prs_ne {l : List (Int × Int)} {i : Nat} (h : i < l.length) : prs l ≠ [] := fun e => by
  have := prs_length l
  rw [e] at this
  simp at this
  omega
/-- What is read at an element of pairs. -/
structure At (l : List (Int × Int)) (i : Nat) (p n : Int) : Prop where
  ix : (0 : Int) ≤ i ∧ (i : Int) < l.length ∧ prs l ≠ []
  p0 : (0 : Int) ≤ 0 ∧ (0 : Int) < (2 : Nat)
  p1 : (0 : Int) ≤ 1 ∧ (1 : Int) < (2 : Nat)
  r0 : rdD (prs l) (i * 2) = nI p
  r1 : rdD (prs l) (i * 2 + 1) = nI n
  l0 : i * 2 + 1 ≤ (prs l).length
  l1 : i * 2 + 1 + 1 ≤ (prs l).length
theorem At.of {l : List (Int × Int)} {i : Nat} {p n : Int} (h : l[i]? = some (p, n)) : At l i p n := by
  have hi := (List.getElem?_eq_some_iff.1 h).1
  obtain ⟨h0, h1⟩ := prs_rd l i _ h
  have := prs_length l
  exact ⟨⟨by omega, by omega, prs_ne hi⟩, by omega, by omega, h0, h1, by omega, by omega⟩
theorem okI {x : D} {a : Int} (h : x = nI a) : (CK.int .i64).ok x := by subst h; rfl
theorem At.n0 {l i p n} (h : At l i p n) : i * 2 + 0 * 1 + 1 ≤ (prs l).length ∧ formedOk (prs l) [.int .i64] (i * 2 + 0 * 1) := ⟨by have := h.l0; omega, okI h.r0, True.intro⟩
theorem At.n1 {l i p n} (h : At l i p n) : i * 2 + 1 * 1 + 1 ≤ (prs l).length ∧ formedOk (prs l) [.int .i64] (i * 2 + 1 * 1) := ⟨by have := h.l1; omega, okI h.r1, True.intro⟩
theorem At.n2 {l i p n} (h : At l i p n) : i * 2 + 2 ≤ (prs l).length ∧ formedOk (prs l) [.int .i64, .int .i64] (i * 2) := ⟨by have := h.l1; omega, okI h.r0, okI h.r1, True.intro⟩
def P0 (l : List (Int × Int)) (i : Nat) : Int := (rdD (prs l) (i * 2)).toI
def P1 (l : List (Int × Int)) (i : Nat) : Int := (rdD (prs l) (i * 2 + 1)).toI
theorem At.e0 {l i p n} (h : At l i p n) : P0 l i = p := by unfold P0; rw [h.r0]; rfl
theorem At.e1 {l i p n} (h : At l i p n) : P1 l i = n := by unfold P1; rw [h.r1]; rfl
end Go.Proofs.YtjibnmmpbpheiaaDoor.Wi
