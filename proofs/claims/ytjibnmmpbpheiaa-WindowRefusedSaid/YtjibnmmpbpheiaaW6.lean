import Derived.Test.YtjibnmmpbpheiaaW5
set_option maxRecDepth 100000
set_option linter.unusedVariables false
set_option linter.unusedSimpArgs false
namespace Go.Proofs.Ytjibnmmpbpheiaa.Wi
open Go Go.Am
/-! ### pairs -/
def prs : List (Int × Int) → List D
  | [] => []
  | p :: r => nI p.1 :: nI p.2 :: prs r
theorem prs_append (a b : List (Int × Int)) : prs (a ++ b) = prs a ++ prs b := by
  induction a with
  | nil => rfl
  | cons p r ih => simp [prs, ih]
theorem prs_length (a : List (Int × Int)) : (prs a).length = 2 * a.length := by
  induction a with
  | nil => rfl
  | cons p r ih => simp [prs, ih]; omega
def slP (l : List (Int × Int)) : AV := .d (.sl l.length (prs l))
theorem prs_rd : ∀ (l : List (Int × Int)) (i : Nat) (p : Int × Int), l[i]? = some p → rdD (prs l) (i * 2) = nI p.1 ∧ rdD (prs l) (i * 2 + 1) = nI p.2
  | [], i, p, h => by simp at h
  | q :: r, 0, p, h => by simp at h; subst h; exact ⟨rfl, rfl⟩
  | q :: r, i + 1, p, h => by
    have := prs_rd r i p (by simpa using h)
    rw [show (i + 1) * 2 = i * 2 + 2 from by omega]
    exact this
theorem prs_ne {l : List (Int × Int)} {i : Nat} (h : i < l.length) : prs l ≠ [] := fun e => by
  have := prs_length l
  rw [e] at this
  simp at this
  omega
/-- What is read at an element of pairs. -/
structure At (l : List (Int × Int)) (i : Nat) (p n : Int) : Prop where
  ix : (0 : Int) ≤ i ∧ (i : Int) < l.length ∧ prs l ≠ []
  p0 : (0 : Int) ≤ 0 ∧ (0 : Int) < (2 : Nat)
  p1 : (0 : Int) ≤ 1 ∧ (1 : Int) < (2 : Nat)
  r0 : rdD (prs l) (i * 2) = nI p
  r1 : rdD (prs l) (i * 2 + 1) = nI n
  l0 : i * 2 + 1 ≤ (prs l).length
  l1 : i * 2 + 1 + 1 ≤ (prs l).length
theorem At.of {l : List (Int × Int)} {i : Nat} {p n : Int} (h : l[i]? = some (p, n)) : At l i p n := by
  have hi := (List.getElem?_eq_some_iff.1 h).1
  obtain ⟨h0, h1⟩ := prs_rd l i _ h
  have := prs_length l
  exact ⟨⟨by omega, by omega, prs_ne hi⟩, by omega, by omega, h0, h1, by omega, by omega⟩
theorem okI {x : D} {a : Int} (h : x = nI a) : (CK.int .i64).ok x := by subst h; rfl
theorem At.n0 {l i p n} (h : At l i p n) : i * 2 + 0 * 1 + 1 ≤ (prs l).length ∧ formedOk (prs l) [.int .i64] (i * 2 + 0 * 1) := ⟨by have := h.l0; omega, okI h.r0, True.intro⟩
theorem At.n1 {l i p n} (h : At l i p n) : i * 2 + 1 * 1 + 1 ≤ (prs l).length ∧ formedOk (prs l) [.int .i64] (i * 2 + 1 * 1) := ⟨by have := h.l1; omega, okI h.r1, True.intro⟩
theorem At.n2 {l i p n} (h : At l i p n) : i * 2 + 2 ≤ (prs l).length ∧ formedOk (prs l) [.int .i64, .int .i64] (i * 2) := ⟨by have := h.l1; omega, okI h.r0, okI h.r1, True.intro⟩
def P0 (l : List (Int × Int)) (i : Nat) : Int := (rdD (prs l) (i * 2)).toI
def P1 (l : List (Int × Int)) (i : Nat) : Int := (rdD (prs l) (i * 2 + 1)).toI
theorem At.e0 {l i p n} (h : At l i p n) : P0 l i = p := by unfold P0; rw [h.r0]; rfl
theorem At.e1 {l i p n} (h : At l i p n) : P1 l i = n := by unfold P1; rw [h.r1]; rfl
/-! ### two windows, the first one made first -/
def two (a b : Wn) : Store := winB 2 a :: winB 3 b :: (winM a ++ winM b)
theorem come_some_of {s s' : Wn} {p n c : Int} (h : come s p n = (c, s')) (h' : s' = none) : s = none := by
  unfold come at h
  split at h
  · simp only [Prod.mk.injEq] at h
    rw [h'] at h
    cases h.2
  · simp only [Prod.mk.injEq] at h
    rw [h.2]
    exact h'
theorem subL_ds {σ : Store} {ρ : Nat → Option Nat} : ∀ (r : List D), AV.subL σ ρ (r.map .d) = r.map .d
  | [] => rfl
  | a :: r => by simp only [List.map_cons, AV.subL, AV.sub]; rw [subL_ds r]
theorem winA {P : Program} {f : FuncId} {r : List D} {a b a' : Wn} {x : AV} {L : List Nat} {k : AV → Store → Res} {Q : AExit → Fr → Store → Prop} (hx : x.closed = true) (hL : L = [])
    (h : CallOk P f (.ptr 0 0 :: r.map .d) (winS a) (fun v σ => v = x ∧ σ = winS a')) (hm : a' = none → a = none) (hab : a = none → b = none) (hk : W P (k x (two a' b)) Q) : W P (.call f (.ptr 0 0 :: r.map .d) (two a b) L k) Q := by
  subst hL
  cases a with
  | none =>
    obtain rfl := hab rfl
    refine W.call [0] (by decide) (by simp [two]) (by simp) (args' := .ptr 0 0 :: r.map .d) (σ' := winS none) ?_ rfl h ?_
    · show _ :: AV.subL _ _ (r.map .d) = _
      rw [subL_ds]; rfl
    · rintro v σ ⟨rfl, rfl⟩
      rw [closed_sub hx]
      cases a' <;> exact hk
  | some t =>
    cases a' with
    | none => cases hm rfl
    | some t' =>
      refine W.call [0, 2] (by decide) (by simp [two, winM]) (by simp) (args' := .ptr 0 0 :: r.map .d) (σ' := winS (some t)) ?_ ?_ h ?_
      · show _ :: AV.subL _ _ (r.map .d) = _
        rw [subL_ds]; rfl
      · cases b <;> rfl
      · rintro v σ ⟨rfl, rfl⟩
        rw [closed_sub hx]
        cases b <;> exact hk
theorem winBb {P : Program} {f : FuncId} {r : List D} {a b b' : Wn} {x : AV} {L : List Nat} {k : AV → Store → Res} {Q : AExit → Fr → Store → Prop} (hx : x.closed = true) (hL : L = [])
    (h : CallOk P f (.ptr 0 0 :: r.map .d) (winS b) (fun v σ => v = x ∧ σ = winS b')) (hm : b' = none → b = none) (hab : a = none → b' = none) (hk : W P (k x (two a b')) Q) : W P (.call f (.ptr 1 0 :: r.map .d) (two a b) L k) Q := by
  subst hL
  cases b with
  | none =>
    refine W.call [1] (by decide) (by simp [two]) (by simp) (args' := .ptr 0 0 :: r.map .d) (σ' := winS none) ?_ rfl h ?_
    · show _ :: AV.subL _ _ (r.map .d) = _
      rw [subL_ds]; rfl
    · rintro v σ ⟨rfl, rfl⟩
      rw [closed_sub hx]
      cases a with
      | none => obtain rfl := hab rfl; exact hk
      | some t => cases b' <;> exact hk
  | some t =>
    cases b' with
    | none => cases hm rfl
    | some t' =>
      cases a with
      | none => cases hab rfl
      | some ta =>
        refine W.call [1, 3] (by decide) (by simp [two, winM]) (by simp) (args' := .ptr 0 0 :: r.map .d) (σ' := winS (some t)) ?_ rfl h ?_
        · show _ :: AV.subL _ _ (r.map .d) = _
          rw [subL_ds]; rfl
        · rintro v σ ⟨rfl, rfl⟩
          rw [closed_sub hx]
          exact hk
end Go.Proofs.Ytjibnmmpbpheiaa.Wi
