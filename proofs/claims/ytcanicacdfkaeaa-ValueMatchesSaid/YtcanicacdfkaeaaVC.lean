import Derived.Test.YtcanicacdfkaeaaVB
set_option maxRecDepth 100000
set_option linter.unusedVariables false
set_option linter.unusedSimpArgs false
namespace Go.Proofs.Ytcanicacdfkaeaa.Va
open Go Go.Am
/-! ### schemas -/
theorem chkFrom_get (s : List Att) : ∀ (r : List Att) (i : Nat), chkFrom s r i = none → ∀ (j : Nat) (a : Att), r[j]? = some a → attBad s (i + j) a = false
  | [], _, _, j, a, h => by simp at h
  | b :: r, i, h, j, a, ha => by
    unfold chkFrom at h
    split at h
    · cases h
    · rename_i hb
      cases j with
      | zero =>
        obtain rfl : b = a := by simpa using ha
        simpa using hb
      | succ j =>
        have := chkFrom_get s r (i + 1) h j a (by simpa using ha)
        rw [show i + (j + 1) = i + 1 + j from by omega]
        exact this
theorem chk_get {s : List Att} (h : chkErr s = none) : 1 ≤ s.length ∧ s.length ≤ 4 ∧ ∀ (j : Nat) (a : Att), s[j]? = some a → attBad s j a = false := by
  unfold chkErr at h
  split at h
  · cases h
  · rename_i hn
    refine ⟨by omega, by omega, fun j a ha => ?_⟩
    have := chkFrom_get s s 0 h j a ha
    rwa [Nat.zero_add] at this
/-- An attribute in form. -/
def goodT (a : Att) : Prop := nameOk a.nm = true ∧ ((a.k = 1 ∧ -2147483648 ≤ a.mn ∧ a.mx ≤ 2147483648 ∧ a.mn ≤ a.mx) ∨ (a.k = 2 ∧ a.mn = 0 ∧ a.mx = 0))
theorem attBad_good {s : List Att} {j : Nat} {a : Att} (hj : attBad s j a = false) : goodT a ∧ (s.take j).any (fun b => sEq b.nm a.nm) = false := by
  unfold attBad at hj
  simp only [Bool.or_eq_false_iff, Bool.not_eq_false'] at hj
  obtain ⟨h1, h2, hj⟩ := hj
  refine ⟨⟨h1, ?_⟩, h2⟩
  by_cases hk : a.k = 1
  · rw [if_pos hk] at hj
    simp only [Bool.or_eq_false_iff, decide_eq_false_iff_not] at hj
    exact .inl ⟨hk, by omega, by omega, by omega⟩
  · rw [if_neg hk] at hj
    simp only [Bool.or_eq_false_iff, bne_eq_false_iff_eq] at hj
    exact .inr hj
theorem ixF_first {α : Type} (p : α → Bool) : ∀ (l : List α) (i j : Nat) (x : α), l[j]? = some x → p x = true → (l.take j).any p = false → ixF p l i = ((i + j : Nat) : Int)
  | [], _, j, x, h, _, _ => by simp at h
  | y :: l, i, 0, x, h, hp, _ => by
    obtain rfl : y = x := by simpa using h
    unfold ixF
    rw [if_pos hp]
    rfl
  | y :: l, i, j + 1, x, h, hp, hn => by
    simp only [List.take_succ_cons, List.any_cons, Bool.or_eq_false_iff] at hn
    unfold ixF
    rw [if_neg (by rw [hn.1]; decide), ixF_first p l (i + 1) j x (by simpa using h) hp hn.2]
    congr 1
    omega
theorem find_own {s : List Att} (h : chkErr s = none) {j : Nat} {a : Att} (ha : s[j]? = some a) : findA s a.nm = j ∧ attOf s a.nm = a ∧ goodT a := by
  obtain ⟨g, hn⟩ := attBad_good ((chk_get h).2.2 j a ha)
  have : findA s a.nm = j := by
    unfold findA
    rw [ixF_first _ s 0 j a ha (sEq_refl _) hn, Nat.zero_add]
  refine ⟨this, ?_, g⟩
  unfold attOf
  rw [this]
  simp [ha]
theorem fitsFrom_get : ∀ (s : List Att) (vs : List Val) (i : Nat), fitsFrom s vs i = none → ∀ (j : Nat) (a : Att) (v : Val), s[j]? = some a → vs[j]? = some v → fitV a v = true
  | [], _, _, _, j, a, v, h, _ => by simp at h
  | _ :: _, [], _, _, j, a, v, _, h => by simp at h
  | b :: s, u :: vs, i, h, j, a, v, ha, hv => by
    unfold fitsFrom at h
    split at h
    · rename_i hf
      cases j with
      | zero =>
        obtain rfl : b = a := by simpa using ha
        obtain rfl : u = v := by simpa using hv
        exact hf
      | succ j => exact fitsFrom_get s vs (i + 1) h j a v (by simpa using ha) (by simpa using hv)
    · cases h
theorem evt_fits {s : List Att} {e : Evt} (h : evtErr s e = none) {j : Nat} {a : Att} (ha : s[j]? = some a) : ∃ v, e.vals[j]? = some v ∧ fitV a v = true := by
  have hl := evtErr_none h
  have hj := (List.getElem?_eq_some_iff.1 ha).1
  obtain ⟨v, hv⟩ : ∃ v, e.vals[j]? = some v := ⟨_, List.getElem?_eq_getElem (by omega)⟩
  unfold evtErr at h
  split at h
  · cases h
  · exact ⟨v, hv, fitsFrom_get s e.vals 0 h j a v ha hv⟩
end Go.Proofs.Ytcanicacdfkaeaa.Va
