import Derived.Test.YtllcjdijkmancaaD16
set_option maxRecDepth 100000
set_option linter.unusedVariables false
set_option linter.unusedSimpArgs false
namespace Go.Proofs.Ytllcjdijkmancaa.Dy
open Go Go.Am
/-- The greedy cover from a place. -/
def cov (H N x : Nat) : List (Int × Int) := coverN H N (H + 1 - x) x
theorem cov_end {H N x : Nat} (h : H < x) : cov H N x = [] := by
  unfold cov
  rw [show H + 1 - x = 0 from by omega]
  rfl
theorem coverN_fuel (H N : Nat) : ∀ (f g x : Nat), H + 1 - x ≤ f → H + 1 - x ≤ g → coverN H N f x = coverN H N g x
  | 0, 0, _, _, _ => rfl
  | 0, g + 1, x, h, _ => by rw [coverN, coverN, if_neg (by omega)]
  | f + 1, 0, x, _, h => by rw [coverN, coverN, if_neg (by omega)]
  | f + 1, g + 1, x, h1, h2 => by
    rw [coverN, coverN]
    split
    · have := Nat.one_le_two_pow (n := inner x H N N 0)
      rw [coverN_fuel H N f g _ (by omega) (by omega)]
    · rfl
theorem cov_step {H N x : Nat} (h : x ≤ H) : cov H N x = (((N - inner x H N N 0 : Nat) : Int), ((x / 2 ^ inner x H N N 0 : Nat) : Int)) :: cov H N (x + 2 ^ inner x H N N 0) := by
  have := Nat.one_le_two_pow (n := inner x H N N 0)
  show coverN H N (H + 1 - x) x = _
  rw [show H + 1 - x = (H - x) + 1 from by omega, coverN, if_pos h]
  exact congrArg _ (coverN_fuel H N _ _ _ (by omega) (by omega))
theorem inner_eq {x H N k : Nat} (h1 : ∀ b, b < k → b < N ∧ x % 2 ^ (b + 1) = 0 ∧ x + 2 ^ (b + 1) ≤ H + 1) (h2 : ¬ (k < N ∧ x % 2 ^ (k + 1) = 0 ∧ x + 2 ^ (k + 1) ≤ H + 1)) : ∀ (f b : Nat), b ≤ k → k ≤ b + f → inner x H N f b = k
  | 0, b, h, h' => by rw [inner]; omega
  | f + 1, b, h, h' => by
    rw [inner]
    by_cases hb : b < k
    · rw [if_pos (h1 b hb)]
      exact inner_eq h1 h2 f (b + 1) hb (by omega)
    · have : b = k := by omega
      subst this
      rw [if_neg h2]
/-- The reference's cover, over the numbers. -/
def refN (lo H N : Nat) : Nat → Nat → List (Int × Int)
  | 0, i => if i > H ∨ i + 1 ≤ lo then [] else [((N : Int), (i : Int))]
  | d + 1, i => if i * 2 ^ (d + 1) > H ∨ i * 2 ^ (d + 1) + 2 ^ (d + 1) ≤ lo then []
    else if lo ≤ i * 2 ^ (d + 1) ∧ i * 2 ^ (d + 1) + 2 ^ (d + 1) ≤ H + 1 then [(((N - (d + 1) : Nat) : Int), (i : Int))]
    else refN lo H N d (2 * i) ++ refN lo H N d (2 * i + 1)
theorem one_step {lo H N d i : Nat} (hd : d ≤ N) (h1 : lo ≤ i * 2 ^ d) (h2 : i * 2 ^ d + 2 ^ d ≤ H + 1) (hp : d = N ∨ ¬ (lo ≤ (i / 2) * 2 ^ (d + 1) ∧ (i / 2) * 2 ^ (d + 1) + 2 ^ (d + 1) ≤ H + 1)) :
    cov H N (i * 2 ^ d) = [(((N - d : Nat) : Int), (i : Int))] ++ cov H N (i * 2 ^ d + 2 ^ d) := by
  have hs := Nat.one_le_two_pow (n := d)
  have e : inner (i * 2 ^ d) H N N 0 = d := by
    refine inner_eq (k := d) (fun b hb => ⟨by omega, ?_, ?_⟩) ?_ N 0 (by omega) (by omega)
    · have : 2 ^ (b + 1) ∣ 2 ^ d := Nat.pow_dvd_pow 2 hb
      exact Nat.mod_eq_zero_of_dvd (Nat.dvd_trans this (Nat.dvd_mul_left _ _))
    · have : 2 ^ (b + 1) ≤ 2 ^ d := Nat.pow_le_pow_right (by decide) hb
      omega
    · rintro ⟨h3, h4, h5⟩
      rcases hp with hp | hp
      · omega
      · apply hp
        have hpw : 2 ^ (d + 1) = 2 ^ d * 2 := Nat.pow_succ ..
        have hev : i % 2 = 0 := by
          rw [hpw, Nat.mul_comm i, Nat.mul_mod_mul_left] at h4
          rcases Nat.mul_eq_zero.1 h4 with h | h
          · omega
          · exact h
        have : (i / 2) * 2 ^ (d + 1) = i * 2 ^ d := by
          rw [hpw, Nat.mul_comm (2 ^ d) 2, ← Nat.mul_assoc]
          congr 1
          omega
        rw [this]
        exact ⟨h1, h5⟩
  rw [cov_step (by omega), e, Nat.mul_div_cancel _ hs]
  rfl
theorem refN_out {lo H N d i : Nat} (h : i * 2 ^ d > H ∨ i * 2 ^ d + 2 ^ d ≤ lo) : refN lo H N d i = [] := by
  cases d with
  | zero => rw [refN, if_pos (by simpa using h)]
  | succ d => rw [refN, if_pos h]
theorem refN_cov {lo H N : Nat} : ∀ (d i : Nat), d ≤ N → (d = N ∨ ¬ (lo ≤ (i / 2) * 2 ^ (d + 1) ∧ (i / 2) * 2 ^ (d + 1) + 2 ^ (d + 1) ≤ H + 1)) → lo < i * 2 ^ d + 2 ^ d →
    cov H N (max lo (i * 2 ^ d)) = refN lo H N d i ++ cov H N (i * 2 ^ d + 2 ^ d)
  | d, i, hd, hp, hl => by
    have hs := Nat.one_le_two_pow (n := d)
    by_cases ho : i * 2 ^ d > H
    · rw [refN_out (.inl ho), cov_end (by omega), cov_end (by omega)]
      rfl
    by_cases hc : lo ≤ i * 2 ^ d ∧ i * 2 ^ d + 2 ^ d ≤ H + 1
    · rw [Nat.max_eq_right hc.1, one_step hd hc.1 hc.2 hp]
      congr 1
      cases d with
      | zero => rw [refN, if_neg (by simp at *; omega)]; rfl
      | succ d => rw [refN, if_neg (by omega), if_pos hc]
    · cases d with
      | zero => simp at *; omega
      | succ d =>
        rw [refN, if_neg (by omega), if_neg hc]
        have e1 : 2 ^ (d + 1) = 2 ^ d * 2 := Nat.pow_succ ..
        have e2 : i * 2 ^ (d + 1) = (2 * i) * 2 ^ d := by rw [e1, Nat.mul_comm (2 ^ d) 2, ← Nat.mul_assoc, Nat.mul_comm i 2]
        have e3 : (2 * i + 1) * 2 ^ d = (2 * i) * 2 ^ d + 2 ^ d := by rw [Nat.add_mul, Nat.one_mul]
        have q1 : 2 * i / 2 = i := by omega
        have q2 : (2 * i + 1) / 2 = i := by omega
        have hR := refN_cov (lo := lo) (H := H) (N := N) d (2 * i + 1) (by omega) (.inr (by rw [q2]; exact hc)) (by omega)
        rw [List.append_assoc]
        by_cases hll : lo < (2 * i) * 2 ^ d + 2 ^ d
        · have hL := refN_cov (lo := lo) (H := H) (N := N) d (2 * i) (by omega) (.inr (by rw [q1]; exact hc)) hll
          rw [e2, hL, ← e3]
          rw [Nat.max_eq_right (by omega)] at hR
          rw [hR, e3]
          congr 3
          omega
        · rw [refN_out (d := d) (i := 2 * i) (.inr (by omega)), e2, List.nil_append]
          rw [Nat.max_eq_left (by omega)] at hR ⊢
          rw [hR, e3]
          congr 2
          omega
  termination_by d => d
theorem refC_refN {lo H N : Nat} : ∀ (d i : Nat), d ≤ N → refC lo H N (d + 1) ((N - d : Nat) : Int) (i : Int) = refN lo H N d i
  | d, i, hd => by
    have e1 : ((N : Int) - ((N - d : Nat) : Int)).toNat = d := by omega
    have e2 : (i : Int) * 2 ^ d = ((i * 2 ^ d : Nat) : Int) := by simp
    have e3 : (2 : Int) ^ d = ((2 ^ d : Nat) : Int) := by simp
    have hs := Nat.one_le_two_pow (n := d)
    rw [refC, e1, e2, e3]
    by_cases ho : i * 2 ^ d > H ∨ i * 2 ^ d + 2 ^ d ≤ lo
    · rw [refN_out ho, if_pos (by omega)]
    · rw [if_neg (by omega)]
      by_cases hc : lo ≤ i * 2 ^ d ∧ i * 2 ^ d + 2 ^ d ≤ H + 1
      · rw [if_pos (by omega)]
        cases d with
        | zero => rw [refN, if_neg (by simp at *; omega)]; rfl
        | succ d => rw [refN, if_neg (by omega), if_pos hc]
      · rw [if_neg (by omega)]
        cases d with
        | zero => simp at *; omega
        | succ d =>
          rw [refN, if_neg (by omega), if_neg hc, ← refC_refN d (2 * i) (by omega), ← refC_refN d (2 * i + 1) (by omega)]
          have : ((N - (d + 1) : Nat) : Int) + 1 = ((N - d : Nat) : Int) := by omega
          rw [this]
          rfl
  termination_by d => d
/-- The reference's cover is the program's. -/
theorem refCover_cover (lo hi n : Int) : refCover lo hi n = cover lo hi n := by
  unfold refCover cover
  by_cases h : lo ≤ hi ∧ good n lo n = true ∧ good n hi n = true
  · rw [if_pos h, if_pos h]
    obtain ⟨h0, hg1, hg2⟩ := h
    obtain ⟨a1, a2, a3, a4, a5, a6⟩ := good_iff.1 hg1
    obtain ⟨b1, b2, b3, b4, b5, b6⟩ := good_iff.1 hg2
    obtain ⟨N, rfl⟩ : ∃ N : Nat, n = N := ⟨n.toNat, by omega⟩
    obtain ⟨H, rfl⟩ : ∃ H : Nat, hi = H := ⟨hi.toNat, by omega⟩
    obtain ⟨X, rfl⟩ : ∃ X : Nat, lo = X := ⟨lo.toNat, by omega⟩
    have hH : H < 2 ^ N := by
      have : ((2 : Int) ^ ((N : Int).toNat)) = ((2 ^ N : Nat) : Int) := by simp
      omega
    have k1 := refC_refN (lo := X) (H := H) (N := N) N 0 (Nat.le_refl _)
    have k2 := refN_cov (lo := X) (H := H) (N := N) N 0 (Nat.le_refl _) (.inl rfl) (by omega)
    rw [cov_end (x := 0 * 2 ^ N + 2 ^ N) (by omega), List.append_nil, Nat.zero_mul, Nat.max_eq_left (by omega)] at k2
    simp only [Nat.sub_self] at k1
    rw [Int.toNat_natCast]
    have : ((0 : Nat) : Int) = 0 := rfl
    rw [this] at k1
    rw [k1, ← k2, cov]
    simp only [Int.toNat_natCast]
    congr 1
    omega
  · rw [if_neg h, if_neg h]
end Go.Proofs.Ytllcjdijkmancaa.Dy
