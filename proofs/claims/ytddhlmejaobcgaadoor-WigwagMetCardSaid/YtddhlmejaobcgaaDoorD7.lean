import Derived.Test.YtddhlmejaobcgaaDoorD3
set_option maxRecDepth 100000
set_option linter.unusedVariables false
set_option linter.unusedSimpArgs false
namespace Go.Proofs.YtddhlmejaobcgaaDoor.Dy
open Go Go.Am
theorem ivs_rd : ∀ (l : List (Int × Int)) (i : Nat) (p : Int × Int), l[i]? = some p → rdD (ivs l) (i * 2) = nI p.1 ∧ rdD (ivs l) (i * 2 + 1) = nI p.2
  | q :: r, 0, p, h => by simp at h; subst h; exact ⟨rfl, rfl⟩
  | q :: r, i + 1, p, h => by
    have := ivs_rd r i p (by simpa using h)
    rw [show (i + 1) * 2 = i * 2 + 2 from by omega]
    exact this
theorem ivs_ne {l : List (Int × Int)} {i : Nat} (h : i < l.length) : ivs l ≠ [] := fun e => by
  have := ivs_length l
  rw [e] at this
  simp at this
  omega
/-- A load of interval i. -/
theorem ivs_load {l : List (Int × Int)} {i : Nat} {p : Int × Int} (h : l[i]? = some p) : i * 2 + 2 ≤ (ivs l).length ∧ formedOk (ivs l) [.int .i64, .int .i64] (i * 2) := by
  obtain ⟨e1, e2⟩ := ivs_rd l i p h
  have := (List.getElem?_eq_some_iff.1 h).1
  refine ⟨by rw [ivs_length]; omega, ?_, ?_, True.intro⟩
  · show rdD _ _ = .lit (.int .i64 (rdD _ _).toI)
    rw [e1]; rfl
  · show rdD _ _ = .lit (.int .i64 (rdD _ _).toI)
    rw [e2]; rfl
theorem fdiv_two (c : Int) (k : Nat) : c.fdiv (2 ^ k) = c / 2 ^ k := Int.fdiv_eq_ediv_of_nonneg _ (Int.le_of_lt (Int.pow_pos (by omega)))
/-- The interval of a chain has its cell. -/
theorem chain_has {cell n : Int} (hg : good n cell n = true) {i : Nat} (hi : (i : Int) ≤ n) :
    good i (cell.fdiv (2 ^ (n - i).toNat)) n = true ∧ cell.fdiv (2 ^ (n - i).toNat) * 2 ^ (n - i).toNat ≤ cell ∧ cell < (cell.fdiv (2 ^ (n - i).toNat) + 1) * 2 ^ (n - i).toNat := by
  obtain ⟨h1, h2, h3, h4, h5, h6⟩ := good_iff.1 hg
  rw [fdiv_two]
  have hp : (0 : Int) < 2 ^ (n - i).toNat := Int.pow_pos (by omega)
  have e := Int.emod_add_mul_ediv cell (2 ^ (n - i).toNat)
  have m1 := Int.emod_nonneg cell (Int.ne_of_gt hp)
  have m2 := Int.emod_lt_of_pos cell hp
  rw [Int.mul_comm] at e
  have q0 : 0 ≤ cell / 2 ^ (n - i).toNat := Int.ediv_nonneg h5 (Int.le_of_lt hp)
  refine ⟨good_iff.2 ⟨h1, h2, by omega, hi, q0, ?_⟩, by omega, by rw [Int.add_mul]; omega⟩
  have : (2 : Int) ^ n.toNat = 2 ^ (i : Int).toNat * 2 ^ (n - i).toNat := by
    rw [← Int.pow_add]; congr 1; omega
  rw [this] at h6
  exact Int.ediv_lt_of_lt_mul hp h6
theorem ivs_toI {l : List (Int × Int)} {i : Nat} {p : Int × Int} (h : l[i]? = some p) : (rdD (ivs l) (i * 2)).toI = p.1 ∧ (rdD (ivs l) (i * 2 + 1)).toI = p.2 := by
  obtain ⟨e1, e2⟩ := ivs_rd l i p h
  rw [e1, e2]
  exact ⟨rfl, rfl⟩
theorem cells_le {l i n : Int} (h : good l i n = true) : 0 ≤ (cells l i n).1 ∧ (cells l i n).1 ≤ (cells l i n).2 ∧ (cells l i n).2 < 256 := by
  obtain ⟨g1, g2, g3, g4, g5, g6⟩ := good_iff.1 h
  rw [cells_good h]
  have hb := pow2_mul (a := l.toNat) (b := (n - l).toNat) (by omega) g5 (by omega)
  have hb' := pow2_mul (a := l.toNat) (b := (n - l).toNat) (by omega) (i := i + 1) (by omega) (by omega)
  have hp : (0 : Int) < 2 ^ (n - l).toNat := Int.pow_pos (by omega)
  simp only [Int.add_mul, Int.one_mul] at *
  omega
/-- Intervals, one behind the other, from x on to y (not with it). -/
def Tiles (n : Int) : Int → List (Int × Int) → Int → Prop
  | x, [], y => x = y
  | x, p :: r, y => good p.1 p.2 n = true ∧ (cells p.1 p.2 n).1 = x ∧ Tiles n ((cells p.1 p.2 n).2 + 1) r y
theorem inner_div (lo hi n : Nat) : ∀ (f b : Nat), lo % 2 ^ b = 0 → lo % 2 ^ inner lo hi n f b = 0
  | 0, b, h => h
  | f + 1, b, h => by
    unfold inner
    split
    · rename_i h1
      exact inner_div lo hi n f (b + 1) h1.2.1
    · exact h
theorem cover_tiles {H N : Nat} (hN : N ≤ 8) (hH : H < 2 ^ N) : ∀ (f x : Nat), x ≤ H + 1 → H + 1 - x ≤ f → Tiles N x (coverN H N f x) ((H + 1 : Nat) : Int)
  | 0, x, h1, h2 => by
    have : x = H + 1 := by omega
    subst this
    rfl
  | f + 1, x, h1, h2 => by
    unfold coverN
    split
    · rename_i hx
      have hB := inner_le x H N N 0 (by omega)
      have hfit := inner_fits x H N hx N 0 (by omega)
      have hdiv := inner_div x H N N 0 (by simp [Nat.mod_one])
      generalize inner x H N N 0 = b at *
      have hp := pow2N (k := b) (by omega)
      have hx2 : x / 2 ^ b * 2 ^ b = x := Nat.div_mul_cancel (Nat.dvd_of_mod_eq_zero hdiv)
      have hg : good ((N - b : Nat) : Int) ((x / 2 ^ b : Nat) : Int) N = true := by
        refine good_iff.2 ⟨by omega, by omega, by omega, by omega, Int.natCast_nonneg _, ?_⟩
        have e : (2 : Int) ^ (((N - b : Nat) : Int)).toNat = ((2 ^ (N - b) : Nat) : Int) := by simp
        rw [e]
        have : 2 ^ N = 2 ^ (N - b) * 2 ^ b := by rw [← Nat.pow_add]; congr 1; omega
        have h3 : x / 2 ^ b < 2 ^ (N - b) := by
          rw [Nat.div_lt_iff_lt_mul (by omega), ← this]
          omega
        exact_mod_cast h3
      have hc := cells_good hg
      have e2 : ((N : Int) - ((N - b : Nat) : Int)).toNat = b := by omega
      rw [e2] at hc
      have e3 : (2 : Int) ^ b = ((2 ^ b : Nat) : Int) := by simp
      have e4 : ((x / 2 ^ b : Nat) : Int) * ((2 ^ b : Nat) : Int) = x := by exact_mod_cast hx2
      refine ⟨hg, by rw [hc, e3]; exact e4, ?_⟩
      have hnext : (cells ((N - b : Nat) : Int) ((x / 2 ^ b : Nat) : Int) N).2 + 1 = ((x + 2 ^ b : Nat) : Int) := by
        rw [hc, e3]
        simp only [Int.add_mul, e4]
        omega
      rw [hnext]
      exact cover_tiles hN hH f (x + 2 ^ b) (by omega) (by omega)
    · have : x = H + 1 := by omega
      subst this
      rfl
theorem cover_good {lo hi n : Int} (h : cover lo hi n ≠ []) : lo ≤ hi ∧ good n lo n = true ∧ good n hi n = true := by
  unfold cover at h
  split at h
  · assumption
  · exact absurd rfl h
theorem cover_of_good {lo hi n : Int} (h : lo ≤ hi ∧ good n lo n = true ∧ good n hi n = true) : ∃ (N H X : Nat), n = N ∧ hi = H ∧ lo = X ∧ N ≤ 8 ∧ H < 2 ^ N ∧ X ≤ H ∧ cover lo hi n = coverN H N (H + 1 - X) X := by
  obtain ⟨hlh, hg1, hg2⟩ := h
  obtain ⟨a1, a2, a3, a4, a5, a6⟩ := good_iff.1 hg1
  obtain ⟨b1, b2, b3, b4, b5, b6⟩ := good_iff.1 hg2
  obtain ⟨N, rfl⟩ : ∃ N : Nat, n = N := ⟨n.toNat, by omega⟩
  obtain ⟨H, rfl⟩ : ∃ H : Nat, hi = H := ⟨hi.toNat, by omega⟩
  obtain ⟨X, rfl⟩ : ∃ X : Nat, lo = X := ⟨lo.toNat, by omega⟩
  have e : ((2 : Int) ^ ((N : Int).toNat)) = ((2 ^ N : Nat) : Int) := by simp
  refine ⟨N, H, X, rfl, rfl, rfl, by omega, by omega, by omega, ?_⟩
  simp only [cover, hlh, hg1, hg2, and_self, if_true]
  congr 1
  omega
theorem tiles_of_cover {lo hi n : Int} (h : cover lo hi n ≠ []) : Tiles n lo (cover lo hi n) (hi + 1) := by
  obtain ⟨N, H, X, rfl, rfl, rfl, h1, h2, h3, h4⟩ := cover_of_good (cover_good h)
  rw [h4]
  have := cover_tiles h1 h2 (H + 1 - X) X (by omega) (by omega)
  exact this
theorem cover_nil {lo hi n : Int} (h : cover lo hi n = []) : ¬ (lo ≤ hi ∧ good n lo n = true ∧ good n hi n = true) := fun hg => by
  obtain ⟨N, H, X, rfl, rfl, rfl, h1, h2, h3, h4⟩ := cover_of_good hg
  rw [h4] at h
  obtain ⟨k, hk⟩ : ∃ k, H + 1 - X = k + 1 := ⟨H - X, by omega⟩
  rw [hk, coverN, if_pos h3] at h
  cases h
/-- The reason why no greater interval was taken. -/
theorem inner_stop (lo hi n : Nat) : ∀ (f b : Nat), b ≤ n → n ≤ b + f → inner lo hi n f b = n ∨ lo % 2 ^ (inner lo hi n f b + 1) ≠ 0 ∨ hi + 1 < lo + 2 ^ (inner lo hi n f b + 1)
  | 0, b, h1, h2 => .inl (by show b = n; omega)
  | f + 1, b, h1, h2 => by
    unfold inner
    split
    · rename_i h
      exact inner_stop lo hi n f (b + 1) h.1 (by omega)
    · omega
theorem few_end {H N : Nat} : ∀ (k f x : Nat), k ≤ N → x % 2 ^ k = 0 → H + 1 - x < 2 ^ k → (coverN H N f x).length ≤ k
  | k, 0, x, _, _, _ => by simp [coverN]
  | k, f + 1, x, hk, hx, hR => by
    unfold coverN
    split
    · rename_i hle
      have h1 := inner_le x H N N 0 (by omega)
      have h2 := inner_fits x H N hle N 0 (by omega)
      have h3 := inner_stop x H N N 0 (by omega) (by omega)
      generalize inner x H N N 0 = b at *
      have hb : b < k := by
        rcases Nat.lt_or_ge b k with h | h
        · exact h
        · have := Nat.pow_le_pow_right (n := 2) (by omega) h
          omega
      have hdv : ∀ j, j ≤ k → x % 2 ^ j = 0 := fun j hj => Nat.mod_eq_zero_of_dvd (Nat.dvd_trans (Nat.pow_dvd_pow 2 hj) (Nat.dvd_of_mod_eq_zero hx))
      have h4 : H + 1 < x + 2 ^ (b + 1) := by
        rcases h3 with h | h | h
        · omega
        · exact absurd (hdv (b + 1) hb) h
        · exact h
      have h5 : 2 ^ (b + 1) = 2 ^ b * 2 := Nat.pow_succ ..
      have := few_end (H := H) (N := N) b f (x + 2 ^ b) (by omega) (by rw [Nat.add_mod_right]; exact hdv b (by omega)) (by omega)
      simp
      omega
    · simp
theorem few_mid {H N : Nat} (hN : 2 ≤ N) (hH : H < 2 ^ N) : ∀ (m j f x : Nat), j + m = N - 1 → 0 < x → x % 2 ^ j = 0 → (coverN H N f x).length ≤ m + (N - 1)
  | m, j, 0, x, _, _, _ => by simp [coverN]
  | m, j, f + 1, x, hm, hx0, hx => by
    unfold coverN
    split
    · rename_i hle
      have h1 := inner_le x H N N 0 (by omega)
      have h2 := inner_fits x H N hle N 0 (by omega)
      have h3 := inner_stop x H N N 0 (by omega) (by omega)
      have h0 := inner_div x H N N 0 (by simp [Nat.mod_one])
      generalize inner x H N N 0 = b at *
      have hN2 : 2 ^ N = 2 ^ (N - 1) * 2 := by rw [← Nat.pow_succ]; congr 1; omega
      have hbN : b ≤ N - 1 := by
        rcases Nat.lt_or_ge b N with h | h
        · omega
        · have : b = N := by omega
          subst this
          omega
      have h5 : 2 ^ (b + 1) = 2 ^ b * 2 := Nat.pow_succ ..
      obtain ⟨q, hq⟩ := Nat.dvd_of_mod_eq_zero h0
      have hend : H + 1 < x + 2 ^ (b + 1) → (coverN H N f (x + 2 ^ b)).length + 1 ≤ m + (N - 1) := fun h4 => by
        have := few_end (H := H) (N := N) b f (x + 2 ^ b) (by omega) (by rw [Nat.add_mod_right]; exact h0) (by omega)
        rcases Nat.lt_or_ge b (N - 1) with h | h
        · omega
        · have hb : b = N - 1 := by omega
          have hq1 : 1 ≤ q := by
            rcases Nat.eq_zero_or_pos q with h | h
            · subst h; omega
            · exact h
          have hge : 2 ^ b ≤ x := by rw [hq]; exact Nat.le_mul_of_pos_right _ hq1
          have hz : ¬ x + 2 ^ b ≤ H := by rw [← hb] at hN2; omega
          cases f with
          | zero => simp [coverN]; omega
          | succ f => rw [coverN, if_neg hz]; simp; omega
      rcases h3 with h | h | h
      · omega
      · rcases Nat.lt_or_ge H (x + 2 ^ b) with hz | hz
        · cases f with
          | zero => simp [coverN]; omega
          | succ f => simp only [coverN, List.length_cons]; rw [if_neg (by omega)]; simp; omega
        · have hjb : j ≤ b := by
            rcases Nat.lt_or_ge b j with h' | h'
            · exact absurd (Nat.mod_eq_zero_of_dvd (Nat.dvd_trans (Nat.pow_dvd_pow 2 h') (Nat.dvd_of_mod_eq_zero hx))) h
            · exact h'
          have hodd : (x + 2 ^ b) % 2 ^ (b + 1) = 0 := by
            have hq2 : q % 2 = 1 := by
              rcases Nat.mod_two_eq_zero_or_one q with h' | h'
              · obtain ⟨r, rfl⟩ := Nat.dvd_of_mod_eq_zero h'
                exact absurd (by rw [hq, h5, ← Nat.mul_assoc]; exact Nat.mul_mod_right _ _) h
              · exact h'
            have : x + 2 ^ b = 2 ^ (b + 1) * ((q + 1) / 2) := by
              have e : q + 1 = 2 * ((q + 1) / 2) := by omega
              rw [hq, h5, Nat.mul_assoc, ← e, Nat.mul_add, Nat.mul_one]
            rw [this]
            exact Nat.mul_mod_right _ _
          have hb1 : b + 1 ≤ N - 1 := by
            rcases Nat.lt_or_ge (b + 1) N with h' | h'
            · omega
            · have hb : b + 1 = N := by omega
              rw [hb] at hodd
              obtain ⟨r, hr⟩ := Nat.dvd_of_mod_eq_zero hodd
              have : 1 ≤ r := by
                rcases Nat.eq_zero_or_pos r with h | h
                · subst h; omega
                · exact h
              have : 2 ^ N ≤ x + 2 ^ b := by rw [hr]; exact Nat.le_mul_of_pos_right _ this
              omega
          have := few_mid hN hH (N - 1 - (b + 1)) (b + 1) f (x + 2 ^ b) (by omega) (by omega) hodd
          simp
          omega
      · simp
        exact hend h
    · simp
theorem few {H N : Nat} (hH : H < 2 ^ N) (f x : Nat) (hx : x ≤ H) : (coverN H N f x).length ≤ max 1 (2 * N - 2) := by
  rcases Nat.eq_zero_or_pos x with rfl | h0
  · cases f with
    | zero => simp [coverN]
    | succ f =>
      rw [coverN, if_pos hx]
      have h1 := inner_le 0 H N N 0 (by omega)
      have h2 := inner_fits 0 H N hx N 0 (by omega)
      have h3 := inner_stop 0 H N N 0 (by omega) (by omega)
      generalize inner 0 H N N 0 = b at *
      have h5 : 2 ^ (b + 1) = 2 ^ b * 2 := Nat.pow_succ ..
      rcases h3 with h | h | h
      · subst h
        have hz : ¬ 0 + 2 ^ b ≤ H := by omega
        cases f with
        | zero => simp [coverN]; omega
        | succ f => rw [coverN, if_neg hz]; simp; omega
      · exact absurd (Nat.zero_mod _) h
      · have := few_end (H := H) (N := N) b f (0 + 2 ^ b) h1.1 (by simp) (by omega)
        rcases Nat.lt_or_ge b N with hbN | hbN
        · simp only [List.length_cons]
          omega
        · have hb : b = N := by omega
          subst hb
          have hz : ¬ 0 + 2 ^ b ≤ H := by omega
          cases f with
          | zero => simp [coverN]; omega
          | succ f => rw [coverN, if_neg hz]; simp; omega
  · rcases Nat.lt_or_ge N 2 with hN | hN
    · have hH2 : H = 1 ∧ x = 1 := by
        have : N = 0 ∨ N = 1 := by omega
        rcases this with rfl | rfl <;> simp at hH <;> omega
      obtain ⟨rfl, rfl⟩ := hH2
      cases f with
      | zero => simp [coverN]
      | succ f =>
        rw [coverN, if_pos hx]
        have := Nat.one_le_two_pow (n := inner 1 1 N N 0)
        cases f with
        | zero => simp [coverN]; omega
        | succ f => rw [coverN, if_neg (by omega)]; simp; omega
    · have := few_mid hN hH (N - 1) 0 f x (by omega) h0 (by simp [Nat.mod_one])
      omega
end Go.Proofs.YtddhlmejaobcgaaDoor.Dy
