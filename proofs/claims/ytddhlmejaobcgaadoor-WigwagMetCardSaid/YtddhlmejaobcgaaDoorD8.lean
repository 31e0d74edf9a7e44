import Derived.Test.YtddhlmejaobcgaaDoorD7
set_option maxRecDepth 100000
set_option linter.unusedVariables false
set_option linter.unusedSimpArgs false
namespace Go.Proofs.YtddhlmejaobcgaaDoor.Dy
open Go Go.Am
/-- How often p is in l. -/
def cnt (p : Int × Int) : List (Int × Int) → Nat
  | [] => 0
  | q :: r => (if p.1 = q.1 ∧ p.2 = q.2 then 1 else 0) + cnt p r
def cnt2 (l : List (Int × Int)) : List (Int × Int) → Nat
  | [] => 0
  | p :: r => cnt p l + cnt2 l r
theorem cnt2_append (l : List (Int × Int)) : ∀ a b, cnt2 l (a ++ b) = cnt2 l a + cnt2 l b
  | [], b => by simp [cnt2]
  | p :: r, b => by simp [cnt2, cnt2_append l r b]; omega
theorem cnt_append (p : Int × Int) : ∀ a b, cnt p (a ++ b) = cnt p a + cnt p b
  | [], b => by simp [cnt]
  | q :: r, b => by simp [cnt, cnt_append p r b]; omega
theorem cnt2_cons (q : Int × Int) (r : List (Int × Int)) : ∀ c, cnt2 (q :: r) c = cnt q c + cnt2 r c
  | [] => by simp [cnt2, cnt]
  | p :: c => by
    simp only [cnt2, cnt, cnt2_cons q r c]
    have : (p.1 = q.1 ∧ p.2 = q.2) = (q.1 = p.1 ∧ q.2 = p.2) := by simp [eq_comm]
    simp only [this]
    omega
theorem cnt_chain (cell n : Int) (L : Nat) (i : Int) : ∀ k, cnt ((L : Int), i) (chainI cell n k) = if L < k ∧ cell.fdiv (2 ^ (n - L).toNat) = i then 1 else 0
  | 0 => by simp [chainI, cnt]
  | k + 1 => by
    have : chainI cell n (k + 1) = chainI cell n k ++ [((k : Int), cell.fdiv (2 ^ (n - k).toNat))] := by
      rw [chainI, List.range_succ, List.map_append]; rfl
    rw [this, cnt_append, cnt_chain cell n L i k]
    simp only [cnt, Nat.add_zero]
    by_cases h : L = k
    · subst h
      generalize cell.fdiv (2 ^ (n - L).toNat) = v
      by_cases h2 : v = i
      · simp [h2]
      · have h3 : ¬ i = v := fun e => h2 e.symm
        simp [h2, h3]
    · have h' : ¬ (L : Int) = k := by omega
      have : (L < k + 1) = (L < k) := by simp; omega
      simp [h', this]
theorem has_iff {l i n cell : Int} (h : good l i n = true) : cell.fdiv (2 ^ (n - l).toNat) = i ↔ (cells l i n).1 ≤ cell ∧ cell ≤ (cells l i n).2 := by
  rw [cells_good h, fdiv_two]
  have hp : (0 : Int) < 2 ^ (n - l).toNat := Int.pow_pos (by omega)
  simp only
  constructor
  · intro e
    have e1 := Int.emod_add_mul_ediv cell (2 ^ (n - l).toNat)
    have m1 := Int.emod_nonneg cell (Int.ne_of_gt hp)
    have m2 := Int.emod_lt_of_pos cell hp
    rw [e, Int.mul_comm] at e1
    rw [Int.add_mul, Int.one_mul]
    omega
  · intro ⟨h1, h2⟩
    rw [Int.add_mul, Int.one_mul] at h2
    apply Int.le_antisymm
    · have : cell / 2 ^ (n - l).toNat < i + 1 := Int.ediv_lt_of_lt_mul hp (by rw [Int.add_mul, Int.one_mul]; omega)
      omega
    · exact Int.le_ediv_of_mul_le hp h1
theorem cnt2_tiles {cell n : Int} (hg : good n cell n = true) : ∀ (l : List (Int × Int)) (x y : Int), Tiles n x l y → cnt2 l (chain cell n) = (if x ≤ cell ∧ cell < y then 1 else 0) ∧ x ≤ y
  | [], x, y, h => by
    have h : x = y := h
    subst h
    have e : ∀ c, cnt2 [] c = 0 := fun c => by
      induction c with
      | nil => rfl
      | cons p r ih => simp [cnt2, cnt, ih]
    rw [e, if_neg (by omega)]
    exact ⟨rfl, Int.le_refl _⟩
  | (l, i) :: r, x, y, ⟨h1, h2, h3⟩ => by
    obtain ⟨k1, k2⟩ := cnt2_tiles hg r _ y h3
    obtain ⟨g1, g2, g3, g4, g5, g6⟩ := good_iff.1 h1
    have hi := has_iff (cell := cell) h1
    rw [cnt2_cons, k1]
    have hc : cnt (l, i) (chain cell n) = if (cells l i n).1 ≤ cell ∧ cell ≤ (cells l i n).2 then 1 else 0 := by
      obtain ⟨L, rfl⟩ : ∃ L : Nat, l = L := ⟨l.toNat, by simp only at g3; omega⟩
      simp only [chain, hg, if_true]
      rw [cnt_chain]
      have : (L < (n + 1).toNat ∧ cell.fdiv (2 ^ (n - L).toNat) = i) = ((cells L i n).1 ≤ cell ∧ cell ≤ (cells L i n).2) := by
        simp only [← hi]
        simp only at g4
        have : L < (n + 1).toNat := by omega
        simp [this]
      simp only [this]
    rw [hc]
    have hlt : (cells l i n).1 ≤ (cells l i n).2 := by
      rw [cells_good h1]
      have hp : (0 : Int) < 2 ^ (n - l).toNat := Int.pow_pos (by omega)
      simp only [Int.add_mul, Int.one_mul]
      omega
    dsimp only at *
    subst h2
    refine ⟨?_, by omega⟩
    by_cases c1 : (cells l i n).1 ≤ cell ∧ cell ≤ (cells l i n).2
    · rw [if_pos c1, if_neg (by omega), if_pos (by omega)]
    · rw [if_neg c1]
      by_cases c2 : (cells l i n).2 + 1 ≤ cell ∧ cell < y
      · rw [if_pos c2, if_pos (by omega)]
      · rw [if_neg c2, if_neg (by omega)]
theorem chain_len (c n : Int) : (chain c n).length ≤ 1000 := by
  unfold chain
  split
  · rename_i h
    obtain ⟨h1, h2, h3, h4, h5, h6⟩ := good_iff.1 h
    simp [chainI]; omega
  · simp
theorem cover_len (lo hi n : Int) : (cover lo hi n).length ≤ 1000 := by
  by_cases h : cover lo hi n = []
  · rw [h]; simp
  · obtain ⟨N, H, X, rfl, rfl, rfl, h1, h2, h3, h4⟩ := cover_of_good (cover_good h)
    have := few h2 (H + 1 - X) X h3
    rw [h4]
    omega
end Go.Proofs.YtddhlmejaobcgaaDoor.Dy
