import Derived.Test.YtddhlmejaobcgaaDoorD21
import Derived.Test.YtddhlmejaobcgaaDoorV7
set_option maxRecDepth 100000
set_option linter.unusedVariables false
set_option linter.unusedSimpArgs false
namespace Go.Proofs.YtddhlmejaobcgaaDoor.Dy
open Go Go.Am Va
/-- The cell of a value of an attribute. -/
def cellA (a : Att) (v : Val) (n : Int) : Int := cellV a.k a.mn a.mx v.num v.str n
/-- An attribute in form. -/
def goodA (a : Att) : Prop := (a.k = 1 ∧ -2147483648 ≤ a.mn ∧ a.mx ≤ 2147483648 ∧ a.mn ≤ a.mx) ∨ (a.k = 2 ∧ a.mn = 0 ∧ a.mx = 0)
theorem chkFrom_none (s : List Att) : ∀ (r : List Att) (i : Nat), chkFrom s r i = none → ∀ a ∈ r, ∃ j, attBad s j a = false
  | [], _, _, a, h => by cases h
  | b :: r, i, h, a, ha => by
    unfold chkFrom at h
    split at h
    · cases h
    · rename_i hb
      rcases List.mem_cons.1 ha with rfl | ha
      · exact ⟨i, by simpa using hb⟩
      · exact chkFrom_none s r (i + 1) h a ha
theorem chk_good {s : List Att} (h : chkErr s = none) : ∀ a ∈ s, goodA a := fun a ha => by
  unfold chkErr at h
  split at h
  · cases h
  · obtain ⟨j, hj⟩ := chkFrom_none s s 0 h a ha
    unfold attBad at hj
    simp only [Bool.or_eq_false_iff] at hj
    obtain ⟨_, _, hj⟩ := hj
    by_cases hk : a.k = 1
    · rw [if_pos hk] at hj
      simp only [Bool.or_eq_false_iff, decide_eq_false_iff_not] at hj
      exact .inl ⟨hk, by omega, by omega, by omega⟩
    · rw [if_neg hk] at hj
      simp only [Bool.or_eq_false_iff, bne_eq_false_iff_eq] at hj
      exact .inr hj
theorem cellA_num {a : Att} {v : Val} {n : Int} (hk : a.k = 1) (h0 : 0 ≤ n) (h8 : n ≤ 8) (h1 : -2147483648 ≤ a.mn) (h2 : a.mx ≤ 2147483648) (h3 : a.mn ≤ v.num) (h4 : v.num ≤ a.mx) : cellA a v n = (v.num - a.mn) * 2 ^ n.toNat / (a.mx - a.mn + 1) := by
  unfold cellA cellV
  rw [if_neg (by omega), if_pos hk, if_neg (by omega)]
theorem cellA_txt {a : Att} {v : Val} {n : Int} (hk : a.k ≠ 1) (h0 : 0 ≤ n) (h8 : n ≤ 8) : cellA a v n = preI v.str 2 / 2 ^ (16 - n).toNat := by
  unfold cellA cellV
  rw [if_neg (by omega), if_neg hk]
theorem pow_split {n : Int} (h0 : 0 ≤ n) (h8 : n ≤ 8) : (65536 : Int) = 2 ^ n.toNat * 2 ^ (16 - n).toNat := by
  rw [← Int.pow_add]
  have : n.toNat + (16 - n).toNat = 16 := by omega
  rw [this]
  decide
theorem txt_range {x n : Int} (h0 : 0 ≤ n) (h8 : n ≤ 8) (hx : 0 ≤ x) (hx2 : x < 65536) : 0 ≤ x / 2 ^ (16 - n).toNat ∧ x / 2 ^ (16 - n).toNat < 2 ^ n.toNat := by
  have hp := pow2_le16 (k := (16 - n).toNat) (by omega)
  refine ⟨Int.ediv_nonneg hx (by omega), Int.ediv_lt_of_lt_mul (by omega) ?_⟩
  rw [← pow_split h0 h8]
  exact hx2
theorem mono_div {a b d : Int} (h : a ≤ b) (hd : 0 < d) : a / d ≤ b / d := Int.ediv_le_ediv hd h
/-- Bytes of a list. -/
def lb (l : List UInt8) (i : Nat) : Int := if i < l.length then ((l.getD i 0).toNat : Int) else 0
theorem byteI_lb (s : ByteArray) (i : Nat) : byteI s i = lb s.toList i := by
  rw [ByteArray.toList_eq]
  unfold byteI lb
  have h1 : s.data.toList.length = s.size := by simp
  rw [h1]
  have h2 : s.data.getD i 0 = s.data.toList.getD i 0 := by
    simp [Array.getD_eq_getD_getElem?, List.getD_eq_getElem?_getD]
  rw [h2]
theorem lb_le (l : List UInt8) (i : Nat) : 0 ≤ lb l i ∧ lb l i < 256 := by
  unfold lb
  split
  · have := (l.getD i 0).toNat_lt
    omega
  · omega
theorem less_pre : ∀ (x y : List UInt8), (Op.bytesLess x y || x == y) = true → 256 * lb x 0 + lb x 1 ≤ 256 * lb y 0 + lb y 1 := by
  intro x y h
  match x, y with
  | [], y =>
    have := lb_le y 0
    have := lb_le y 1
    simp [lb] at *
    omega
  | a :: x, [] => simp [Op.bytesLess] at h
  | a :: x, b :: y =>
    have ha : ∀ (c : UInt8) (z : List UInt8), lb (c :: z) 0 = (c.toNat : Int) := fun c z => by simp [lb]
    have hb : ∀ (c : UInt8) (z : List UInt8), lb (c :: z) 1 = lb z 0 := fun c z => by simp [lb]
    rw [ha, ha, hb, hb]
    have l1 := lb_le x 0
    have l2 := lb_le y 0
    simp only [Op.bytesLess, Bool.or_eq_true, Bool.and_eq_true, decide_eq_true_eq, beq_iff_eq, List.cons.injEq] at h
    rcases h with (h | ⟨rfl, h⟩) | ⟨rfl, rfl⟩
    · have : a.toNat < b.toNat := h
      omega
    · match x, y with
      | [], y => simp [lb] at *; omega
      | c :: x, [] => simp [Op.bytesLess] at h
      | c :: x, d :: y =>
        rw [ha, ha]
        simp only [Op.bytesLess, Bool.or_eq_true, Bool.and_eq_true, decide_eq_true_eq, beq_iff_eq] at h
        rcases h with h | ⟨rfl, h⟩
        · have : c.toNat < d.toNat := h
          omega
        · omega
    · omega
theorem preI_lb (s : ByteArray) : preI s 2 = 256 * lb s.toList 0 + lb s.toList 1 := by
  rw [← byteI_lb, ← byteI_lb]
  simp [preI]
/-- A greater value has no lesser cell. -/
theorem rises {a : Att} {v w : Val} {n : Int} (ha : goodA a) (h0 : 0 ≤ n) (h8 : n ≤ 8) (h1 : a.k = 1 → a.mn ≤ v.num ∧ w.num ≤ a.mx ∧ v.num ≤ w.num)
    (h2 : a.k = 2 → (Op.bytesLess v.str.toList w.str.toList || v.str.toList == w.str.toList) = true) : 0 ≤ cellA a v n ∧ cellA a v n ≤ cellA a w n ∧ cellA a w n < 2 ^ n.toNat := by
  have hp : (0 : Int) < 2 ^ n.toNat := Int.pow_pos (by omega)
  rcases ha with ⟨hk, k1, k2, k3⟩ | ⟨hk, _, _⟩
  · obtain ⟨e1, e2, e3⟩ := h1 hk
    rw [cellA_num hk h0 h8 k1 k2 e1 (by omega), cellA_num hk h0 h8 k1 k2 (by omega) e2]
    have q1 := quo_bound (a := v.num - a.mn) (d := a.mx - a.mn + 1) (p := 2 ^ n.toNat) (by omega) (by omega) hp (by omega)
    have q2 := quo_bound (a := w.num - a.mn) (d := a.mx - a.mn + 1) (p := 2 ^ n.toNat) (by omega) (by omega) hp (by omega)
    refine ⟨q1.1, mono_div (Int.mul_le_mul_of_nonneg_right (by omega) (by omega)) (by omega), q2.2⟩
  · rw [cellA_txt (by omega) h0 h8, cellA_txt (by omega) h0 h8]
    have b1 := preI_le2 v.str 2
    have b2 := preI_le2 w.str 2
    have hl := less_pre _ _ (h2 hk)
    rw [← preI_lb, ← preI_lb] at hl
    exact ⟨(txt_range h0 h8 b1.1 b1.2).1, mono_div hl (Int.pow_pos (by omega)), (txt_range h0 h8 b2.1 b2.2).2⟩
/-- With one level more a cell is one of the two halves. -/
theorem fine {a : Att} {v : Val} {n : Int} (ha : goodA a) (h0 : 0 ≤ n) (h7 : n ≤ 7) : (cellA a v n = -1 ∧ cellA a v (n + 1) = -1) ∨ (0 ≤ cellA a v n ∧ 0 ≤ cellA a v (n + 1) ∧ cellA a v (n + 1) < 256 ∧ cellA a v (n + 1) / 2 = cellA a v n) := by
  have hp : (0 : Int) < 2 ^ n.toNat := Int.pow_pos (by omega)
  have hp1 : (2 : Int) ^ (n + 1).toNat = 2 ^ n.toNat * 2 := by rw [show (n + 1).toNat = n.toNat + 1 from by omega, Int.pow_succ]
  have hp2 := pow2_le (k := (n + 1).toNat) (by omega)
  rcases ha with ⟨hk, k1, k2, k3⟩ | ⟨hk, _, _⟩
  · by_cases hr : a.mn ≤ v.num ∧ v.num ≤ a.mx
    · right
      rw [cellA_num hk h0 (by omega) k1 k2 hr.1 hr.2, cellA_num hk (by omega) (by omega) k1 k2 hr.1 hr.2]
      have q1 := quo_bound (a := v.num - a.mn) (d := a.mx - a.mn + 1) (p := 2 ^ n.toNat) (by omega) (by omega) hp (by omega)
      have q2 := quo_bound (a := v.num - a.mn) (d := a.mx - a.mn + 1) (p := 2 ^ (n + 1).toNat) (by omega) (by omega) (by omega) (by omega)
      refine ⟨q1.1, q2.1, by omega, ?_⟩
      rw [Int.ediv_ediv_of_nonneg (by omega), hp1, ← Int.mul_assoc, Int.mul_ediv_mul_of_pos_left _ _ (by omega)]
    · left
      refine ⟨?_, ?_⟩
      · unfold cellA cellV
        rw [if_neg (by omega), if_pos hk, if_pos (by omega)]
      · unfold cellA cellV
        rw [if_neg (by omega), if_pos hk, if_pos (by omega)]
  · right
    rw [cellA_txt (by omega) h0 (by omega), cellA_txt (by omega) (by omega) (by omega)]
    have b1 := preI_le2 v.str 2
    have r1 := txt_range (n := n) h0 (by omega) b1.1 b1.2
    have r2 := txt_range (n := n + 1) (by omega) (by omega) b1.1 b1.2
    refine ⟨r1.1, r2.1, by omega, ?_⟩
    rw [Int.ediv_ediv_of_nonneg (Int.le_of_lt (Int.pow_pos (by omega)))]
    congr 1
    rw [show (16 - n).toNat = (16 - (n + 1)).toNat + 1 from by omega, Int.pow_succ]
end Go.Proofs.YtddhlmejaobcgaaDoor.Dy
