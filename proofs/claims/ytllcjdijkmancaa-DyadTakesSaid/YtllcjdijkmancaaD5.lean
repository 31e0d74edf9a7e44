import Derived.Test.YtllcjdijkmancaaD4
set_option maxRecDepth 100000
set_option linter.unusedVariables false
set_option linter.unusedSimpArgs false
namespace Go.Proofs.Ytllcjdijkmancaa.Dy
open Go Go.Am
theorem code5 : codeB Try.f5.ntmps [] (match Try.f5.body with | some c => c | none => .skip) = true := by kernel_rfl
theorem cells_bad {l i n : Int} (h : good l i n = false) : cells l i n = (0, -1) := by simp [cells, h]
theorem cells_good {l i n : Int} (h : good l i n = true) : cells l i n = (i * 2 ^ (n - l).toNat, (i + 1) * 2 ^ (n - l).toNat - 1) := by simp only [cells, h, if_true]
/-- Two intervals nest, or are apart: the smaller one's size divides the greater one's. -/
theorem nest_aux {P R i j : Int} (hP : 0 < P) : (i + 1) * P ≤ j * (P * R) ∨ (j + 1) * (P * R) ≤ i * P ∨ (j * (P * R) ≤ i * P ∧ (i + 1) * P ≤ (j + 1) * (P * R)) := by
  have e1 : j * (P * R) = j * R * P := by rw [Int.mul_comm P R, ← Int.mul_assoc]
  have e2 : (j + 1) * (P * R) = (j + 1) * R * P := by rw [Int.mul_comm P R, ← Int.mul_assoc]
  rw [e1, e2]
  rcases Int.lt_or_le i (j * R) with h | h
  · left; exact Int.mul_le_mul_of_nonneg_right (by omega) (Int.le_of_lt hP)
  · right
    rcases Int.lt_or_le i ((j + 1) * R) with h' | h'
    · right; exact ⟨Int.mul_le_mul_of_nonneg_right h (Int.le_of_lt hP), Int.mul_le_mul_of_nonneg_right (by omega) (Int.le_of_lt hP)⟩
    · left; exact Int.mul_le_mul_of_nonneg_right h' (Int.le_of_lt hP)
theorem nest {l i k j n : Int} (h1 : good l i n = true) (h2 : good k j n = true) :
    (cells l i n).2 < (cells k j n).1 ∨ (cells k j n).2 < (cells l i n).1 ∨ ((cells l i n).1 ≤ (cells k j n).1 ∧ (cells k j n).2 ≤ (cells l i n).2) ∨ ((cells k j n).1 ≤ (cells l i n).1 ∧ (cells l i n).2 ≤ (cells k j n).2) := by
  rw [cells_good h1, cells_good h2]
  obtain ⟨a1, a2, a3, a4, _⟩ := good_iff.1 h1
  obtain ⟨b1, b2, b3, b4, _⟩ := good_iff.1 h2
  have hp : ∀ k : Nat, (0 : Int) < 2 ^ k := fun k => Int.pow_pos (by omega)
  simp only
  rcases Int.le_total k l with h | h
  · have : (2 : Int) ^ (n - k).toNat = 2 ^ (n - l).toNat * 2 ^ (l - k).toNat := by rw [← Int.pow_add]; congr 1; omega
    rw [this]
    have := nest_aux (P := 2 ^ (n - l).toNat) (R := 2 ^ (l - k).toNat) (i := i) (j := j) (hp _)
    omega
  · have : (2 : Int) ^ (n - l).toNat = 2 ^ (n - k).toNat * 2 ^ (k - l).toNat := by rw [← Int.pow_add]; congr 1; omega
    rw [this]
    have := nest_aux (P := 2 ^ (n - k).toNat) (R := 2 ^ (k - l).toNat) (i := j) (j := i) (hp _)
    omega
theorem ok5 (xl xi yl yi n : Int) : Go.Am.Pure Try.prog 5 [iv xl xi, iv yl yi, .d (nI n)] (bI true) := by
  refine CallOk.of tysOk mixed [] Try.func5 rfl rfl code5 ?_
  have cx := ok11 xl xi n
  have cy := ok11 yl yi n
  have gx := ok14 xl xi n
  have gy := ok14 yl yi n
  cases hx : good xl xi n <;> cases hy : good yl yi n <;> rw [hx] at gx <;> rw [hy] at gy
  case true.true =>
    have hn := nest hx hy
    generalize cells xl xi n = p at *
    generalize cells yl yi n = q at *
    refine W.pure cx rfl rfl ?_
    refine W.pure cy rfl rfl ?_
    refine W.pure gx rfl rfl ?_
    repeat (first | refine W.ite_t rfl ?_ | refine W.ite_f rfl ?_)
    refine W.pure gy rfl rfl ?_
    repeat (first | refine W.ite_t rfl ?_ | refine W.ite_f rfl ?_)
    refine W.ite (fun h1 => ?_) (fun h1 => ?_)
    · repeat (first | refine W.ite_t rfl ?_ | refine W.ite_f rfl ?_ | refine W.ite_t h1 ?_)
      refine W.pure ok13 rfl rfl ?_
      repeat (first | refine W.ite_t rfl ?_ | refine W.ite_f rfl ?_ | refine W.ite_t h1 ?_)
      refine W.ret ?_; refine RetQ.pure rfl ?_
      rfl
    · repeat (first | refine W.ite_t rfl ?_ | refine W.ite_f rfl ?_ | refine W.ite_f h1 ?_)
      refine W.pure ok13 rfl rfl ?_
      repeat (first | refine W.ite_t rfl ?_ | refine W.ite_f rfl ?_ | refine W.ite_f h1 ?_)
      refine W.ite (fun h2 => ?_) (fun h2 => ?_)
      · repeat (first | refine W.ite_t rfl ?_ | refine W.ite_f rfl ?_ | refine W.ite_t h2 ?_)
        refine W.ret ?_; refine RetQ.pure rfl ?_
        rfl
      · have n1 : ¬ p.2 < q.1 := of_decide_eq_false h1
        have n2 : ¬ q.2 < p.1 := of_decide_eq_false h2
        repeat (first | refine W.ite_t rfl ?_ | refine W.ite_f rfl ?_ | refine W.ite_f h2 ?_)
        refine W.ite (fun h3 => ?_) (fun h3 => ?_)
        · repeat (first | refine W.ite_t rfl ?_ | refine W.ite_f rfl ?_ | refine W.ite_t h3 ?_ | refine W.ite_f h2 ?_)
          refine W.ite (fun h4 => ?_) (fun h4 => ?_)
          · repeat (first | refine W.ite_t rfl ?_ | refine W.ite_f rfl ?_ | refine W.ite_t h3 ?_ | refine W.ite_t h4 ?_ | refine W.ite_f h2 ?_)
            refine W.ret ?_; refine RetQ.pure rfl ?_
            rfl
          · repeat (first | refine W.ite_t rfl ?_ | refine W.ite_f rfl ?_ | refine W.ite_t h3 ?_ | refine W.ite_f h4 ?_ | refine W.ite_f h2 ?_)
            have m4 := of_decide_eq_false h4
            have m3 := of_decide_eq_true h3
            have m5 : decide (q.1 ≤ p.1) = true := decide_eq_true (by omega)
            have m6 : decide (p.2 ≤ q.2) = true := decide_eq_true (by omega)
            repeat (first | refine W.ite_t rfl ?_ | refine W.ite_f rfl ?_ | refine W.ite_t (by assumption) ?_ | refine W.ite_f (by assumption) ?_)
            refine W.ret ?_; refine RetQ.pure rfl ?_
            first | rfl | exact ret_bI m6
        · have m3 := of_decide_eq_false h3
          have m5 : decide (q.1 ≤ p.1) = true := decide_eq_true (by omega)
          have m6 : decide (p.2 ≤ q.2) = true := decide_eq_true (by omega)
          repeat (first | refine W.ite_t rfl ?_ | refine W.ite_f rfl ?_ | refine W.ite_f h3 ?_ | refine W.ite_t (by assumption) ?_ | refine W.ite_f (by assumption) ?_)
          refine W.ret ?_; refine RetQ.pure rfl ?_
          first | rfl | exact ret_bI m6
  all_goals
    first | rw [cells_bad hx] at cx | skip
    first | rw [cells_bad hy] at cy | skip
    refine W.pure cx rfl rfl ?_
    refine W.pure cy rfl rfl ?_
    refine W.pure gx rfl rfl ?_
    repeat (first | refine W.ite_t rfl ?_ | refine W.ite_f rfl ?_)
    first | refine W.pure gy rfl rfl ?_ | skip
    repeat (first | refine W.ite_t rfl ?_ | refine W.ite_f rfl ?_)
    refine W.pure ok13 rfl rfl ?_
    repeat (first | refine W.ite_t rfl ?_ | refine W.ite_f rfl ?_)
    refine W.pure gx rfl rfl ?_
    repeat (first | refine W.ite_t rfl ?_ | refine W.ite_f rfl ?_)
    refine W.pure gy rfl rfl ?_
    repeat (first | refine W.ite_t rfl ?_ | refine W.ite_f rfl ?_)
    refine W.ret ?_; refine RetQ.pure rfl ?_
    rfl
end Go.Proofs.Ytllcjdijkmancaa.Dy
