/- Numbers. -/
import Derived.Test.YtddhlmejaobcgaaAm17
set_option linter.unusedVariables false
set_option linter.unusedSimpArgs false
namespace Go.Am
open Go
theorem wrap64 {n : Int} (h1 : -9223372036854775808 ≤ n) (h2 : n < 9223372036854775808) : IntKind.i64.wrap n = n := by
  rw [show IntKind.i64.wrap n = (if (true && decide (n % (2 ^ 64 : Int) ≥ (2 ^ 63 : Int))) = true then n % (2 ^ 64 : Int) - (2 ^ 64 : Int) else n % (2 ^ 64 : Int)) from rfl]
  have e1 : (2 : Int) ^ 64 = 18446744073709551616 := by decide
  have e2 : (2 : Int) ^ 63 = 9223372036854775808 := by decide
  rw [e1, e2]
  simp only [Bool.true_and, decide_eq_true_eq]
  split <;> omega
theorem bits64 : IntKind.i64.bits = 64 := rfl
theorem pow2_le {k : Nat} (h : k ≤ 8) : (1 : Int) ≤ 2 ^ k ∧ (2 : Int) ^ k ≤ 256 := by
  have : k = 0 ∨ k = 1 ∨ k = 2 ∨ k = 3 ∨ k = 4 ∨ k = 5 ∨ k = 6 ∨ k = 7 ∨ k = 8 := by omega
  rcases this with rfl | rfl | rfl | rfl | rfl | rfl | rfl | rfl | rfl <;> decide
theorem min64 {k : Nat} (h : k ≤ 64) : min k IntKind.i64.bits = k := by rw [bits64]; omega
end Go.Am
