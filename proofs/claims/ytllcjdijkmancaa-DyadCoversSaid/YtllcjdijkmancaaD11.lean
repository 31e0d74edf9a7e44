import Derived.Test.YtllcjdijkmancaaD10
set_option maxRecDepth 100000
set_option linter.unusedVariables false
set_option linter.unusedSimpArgs false
namespace Go.Proofs.Ytllcjdijkmancaa.Dy
open Go Go.Am
def od15 : Ords := [(1, [0, 1, 2, 3, 4, 7, 8, 5, 6, 9, 10])]
theorem code15 : codeB Try.f15.ntmps od15 (match Try.f15.body with | some c => c | none => .skip) = true := by kernel_rfl
theorem ok15 (l i c n : Int) (h0 : 0 ≤ n - l) (h8 : n - l ≤ 8) (hc : 0 ≤ c) (hc2 : c < 9223372036854775808) : Go.Am.Pure Try.prog 15 [iv l i, .d (nI c), .d (nI n)] (bI (c / 2 ^ (n - l).toNat == i)) := by
  refine CallOk.of tysOk mixed od15 Try.func15 rfl rfl code15 ?_
  have e1 : IntKind.i64.wrap (n - l) = n - l := wrap64 (by omega) (by omega)
  refine W.pure (ok16 _ ?_ ?_) rfl rfl ?_
  · show 0 ≤ IntKind.i64.wrap (n - l); omega
  · show IntKind.i64.wrap (n - l) ≤ 8; omega
  have hp : (0 : Int) < 2 ^ (n - l).toNat := Int.pow_pos (by omega)
  refine W.need ?_ ?_
  · show (2 : Int) ^ (IntKind.i64.wrap (n - l)).toNat ≠ 0
    rw [e1]; omega
  refine W.ret ?_
  refine RetQ.pure rfl ?_
  refine ret_bI ?_
  rw [e1, Int.tdiv_eq_ediv_of_nonneg hc]
  have h1 : 0 ≤ c / 2 ^ (n - l).toNat := Int.ediv_nonneg hc (Int.le_of_lt hp)
  have h2 : c / 2 ^ (n - l).toNat ≤ c := Int.ediv_le_self _ hc
  rw [wrap64 (by omega) (by omega)]
end Go.Proofs.Ytllcjdijkmancaa.Dy
