import Derived.Test.YtllcjdijkmancaaAm18
import Derived.Test.YtllcjdijkmancaaProg
set_option maxRecDepth 100000
set_option linter.unusedVariables false
set_option linter.unusedSimpArgs false
namespace Go.Proofs.Ytllcjdijkmancaa.Dy
open Go Go.Am
def tys : Tys := [(3, ⟨.scalar, false, 1, [.int .i64 0], [.int .i64], false⟩), (23, ⟨.struct [(0, 3), (1, 3)], true, 2, [.int .i64 0, .int .i64 0], [.int .i64, .int .i64], true⟩), (27, ⟨.struct [(0, 3), (1, 3)], true, 2, [.int .i64 0, .int .i64 0], [.int .i64, .int .i64], true⟩), (35, ⟨.slice 23 2 16 false, false, 1, [.slice none 0 0], [.other], false⟩), (33, ⟨.slice 27 2 16 false, false, 1, [.slice none 0 0], [.other], false⟩), (4, ⟨.scalar, false, 1, [.bool false], [.bool], false⟩)]
theorem tysOk : TysOk Try.prog tys := TysOk.of (by kernel_rfl)
theorem mixed : Try.prog.follows .mixedOrders = true := by kernel_rfl
/-- A number, a bool, an interval, in the machine. -/
abbrev nI (n : Int) : D := .lit (.int .i64 n)
abbrev bI (b : Bool) : AV := .d (.lit (.bool b))
abbrev iv (l i : Int) : AV := .d (.agg [nI l, nI i])

theorem ret_bI {a b : Bool} (h : a = b) : mkRet [.d (.lit (.bool a))] = bI b := by subst h; rfl

def od14 : Ords := [(1, [0, 1, 2, 3, 4, 5, 6, 7, 8, 9, 10, 11, 12, 13, 14, 15, 16, 17, 18, 19, 20, 21, 22, 23, 24, 25, 26, 27, 28, 29, 30])]
theorem code14 : codeB Try.f14.ntmps od14 (match Try.f14.body with | some c => c | none => .skip) = true := by kernel_rfl
def good (l i n : Int) : Bool := decide (n ≥ 0) && (decide (n ≤ 8) && (decide (l ≥ 0) && (decide (l ≤ n) && (decide (i ≥ 0) && decide (i < 2 ^ l.toNat)))))
theorem ok14 (l i n : Int) : Pure Try.prog 14 [iv l i, .d (nI n)] (bI (good l i n)) := by
  refine CallOk.of tysOk mixed od14 Try.func14 rfl rfl code14 ?_
  repeat' (first | refine W.ite_t rfl ?_ | refine W.ite_f rfl ?_ | (refine W.ite_t ?h ?_; (case h => assumption)) | (refine W.ite_f ?h ?_; (case h => assumption)) | refine W.ite (fun h => ?_) (fun h => ?_) | refine W.need ?_ ?_)
  all_goals (try refine W.ret ?_)
  all_goals (try refine RetQ.pure rfl ?_)
  all_goals simp only [decide_eq_true_eq, decide_eq_false_iff_not, ge_iff_le] at *
  all_goals first | assumption | refine ret_bI ?_
  · rw [min64 (by omega), Int.one_mul, wrap64 (by have := pow2_le (k := l.toNat) (by omega); omega) (by have := pow2_le (k := l.toNat) (by omega); omega)]
    simp_all [good]
  all_goals (simp_all [good] <;> omega)
theorem good_iff {l i n : Int} : good l i n = true ↔ 0 ≤ n ∧ n ≤ 8 ∧ 0 ≤ l ∧ l ≤ n ∧ 0 ≤ i ∧ i < 2 ^ l.toNat := by
  simp [good]

def od11 : Ords := [(4, [0, 1, 2, 3, 4, 5, 6, 7, 8, 9, 10, 11])]
theorem code11 : codeB Try.f11.ntmps od11 (match Try.f11.body with | some c => c | none => .skip) = true := by kernel_rfl
def cells (l i n : Int) : Int × Int := if good l i n then (i * 2 ^ (n - l).toNat, (i + 1) * 2 ^ (n - l).toNat - 1) else (0, -1)
theorem pow2_mul {a b : Nat} (h : a + b ≤ 8) {i : Int} (h0 : 0 ≤ i) (h1 : i ≤ 2 ^ a) : 0 ≤ i * 2 ^ b ∧ i * 2 ^ b ≤ 256 := by
  have h2 := pow2_le (k := b) (by omega)
  have h3 := pow2_le h
  rw [Int.pow_add] at h3
  refine ⟨Int.mul_nonneg h0 (by omega), Int.le_trans (Int.mul_le_mul_of_nonneg_right h1 (by omega)) h3.2⟩
theorem ok11 (l i n : Int) : Pure Try.prog 11 [iv l i, .d (nI n)] (.tuple [.d (nI (cells l i n).1), .d (nI (cells l i n).2)]) := by
  refine CallOk.of tysOk mixed od11 Try.func11 rfl rfl code11 ?_
  refine W.pure (ok14 l i n) rfl rfl ?_
  refine W.ite (fun h => ?_) (fun h => ?_)
  · refine W.ret (RetQ.pure rfl ?_)
    have : good l i n = false := by simpa using h
    simp [cells, this, mkRet]
  · have hg : good l i n = true := by simpa using h
    obtain ⟨h1, h2, h3, h4, h5, h6⟩ := good_iff.1 hg
    have e : IntKind.i64.wrap (n - l) = n - l := wrap64 (by omega) (by omega)
    have hb := pow2_mul (a := l.toNat) (b := (n - l).toNat) (by omega) h5 (by omega)
    have hb' := pow2_mul (a := l.toNat) (b := (n - l).toNat) (by omega) (i := i + 1) (by omega) (by omega)
    have hl := pow2_le (k := l.toNat) (by omega)
    refine W.need (by rw [e]; omega) ?_
    refine W.need (by rw [e]; omega) ?_
    refine W.ret (RetQ.pure rfl ?_)
    have e1 : IntKind.i64.wrap (i + 1) = i + 1 := wrap64 (by omega) (by omega)
    simp only [cells, hg, if_true, mkRet, e, e1]
    rw [min64 (by omega), wrap64 (by omega) (by omega), wrap64 (n := (i + 1) * _) (by omega) (by omega), wrap64 (by omega) (by omega)]
end Go.Proofs.Ytllcjdijkmancaa.Dy
