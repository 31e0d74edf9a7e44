import Derived.Test.YtddhlmejaobcgaaDoorAm22
import Derived.Test.YtddhlmejaobcgaaDoorProg
set_option maxRecDepth 100000
set_option linter.unusedVariables false
set_option linter.unusedSimpArgs false
namespace Go.Proofs.YtddhlmejaobcgaaDoor.Dy
open Go Go.Am
def tys : Tys := [(3, ⟨.scalar, false, 1, [.int .i64 0], [.int .i64], false, 0⟩), (9, ⟨.str, false, 1, [.string ⟨#[]⟩], [.str], false, 0⟩), (87, ⟨.struct [(0, 9), (1, 3), (2, 3)], true, 3, [.string ⟨#[]⟩, .int .i64 0, .int .i64 0], [.str, .int .i64, .int .i64], true, 0⟩), (50, ⟨.struct [(0, 9), (1, 3), (2, 3), (3, 3), (4, 9)], true, 5, [.string ⟨#[]⟩, .int .i64 0, .int .i64 0, .int .i64 0, .string ⟨#[]⟩], [.str, .int .i64, .int .i64, .int .i64, .str], true, 0⟩), (54, ⟨.struct [(0, 9), (1, 3), (2, 3), (3, 3)], true, 4, [.string ⟨#[]⟩, .int .i64 0, .int .i64 0, .int .i64 0], [.str, .int .i64, .int .i64, .int .i64], true, 0⟩), (5, ⟨.scalar, false, 1, [.int .u8 0], [.int .u8], false, 0⟩), (107, ⟨.slice 5 1 1 true, false, 1, [.slice none 0 0], [.other], false, 0⟩), (28, ⟨.struct [(0, 26), (1, 9)], true, 2, [.slice none 0 0, .string ⟨#[]⟩], [.other, .str], true, 0⟩), (57, ⟨.struct [(0, 3), (1, 9)], true, 2, [.int .i64 0, .string ⟨#[]⟩], [.int .i64, .str], true, 0⟩), (136, ⟨.scalar, false, 1, [.int .u32 0], [.int .u32], false, 0⟩), (25, ⟨.slice 50 5 56 false, false, 1, [.slice none 0 0], [.other], false, 0⟩), (23, ⟨.slice 54 4 40 false, false, 1, [.slice none 0 0], [.other], false, 0⟩), (74, ⟨.struct [(0, 3), (1, 3)], true, 2, [.int .i64 0, .int .i64 0], [.int .i64, .int .i64], true, 0⟩), (26, ⟨.slice 57 2 24 false, false, 1, [.slice none 0 0], [.other], false, 0⟩), (41, ⟨.iface, false, 1, [.nilIface], [.other], false, 0⟩), (128, ⟨.scalar, false, 1, [.int .u64 0], [.int .u64], false, 0⟩), (38, ⟨.slice 74 2 16 false, false, 1, [.slice none 0 0], [.other], false, 0⟩), (44, ⟨.slice 9 1 16 false, false, 1, [.slice none 0 0], [.other], false, 0⟩), (2, ⟨.scalar, false, 1, [.int .i64 0], [.int .i64], false, 0⟩), (21, ⟨.scalar, false, 1, [.int .i32 0], [.int .i32], false, 0⟩), (84, ⟨.struct [(0, 9), (1, 3), (2, 41)], true, 3, [.string ⟨#[]⟩, .int .i64 0, .nilIface], [.str, .int .i64, .other], false, 0⟩), (82, ⟨.scalar, false, 1, [.int .i64 0], [.int .i64], false, 0⟩), (81, ⟨.ptr, false, 1, [.pointer none], [.other], false, 0⟩), (127, ⟨.array 24 5 1, true, 24, [.int .u8 0, .int .u8 0, .int .u8 0, .int .u8 0, .int .u8 0, .int .u8 0, .int .u8 0, .int .u8 0, .int .u8 0, .int .u8 0, .int .u8 0, .int .u8 0, .int .u8 0, .int .u8 0, .int .u8 0, .int .u8 0, .int .u8 0, .int .u8 0, .int .u8 0, .int .u8 0, .int .u8 0, .int .u8 0, .int .u8 0, .int .u8 0], [.int .u8, .int .u8, .int .u8, .int .u8, .int .u8, .int .u8, .int .u8, .int .u8, .int .u8, .int .u8, .int .u8, .int .u8, .int .u8, .int .u8, .int .u8, .int .u8, .int .u8, .int .u8, .int .u8, .int .u8, .int .u8, .int .u8, .int .u8, .int .u8], true, 0⟩), (35, ⟨.slice 71 2 24 false, false, 1, [.slice none 0 0], [.other], false, 0⟩), (29, ⟨.slice 69 4 40 false, false, 1, [.slice none 0 0], [.other], false, 0⟩), (32, ⟨.slice 70 5 56 false, false, 1, [.slice none 0 0], [.other], false, 0⟩), (4, ⟨.scalar, false, 1, [.bool false], [.bool], false, 0⟩), (135, ⟨.array 20 128 1, true, 20, [.int .u64 0, .int .u64 0, .int .u64 0, .int .u64 0, .int .u64 0, .int .u64 0, .int .u64 0, .int .u64 0, .int .u64 0, .int .u64 0, .int .u64 0, .int .u64 0, .int .u64 0, .int .u64 0, .int .u64 0, .int .u64 0, .int .u64 0, .int .u64 0, .int .u64 0, .int .u64 0], [.int .u64, .int .u64, .int .u64, .int .u64, .int .u64, .int .u64, .int .u64, .int .u64, .int .u64, .int .u64, .int .u64, .int .u64, .int .u64, .int .u64, .int .u64, .int .u64, .int .u64, .int .u64, .int .u64, .int .u64], true, 0⟩), (69, ⟨.struct [(0, 9), (1, 3), (2, 3), (3, 3)], true, 4, [.string ⟨#[]⟩, .int .i64 0, .int .i64 0, .int .i64 0], [.str, .int .i64, .int .i64, .int .i64], true, 0⟩), (71, ⟨.struct [(0, 3), (1, 9)], true, 2, [.int .i64 0, .string ⟨#[]⟩], [.int .i64, .str], true, 0⟩), (70, ⟨.struct [(0, 9), (1, 3), (2, 3), (3, 3), (4, 9)], true, 5, [.string ⟨#[]⟩, .int .i64 0, .int .i64 0, .int .i64 0, .string ⟨#[]⟩], [.str, .int .i64, .int .i64, .int .i64, .str], true, 0⟩)]
theorem tysOk : TysOk Tryd.prog tys := TysOk.of (by kernel_rfl)
theorem mixed : Tryd.prog.follows .mixedOrders = true := by kernel_rfl
/-- A number, a bool, an interval, in the machine. -/
abbrev nI (n : Int) : D := .lit (.int .i64 n)
abbrev bI (b : Bool) : AV := .d (.lit (.bool b))
abbrev iv (l i : Int) : AV := .d (.agg [nI l, nI i])

theorem ret_bI {a b : Bool} (h : a = b) : mkRet [.d (.lit (.bool a))] = bI b := by subst h; rfl

def od23 : Ords := [(1, [0, 1, 2, 3, 4, 5, 6, 7, 8, 9, 10, 11, 12, 13, 14, 15, 16, 17, 18, 19, 20, 21, 22, 23, 24, 25, 26, 27, 28, 29, 30])]
theorem code23 : codeB Tryd.f23.ntmps od23 (match Tryd.f23.body with | some c => c | none => .skip) = true := by kernel_rfl
def good (l i n : Int) : Bool := decide (n ≥ 0) && (decide (n ≤ 8) && (decide (l ≥ 0) && (decide (l ≤ n) && (decide (i ≥ 0) && decide (i < 2 ^ l.toNat)))))
theorem ok23 (l i n : Int) : Pure Tryd.prog 23 [iv l i, .d (nI n)] (bI (good l i n)) := by
  refine CallOk.of tysOk mixed od23 Tryd.func23 rfl rfl code23 ?_
  repeat' (first | refine W.ite_t rfl ?_ | refine W.ite_f rfl ?_ | (refine W.ite_t ?h ?_; (case h => assumption)) | (refine W.ite_f ?h ?_; (case h => assumption)) | refine W.ite (fun h => ?_) (fun h => ?_) | refine W.need ?_ ?_)
  all_goals (try refine W.ret ?_)
  all_goals (try refine RetQ.pure rfl ?_)
  all_goals simp only [decide_eq_true_eq, decide_eq_false_iff_not, ge_iff_le] at *
  all_goals first | assumption | refine ret_bI ?_
  · rw [min64 (by omega), Int.one_mul, wrap64 (by have := pow2_le (k := l.toNat) (by omega); omega) (by have := pow2_le (k := l.toNat) (by omega); omega)]
    simp_all [good]
  all_goals (simp_all [good] <;> omega)
theorem good_iff {l i n : Int} : good l i n = true ↔ 0 ≤ n ∧ n ≤ 8 ∧ 0 ≤ l ∧ l ≤ n ∧ 0 ≤ i ∧ i < 2 ^ l.toNat := by
  simp [good]

def cells (l i n : Int) : Int × Int := if good l i n then (i * 2 ^ (n - l).toNat, (i + 1) * 2 ^ (n - l).toNat - 1) else (0, -1)
theorem pow2_mul {a b : Nat} (h : a + b ≤ 8) {i : Int} (h0 : 0 ≤ i) (h1 : i ≤ 2 ^ a) : 0 ≤ i * 2 ^ b ∧ i * 2 ^ b ≤ 256 := by
  have h2 := pow2_le (k := b) (by omega)
  have h3 := pow2_le h
  rw [Int.pow_add] at h3
  refine ⟨Int.mul_nonneg h0 (by omega), Int.le_trans (Int.mul_le_mul_of_nonneg_right h1 (by omega)) h3.2⟩
theorem cells_bad {l i n : Int} (h : good l i n = false) : cells l i n = (0, -1) := by simp [cells, h]
theorem cells_good {l i n : Int} (h : good l i n = true) : cells l i n = (i * 2 ^ (n - l).toNat, (i + 1) * 2 ^ (n - l).toNat - 1) := by simp only [cells, h, if_true]
end Go.Proofs.YtddhlmejaobcgaaDoor.Dy
