import Derived.Test.YtbjjimllnffcpaaDoorAm22
import Derived.Test.YtbjjimllnffcpaaDoorProg
set_option maxRecDepth 100000
set_option linter.unusedVariables false
set_option linter.unusedSimpArgs false
namespace Go.Proofs.YtbjjimllnffcpaaDoor.Dy
open Go Go.Am
def tys : Tys := [(3, ⟨.scalar, false, 1, [.int .i64 0], [.int .i64], false, 0⟩), (9, ⟨.str, false, 1, [.string ⟨#[]⟩], [.str], false, 0⟩), (46, ⟨.struct [(0, 9), (1, 3), (2, 3), (3, 3)], true, 4, [.string ⟨#[]⟩, .int .i64 0, .int .i64 0, .int .i64 0], [.str, .int .i64, .int .i64, .int .i64], true, 0⟩), (49, ⟨.struct [(0, 9), (1, 3), (2, 3), (3, 3), (4, 9)], true, 5, [.string ⟨#[]⟩, .int .i64 0, .int .i64 0, .int .i64 0, .string ⟨#[]⟩], [.str, .int .i64, .int .i64, .int .i64, .str], true, 0⟩), (32, ⟨.slice 49 5 56 false, false, 1, [.slice none 0 0], [.other], false, 0⟩), (23, ⟨.struct [(0, 3), (1, 3)], true, 2, [.int .i64 0, .int .i64 0], [.int .i64, .int .i64], true, 0⟩), (30, ⟨.slice 46 4 40 false, false, 1, [.slice none 0 0], [.other], false, 0⟩), (134, ⟨.scalar, false, 1, [.int .u32 0], [.int .u32], false, 0⟩), (70, ⟨.struct [(0, 3), (1, 9)], true, 2, [.int .i64 0, .string ⟨#[]⟩], [.int .i64, .str], true, 0⟩), (58, ⟨.slice 9 1 16 false, false, 1, [.slice none 0 0], [.other], false, 0⟩), (54, ⟨.struct [(0, 52), (1, 9)], true, 2, [.slice none 0 0, .string ⟨#[]⟩], [.other, .str], true, 0⟩), (5, ⟨.scalar, false, 1, [.int .u8 0], [.int .u8], false, 0⟩), (40, ⟨.iface, false, 1, [.nilIface], [.other], false, 0⟩), (110, ⟨.slice 5 1 1 true, false, 1, [.slice none 0 0], [.other], false, 0⟩), (52, ⟨.slice 70 2 24 false, false, 1, [.slice none 0 0], [.other], false, 0⟩), (117, ⟨.scalar, false, 1, [.int .u64 0], [.int .u64], false, 0⟩), (83, ⟨.slice 23 2 16 false, false, 1, [.slice none 0 0], [.other], false, 0⟩), (2, ⟨.scalar, false, 1, [.int .i64 0], [.int .i64], false, 0⟩), (21, ⟨.scalar, false, 1, [.int .i32 0], [.int .i32], false, 0⟩), (116, ⟨.array 24 5 1, true, 24, [.int .u8 0, .int .u8 0, .int .u8 0, .int .u8 0, .int .u8 0, .int .u8 0, .int .u8 0, .int .u8 0, .int .u8 0, .int .u8 0, .int .u8 0, .int .u8 0, .int .u8 0, .int .u8 0, .int .u8 0, .int .u8 0, .int .u8 0, .int .u8 0, .int .u8 0, .int .u8 0, .int .u8 0, .int .u8 0, .int .u8 0, .int .u8 0], [.int .u8, .int .u8, .int .u8, .int .u8, .int .u8, .int .u8, .int .u8, .int .u8, .int .u8, .int .u8, .int .u8, .int .u8, .int .u8, .int .u8, .int .u8, .int .u8, .int .u8, .int .u8, .int .u8, .int .u8, .int .u8, .int .u8, .int .u8, .int .u8], true, 0⟩), (55, ⟨.slice 81 2 24 false, false, 1, [.slice none 0 0], [.other], false, 0⟩), (4, ⟨.scalar, false, 1, [.bool false], [.bool], false, 0⟩), (36, ⟨.slice 75 5 56 false, false, 1, [.slice none 0 0], [.other], false, 0⟩), (33, ⟨.slice 74 4 40 false, false, 1, [.slice none 0 0], [.other], false, 0⟩), (100, ⟨.ptr, false, 1, [.pointer none], [.other], false, 0⟩), (102, ⟨.struct [(0, 9), (1, 3), (2, 40)], true, 3, [.string ⟨#[]⟩, .int .i64 0, .nilIface], [.str, .int .i64, .other], false, 0⟩), (91, ⟨.scalar, false, 1, [.int .i64 0], [.int .i64], false, 0⟩), (133, ⟨.array 20 117 1, true, 20, [.int .u64 0, .int .u64 0, .int .u64 0, .int .u64 0, .int .u64 0, .int .u64 0, .int .u64 0, .int .u64 0, .int .u64 0, .int .u64 0, .int .u64 0, .int .u64 0, .int .u64 0, .int .u64 0, .int .u64 0, .int .u64 0, .int .u64 0, .int .u64 0, .int .u64 0, .int .u64 0], [.int .u64, .int .u64, .int .u64, .int .u64, .int .u64, .int .u64, .int .u64, .int .u64, .int .u64, .int .u64, .int .u64, .int .u64, .int .u64, .int .u64, .int .u64, .int .u64, .int .u64, .int .u64, .int .u64, .int .u64], true, 0⟩), (74, ⟨.struct [(0, 9), (1, 3), (2, 3), (3, 3)], true, 4, [.string ⟨#[]⟩, .int .i64 0, .int .i64 0, .int .i64 0], [.str, .int .i64, .int .i64, .int .i64], true, 0⟩), (81, ⟨.struct [(0, 3), (1, 9)], true, 2, [.int .i64 0, .string ⟨#[]⟩], [.int .i64, .str], true, 0⟩), (75, ⟨.struct [(0, 9), (1, 3), (2, 3), (3, 3), (4, 9)], true, 5, [.string ⟨#[]⟩, .int .i64 0, .int .i64 0, .int .i64 0, .string ⟨#[]⟩], [.str, .int .i64, .int .i64, .int .i64, .str], true, 0⟩)]
theorem tysOk : TysOk Tryd.prog tys := TysOk.of (by kernel_rfl)
theorem mixed : Tryd.prog.follows .mixedOrders = true := by kernel_rfl
/-- A number, a bool, an interval, in the machine. -/
abbrev nI (n : Int) : D := .lit (.int .i64 n)
abbrev bI (b : Bool) : AV := .d (.lit (.bool b))
abbrev iv (l i : Int) : AV := .d (.agg [nI l, nI i])

theorem ret_bI {a b : Bool} (h : a = b) : mkRet [.d (.lit (.bool a))] = bI b := by subst h; rfl

def od9 : Ords := [(1, [0, 1, 2, 3, 4, 5, 6, 7, 8, 9, 10, 11, 12, 13, 14, 15, 16, 17, 18, 19, 20, 21, 22, 23, 24, 25, 26, 27, 28, 29, 30])]
theorem code9 : codeB Tryd.f9.ntmps od9 (match Tryd.f9.body with | some c => c | none => .skip) = true := by kernel_rfl
def good (l i n : Int) : Bool := decide (n ≥ 0) && (decide (n ≤ 8) && (decide (l ≥ 0) && (decide (l ≤ n) && (decide (i ≥ 0) && decide (i < 2 ^ l.toNat)))))
theorem ok9 (l i n : Int) : Pure Tryd.prog 9 [iv l i, .d (nI n)] (bI (good l i n)) := by
  refine CallOk.of tysOk mixed od9 Tryd.func9 rfl rfl code9 ?_
  repeat' (first | refine W.ite_t rfl ?_ | refine W.ite_f rfl ?_ | (refine W.ite_t ?h ?_; (case h => assumption)) | (refine W.ite_f ?h ?_; (case h => assumption)) | refine W.ite (fun h => ?_) (fun h => ?_) | refine W.need ?_ ?_)
  all_goals (try refine W.ret ?_)
  all_goals (try refine RetQ.pure rfl ?_)
  all_goals simp only [decide_eq_true_eq, decide_eq_false_iff_not, ge_iff_le] at *
  all_goals first | assumption | refine ret_bI ?_
  · rw [min64 (by omega), Int.one_mul, wrap64 (by have := pow2_le (k := l.toNat) (by omega); omega) (by have := pow2_le (k := l.toNat) (by omega); omega)]
    simp_all [good]
  all_goals (simp_all [good] <;> omega)
theorem good_iff {l i n : Int} : good l i n = true ↔ 0 ≤ n ∧ n ≤ 8 ∧ 0 ≤ l ∧ l ≤ n ∧ 0 ≤ i ∧ i < 2 ^ l.toNat := by
  simp [good]

def od22 : Ords := [(4, [0, 1, 2, 3, 4, 5, 6, 7, 8, 9, 10, 11])]
theorem code22 : codeB Tryd.f22.ntmps od22 (match Tryd.f22.body with | some c => c | none => .skip) = true := by kernel_rfl
def cells (l i n : Int) : Int × Int := if good l i n then (i * 2 ^ (n - l).toNat, (i + 1) * 2 ^ (n - l).toNat - 1) else (0, -1)
theorem pow2_mul {a b : Nat} (h : a + b ≤ 8) {i : Int} (h0 : 0 ≤ i) (h1 : i ≤ 2 ^ a) : 0 ≤ i * 2 ^ b ∧ i * 2 ^ b ≤ 256 := by
  have h2 := pow2_le (k := b) (by omega)
  have h3 := pow2_le h
  rw [Int.pow_add] at h3
  refine ⟨Int.mul_nonneg h0 (by omega), Int.le_trans (Int.mul_le_mul_of_nonneg_right h1 (by omega)) h3.2⟩
theorem ok22 (l i n : Int) : Pure Tryd.prog 22 [iv l i, .d (nI n)] (.tuple [.d (nI (cells l i n).1), .d (nI (cells l i n).2)]) := by
  refine CallOk.of tysOk mixed od22 Tryd.func22 rfl rfl code22 ?_
  refine W.pure (ok9 l i n) rfl rfl ?_
  refine W.ite (fun h => ?_) (fun h => ?_)
  · refine W.ret (RetQ.pure rfl ?_)
    have : good l i n = false := by simpa using h
    simp [cells, this, mkRet]
  · have hg : good l i n = true := by simpa using h
    obtain ⟨h1, h2, h3, h4, h5, h6⟩ := good_iff.1 hg
    have e : IntKind.i64.wrap (n - l) = n - l := wrap64 (by omega) (by omega)
    have hb := pow2_mul (a := l.toNat) (b := (n - l).toNat) (by omega) h5 (by omega)
    have hb' := pow2_mul (a := l.toNat) (b := (n - l).toNat) (by omega) (i := i + 1) (by omega) (by omega)
    have hl := pow2_le (k := l.toNat) (by omega)
    refine W.need (by rw [e]; omega) ?_
    refine W.need (by rw [e]; omega) ?_
    refine W.ret (RetQ.pure rfl ?_)
    have e1 : IntKind.i64.wrap (i + 1) = i + 1 := wrap64 (by omega) (by omega)
    simp only [cells, hg, if_true, mkRet, e, e1]
    rw [min64 (by omega), wrap64 (by omega) (by omega), wrap64 (n := (i + 1) * _) (by omega) (by omega), wrap64 (by omega) (by omega)]
theorem cells_bad {l i n : Int} (h : good l i n = false) : cells l i n = (0, -1) := by simp [cells, h]
theorem cells_good {l i n : Int} (h : good l i n = true) : cells l i n = (i * 2 ^ (n - l).toNat, (i + 1) * 2 ^ (n - l).toNat - 1) := by simp only [cells, h, if_true]
end Go.Proofs.YtbjjimllnffcpaaDoor.Dy
