import Derived.Test.YtddhlmejaobcgaaWCd
set_option maxRecDepth 100000
set_option linter.unusedVariables false
set_option linter.unusedSimpArgs false
/- Walk: a packet arrives. -/
namespace Go.Proofs.Ytddhlmejaobcgaa.Lk
open Go Go.Am Co
def od13 : Ords := [(3, [0, 1, 2, 3, 4, 5, 6, 1007, 8, 9, 10, 11, 12, 13, 14]), (7, [0, 1, 2, 4, 5, 6, 7, 8, 9, 11, 14, 2007, 3, 2008, 12, 10, 13, 15, 1016]), (2007, [12, 3, 10, 13, 15, 1016]), (2008, [10, 12, 13, 15, 1016])]
theorem code13 : codeB Try.f13.ntmps od13 (match Try.f13.body with | some c => c | none => .skip) = true := by kernel_rfl
abbrev prL (a b : List ByteArray) : Blk := .var [slS a, slS b]
abbrev s2 (E F : Lk) (C D : List ByteArray) : Store := [.var (lkC E ++ lkC F), prL C D]
theorem keep2' : ∀ i, i < 2 → [0, 1][i]? = some i := by
  intro j hj; have : j = 0 ∨ j = 1 := (by omega); rcases this with rfl | rfl <;> rfl
theorem snoc2 (l : List ByteArray) (m : List ByteArray) : D.sl (0 + l.length + m.length) ((([] ++ flat sC l) ++ flat sC m).take ((0 + l.length + m.length) * 1)) = .sl (l ++ m).length (flat sC (l ++ m)) := by
  rw [Nat.zero_add, List.nil_append, ← flat_append, ← List.length_append, flat_all sC_len]
set_option maxHeartbeats 16000000 in
theorem ok13A (E F : Lk) (hE : E.ok) (C D : List ByteArray) (hC : C.length ≤ 1000000) (n f : Int) (p : ByteArray) (hp : p.size ≤ 1000000) {x : ByteArray} {ok : Bool} {E' : Lk} (ht : takeL E p = ((x, ok, .lit .nilIface), E')) :
    CallOk Try.prog 13 [.ptr 0 0, .ptr 1 0, .d (.agg [nI n, nI f, nI 0, sD p])] (s2 E F C D) (fun v s => v = .d (nI 0) ∧ s = s2 E' F (if ok = true then C ++ [x] else C) D) := by
  refine CallOk.of tysOk mixed od13 Try.func13 rfl rfl code13 ?_
  have kp := okA37 E F hE p hp
  rw [ht] at kp
  dsimp only at kp
  repeat (first | refine W.ite_t rfl ?_ | refine W.ite_f rfl ?_ | refine W.need (by decide) ?_)
  refine W.callT [0] kp (by decide) rfl rfl rfl rfl ?_
  rintro v σ ⟨rfl, rfl⟩
  repeat (first | refine W.ite_t rfl ?_ | refine W.ite_f rfl ?_ | refine W.need (by decide) ?_)
  cases ok with
  | false =>
    repeat (first | refine W.ite_t rfl ?_ | refine W.ite_f rfl ?_ | refine W.need (by decide) ?_)
    exact W.ret (RetQ.part [0, 1] (by decide) (by show ∀ i ∈ [0, 1], i < 3; simp) keep2' ⟨rfl, rfl⟩)
  | true =>
    repeat (first | refine W.ite_t rfl ?_ | refine W.ite_f rfl ?_ | refine W.need (by decide) ?_)
    have fin : s2 E' F (C ++ [x]) D = [.var (lkC E' ++ lkC F), .var [.d (.sl (0 + C.length + 1) ((([] ++ flat sC C) ++ [sD x]).take ((0 + C.length + 1) * 1))), slS D]] := by
      have e := snoc2 C [x]
      show [Blk.var (lkC E' ++ lkC F), .var [.d (.sl (C ++ [x]).length (flat sC (C ++ [x]))), slS D]] = _
      rw [← e]; rfl
    have a1 := flat_one sC_one C
    refine W.both (W.both ?_ ?_) ?_
    · refine W.alt_l ?_
      refine W.need ⟨rfl, rfl, by rw [sl_len]; simp, by omega, by omega, a1⟩ ?_
      refine W.need ⟨rfl, rfl, rfl, by omega, by omega, by intro c hc; obtain rfl := List.mem_singleton.1 hc; rfl⟩ ?_
      repeat (first | refine W.ite_t rfl ?_ | refine W.ite_f rfl ?_ | refine W.need (by decide) ?_)
      exact W.ret (RetQ.part [0, 1] (by decide) (fun j hj => Nat.lt_of_lt_of_le (show j < 2 by simp at hj; omega) (Nat.le_add_left _ _)) keep2' ⟨rfl, by simp only [if_true]; rw [fin]; rfl⟩)
    · refine W.need ⟨rfl, rfl, by rw [sl_len]; simp, by omega, by omega, a1⟩ ?_
      refine W.alt_l ?_
      refine W.need ⟨rfl, rfl, rfl, by omega, by omega, by intro c hc; obtain rfl := List.mem_singleton.1 hc; rfl⟩ ?_
      repeat (first | refine W.ite_t rfl ?_ | refine W.ite_f rfl ?_ | refine W.need (by decide) ?_)
      exact W.ret (RetQ.part [0, 1] (by decide) (fun j hj => Nat.lt_of_lt_of_le (show j < 2 by simp at hj; omega) (Nat.le_add_left _ _)) keep2' ⟨rfl, by simp only [if_true]; rw [fin]; rfl⟩)
    · refine W.alt_l ?_
      refine W.need ⟨rfl, rfl, by rw [sl_len]; simp, by omega, by omega, a1⟩ ?_
      refine W.need ⟨rfl, rfl, rfl, by omega, by omega, by intro c hc; obtain rfl := List.mem_singleton.1 hc; rfl⟩ ?_
      repeat (first | refine W.ite_t rfl ?_ | refine W.ite_f rfl ?_ | refine W.need (by decide) ?_)
      exact W.ret (RetQ.part [0, 1] (by decide) (fun j hj => Nat.lt_of_lt_of_le (show j < 2 by simp at hj; omega) (Nat.le_add_left _ _)) keep2' ⟨rfl, by simp only [if_true]; rw [fin]; rfl⟩)
set_option maxHeartbeats 16000000 in
theorem ok13B (E F : Lk) (hE : F.ok) (C D : List ByteArray) (hC : D.length ≤ 1000000) (n f : Int) (p : ByteArray) (hp : p.size ≤ 1000000) {x : ByteArray} {ok : Bool} {F' : Lk} (ht : takeL F p = ((x, ok, .lit .nilIface), F')) :
    CallOk Try.prog 13 [.ptr 0 0, .ptr 1 0, .d (.agg [nI n, nI f, nI 1, sD p])] (s2 E F C D) (fun v s => v = .d (nI 0) ∧ s = s2 E F' C (if ok = true then D ++ [x] else D)) := by
  refine CallOk.of tysOk mixed od13 Try.func13 rfl rfl code13 ?_
  have kp := okB37 F E hE p hp
  rw [ht] at kp
  dsimp only at kp
  repeat (first | refine W.ite_t rfl ?_ | refine W.ite_f rfl ?_ | refine W.need (by decide) ?_)
  refine W.callT [0] kp (by decide) rfl rfl rfl rfl ?_
  rintro v σ ⟨rfl, rfl⟩
  repeat (first | refine W.ite_t rfl ?_ | refine W.ite_f rfl ?_ | refine W.need (by decide) ?_)
  cases ok with
  | false =>
    repeat (first | refine W.ite_t rfl ?_ | refine W.ite_f rfl ?_ | refine W.need (by decide) ?_)
    exact W.ret (RetQ.part [0, 1] (by decide) (by show ∀ i ∈ [0, 1], i < 3; simp) keep2' ⟨rfl, rfl⟩)
  | true =>
    repeat (first | refine W.ite_t rfl ?_ | refine W.ite_f rfl ?_ | refine W.need (by decide) ?_)
    have fin : s2 E F' C (D ++ [x]) = [.var (lkC E ++ lkC F'), .var [slS C, .d (.sl (0 + D.length + 1) ((([] ++ flat sC D) ++ [sD x]).take ((0 + D.length + 1) * 1)))]] := by
      have e := snoc2 D [x]
      show [Blk.var (lkC E ++ lkC F'), .var [slS C, .d (.sl (D ++ [x]).length (flat sC (D ++ [x])))]] = _
      rw [← e]; rfl
    have a1 := flat_one sC_one D
    refine W.both (W.both ?_ ?_) ?_
    · refine W.alt_l ?_
      refine W.need ⟨rfl, rfl, by rw [sl_len]; simp, by omega, by omega, a1⟩ ?_
      refine W.need ⟨rfl, rfl, rfl, by omega, by omega, by intro c hc; obtain rfl := List.mem_singleton.1 hc; rfl⟩ ?_
      repeat (first | refine W.ite_t rfl ?_ | refine W.ite_f rfl ?_ | refine W.need (by decide) ?_)
      exact W.ret (RetQ.part [0, 1] (by decide) (fun j hj => Nat.lt_of_lt_of_le (show j < 2 by simp at hj; omega) (Nat.le_add_left _ _)) keep2' ⟨rfl, by simp only [if_true]; rw [fin]; rfl⟩)
    · refine W.need ⟨rfl, rfl, by rw [sl_len]; simp, by omega, by omega, a1⟩ ?_
      refine W.alt_l ?_
      refine W.need ⟨rfl, rfl, rfl, by omega, by omega, by intro c hc; obtain rfl := List.mem_singleton.1 hc; rfl⟩ ?_
      repeat (first | refine W.ite_t rfl ?_ | refine W.ite_f rfl ?_ | refine W.need (by decide) ?_)
      exact W.ret (RetQ.part [0, 1] (by decide) (fun j hj => Nat.lt_of_lt_of_le (show j < 2 by simp at hj; omega) (Nat.le_add_left _ _)) keep2' ⟨rfl, by simp only [if_true]; rw [fin]; rfl⟩)
    · refine W.alt_l ?_
      refine W.need ⟨rfl, rfl, by rw [sl_len]; simp, by omega, by omega, a1⟩ ?_
      refine W.need ⟨rfl, rfl, rfl, by omega, by omega, by intro c hc; obtain rfl := List.mem_singleton.1 hc; rfl⟩ ?_
      repeat (first | refine W.ite_t rfl ?_ | refine W.ite_f rfl ?_ | refine W.need (by decide) ?_)
      exact W.ret (RetQ.part [0, 1] (by decide) (fun j hj => Nat.lt_of_lt_of_le (show j < 2 by simp at hj; omega) (Nat.le_add_left _ _)) keep2' ⟨rfl, by simp only [if_true]; rw [fin]; rfl⟩)
end Go.Proofs.Ytddhlmejaobcgaa.Lk
