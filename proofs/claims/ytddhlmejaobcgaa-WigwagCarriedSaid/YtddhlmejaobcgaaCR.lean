import Derived.Test.YtddhlmejaobcgaaCW
set_option maxRecDepth 100000
set_option linter.unusedVariables false
set_option linter.unusedSimpArgs false
namespace Go.Proofs.Ytddhlmejaobcgaa.Co
open Go Go.Am
/-- What a reader's first error is: where, and which. -/
abbrev Err := Option (Nat × Int)
abbrev ftD (wh : ByteArray) (at_ c : Int) : D := .iface 114 (.box [.lit (.string wh), .lit (.int .i64 at_), .iface 85 (.lit (.int .i64 c))] 0)
abbrev codeW : ByteArray := ⟨#[99, 111, 100, 101]⟩
def errD : Err → D
  | none => .lit .nilIface
  | some e => ftD codeW e.1 e.2
def rS (s : ByteArray) (at_ : Nat) (e : Err) : Store := [.var [.d (sD s), .d (nI at_), .d (errD e)]]
def failE (at_ : Nat) (c : Int) : Err → Err
  | none => some (at_, c)
  | some e => some e
def od19 : Ords := []
theorem code19 : codeB Try.f19.ntmps od19 (match Try.f19.body with | some c => c | none => .skip) = true := by kernel_rfl
def od43 : Ords := []
theorem code43 : codeB Try.f43.ntmps od43 (match Try.f43.body with | some c => c | none => .skip) = true := by kernel_rfl
def od21 : Ords := [(10, [0, 1, 2, 3, 4, 5, 6, 7, 8, 9, 10]), (12, [0, 1, 2, 3, 4, 5, 6, 7, 8, 9, 10, 11, 12, 13, 14]), (13, [0, 1, 2, 3, 4, 5, 6, 7, 8, 9, 10, 11, 12, 13, 14]), (5, [0, 1, 2, 3, 4, 5, 6, 7, 8, 9])]
theorem code21 : codeB Try.f21.ntmps od21 (match Try.f21.body with | some c => c | none => .skip) = true := by kernel_rfl
theorem ok19 (s : ByteArray) : CallOk Try.prog 19 [.d (sD s)] [] (fun v σ => v = .ptr 0 0 ∧ σ = rS s 0 none) := by
  refine CallOk.of tysOk mixed od19 Try.func19 rfl rfl code19 ?_
  refine W.ret (RetQ.all ⟨rfl, rfl⟩)
theorem rS_one (s : ByteArray) (at_ : Nat) (e : Err) : ∀ i, i < (rS s at_ e).length → [0][i]? = some i := fun i hi => by
  have : i = 0 := by simp [rS] at hi; omega
  subst this; rfl
theorem ok43 (s : ByteArray) (at_ : Nat) (e : Err) (c : Int) : CallOk Try.prog 43 [.ptr 0 0, .d (nI c)] (rS s at_ e) (fun v σ => v = .tuple [] ∧ σ = rS s at_ (failE at_ c e)) := by
  refine CallOk.of tysOk mixed od43 Try.func43 rfl rfl code43 ?_
  cases e with
  | none =>
    refine W.ite_t rfl ?_
    refine W.ret ?_
    exact RetQ.part [0] (by decide) (by simp) (rS_one s at_ none) ⟨rfl, rfl⟩
  | some e =>
    refine W.ite_f rfl ?_
    exact W.ret (RetQ.all ⟨rfl, rfl⟩)
/-! ### a number is read -/
def byteAt (s : ByteArray) (i : Nat) : Nat := (s.data.getD i 0).toNat
theorem byteAt_lt (s : ByteArray) (i : Nat) : byteAt s i < 256 := (s.data.getD i 0).toNat_lt
def num (s : ByteArray) : Nat → Nat → Nat → Nat → Nat × Nat × Err
  | 0, _, at_, _ => (0, at_, none)
  | f + 1, i, at_, acc =>
    if s.size ≤ at_ then (0, at_, some (at_, 10))
    else if (i = 9 ∧ byteAt s at_ > 1) ∨ (i > 0 ∧ byteAt s at_ = 0) then (0, at_, some (at_, 11))
    else if byteAt s at_ < 128 then (acc + (byteAt s at_ % 128) * 128 ^ i, at_ + 1, none)
    else num s f (i + 1) (at_ + 1) (acc + (byteAt s at_ % 128) * 128 ^ i)
def readN (s : ByteArray) (at_ : Nat) : Err → Nat × Nat × Err
  | none => num s 10 0 at_ 0
  | some e => (0, at_, some e)
theorem and127 : ∀ m : Fin 256, (BitVec.ofInt 8 ((m.val : Nat) : Int) &&& BitVec.ofInt 8 127).toNat = m.val % 128 := by decide +kernel
theorem accP {acc x i : Nat} (ha : acc < 128 ^ i) (hx : x < 128) (hi : i ≤ 9) (h9 : i = 9 → x ≤ 1) : x * 128 ^ i < 18446744073709551616 ∧ acc + x * 128 ^ i < 18446744073709551616 := by
  have : i = 0 ∨ i = 1 ∨ i = 2 ∨ i = 3 ∨ i = 4 ∨ i = 5 ∨ i = 6 ∨ i = 7 ∨ i = 8 ∨ i = 9 := by omega
  rcases this with rfl | rfl | rfl | rfl | rfl | rfl | rfl | rfl | rfl | rfl <;> (try have h9 := h9 rfl) <;> simp only [Nat.reducePow] at * <;> omega
theorem p128 (i : Nat) : 128 ^ i = 2 ^ (7 * i) := by rw [show (128 : Nat) = 2 ^ 7 from rfl, ← Nat.pow_mul]
theorem shiftU {x i : Nat} (hi : i ≤ 9) (h : x * 128 ^ i < 18446744073709551616) : IntKind.u64.wrap ((x : Int) * 2 ^ min (IntKind.i64.wrap (7 * (i : Int))).toNat IntKind.u64.bits) = ((x * 128 ^ i : Nat) : Int) := by
  rw [bits64', wrap64 (by omega) (by omega), show ((7 * (i : Int)).toNat) = 7 * i from by omega, Nat.min_eq_left (by omega), show ((x : Int) * 2 ^ (7 * i)) = ((x * 128 ^ i : Nat) : Int) from by
    rw [p128]; simp]
  exact wrapNat h
theorem orAcc {acc x i : Nat} (ha : acc < 128 ^ i) (h1 : x * 128 ^ i < 18446744073709551616) (h2 : acc + x * 128 ^ i < 18446744073709551616) :
    IntKind.u64.wrap ((BitVec.ofInt IntKind.u64.bits (acc : Int) ||| BitVec.ofInt IntKind.u64.bits ((x * 128 ^ i : Nat) : Int)).toNat : Nat) = ((acc + x * 128 ^ i : Nat) : Int) := by
  rw [bits64', BitVec.toNat_or, ofIn (by omega), ofIn h1]
  have : acc ||| x * 128 ^ i = acc + x * 128 ^ i := by
    rw [Nat.or_comm, Nat.mul_comm x, p128, ← Nat.two_pow_add_eq_or_of_lt (by rw [← p128]; exact ha), Nat.add_comm]
  rw [this]
  exact wrapNat h2
theorem and7 {b : Nat} (h : b < 256) : IntKind.u8.wrap ((BitVec.ofInt IntKind.u8.bits (b : Int) &&& BitVec.ofInt IntKind.u8.bits 127).toNat : Nat) = ((b % 128 : Nat) : Int) := by
  rw [bits8, and127 ⟨b, h⟩, wrap8]
  simp only
  omega
/-- What the next number comes to, byte by byte. -/
theorem accStep {s : ByteArray} {at_ acc i : Nat} (ha : acc < 128 ^ i) (hi : i ≤ 9) (h9 : i = 9 → byteAt s at_ ≤ 1) :
    IntKind.u64.wrap ((BitVec.ofInt IntKind.u64.bits (acc : Int) ||| BitVec.ofInt IntKind.u64.bits (IntKind.u64.wrap (IntKind.u64.wrap (IntKind.u8.wrap ((BitVec.ofInt IntKind.u8.bits ((byteAt s at_ : Nat) : Int) &&& BitVec.ofInt IntKind.u8.bits 127).toNat : Nat)) * 2 ^ min (IntKind.i64.wrap (7 * (i : Int))).toNat IntKind.u64.bits))).toNat : Nat) = ((acc + (byteAt s at_ % 128) * 128 ^ i : Nat) : Int) := by
  have hb := byteAt_lt s at_
  obtain ⟨h1, h2⟩ := accP (x := byteAt s at_ % 128) ha (by omega) hi (by omega)
  rw [and7 hb, wrapNat (n := byteAt s at_ % 128) (by omega), shiftU hi h1, orAcc ha h1 h2]
theorem accNext {b acc i : Nat} (ha : acc < 128 ^ i) : acc + (b % 128) * 128 ^ i < 128 ^ (i + 1) := by
  have h1 : (b % 128) * 128 ^ i ≤ 127 * 128 ^ i := Nat.mul_le_mul_right _ (by omega)
  rw [Nat.pow_succ]
  omega
theorem in0 {b : Blk} {σ : Store} : ∀ i ∈ [0], i < (b :: σ).length := fun i hi => by
  rw [List.mem_singleton] at hi
  subst hi
  simp
set_option maxHeartbeats 4000000 in
theorem ok21 (s : ByteArray) (at_ : Nat) (e : Err) (hs : s.size ≤ 9223372036854775807) :
    CallOk Try.prog 21 [.ptr 0 0] (rS s at_ e) (fun v σ => v = .d (uI (readN s at_ e).1) ∧ σ = rS s (readN s at_ e).2.1 (readN s at_ e).2.2) := by
  refine CallOk.of tysOk mixed od21 Try.func21 rfl rfl code21 ?_
  refine W.loop (fun k fr σ =>
      (∃ f i a acc, fr = [(0, .ptr 0 0), (3, .d (uI acc)), (4, .d (nI (i : Nat)))] ∧ σ = rS s a none ∧ num s f i a acc = readN s at_ e ∧ f + i = 10 ∧ 1 ≤ f ∧ acc < 128 ^ i ∧ f = k) ∨
      (∃ x y a e', fr = [(0, .ptr 0 0), (3, x), (4, y)] ∧ σ = rS s a (some e') ∧ (0, a, some e') = readN s at_ e)) 10
    (Start.of [0, 3, 4] [] (by simp)) ?_ ?_
  · cases e with
    | none => exact .inl ⟨10, 0, at_, 0, rfl, rfl, rfl, rfl, by decide, by decide, rfl⟩
    | some e => exact .inr ⟨_, _, at_, e, rfl, rfl, rfl⟩
  rintro k fr σ (⟨f, i, a, acc, rfl, rfl, hr, hfi, hf, ha, rfl⟩ | ⟨x, y, a, e', rfl, rfl, hr⟩)
  · obtain ⟨f, rfl⟩ : ∃ f', f = f' + 1 := ⟨f - 1, by omega⟩
    have hb := byteAt_lt s a
    refine W.ite_t rfl ?_
    refine W.ite (fun c1 => ?_) (fun c1 => ?_)
    · have h1 : s.size ≤ a := by have := of_decide_eq_true c1; omega
      refine W.call [0] (by decide) in0 (by simp) rfl rfl (ok43 s a none 10) ?_
      rintro v σ ⟨rfl, rfl⟩
      refine W.ret ⟨0, _, _, by omega, Trim.of [0, 3, 4] [0] (by decide) in0 (rS_one s at_ e), .inr ⟨_, _, a, (a, 10), rfl, rfl, ?_⟩⟩
      rw [← hr, num, if_pos h1]
    have h1 : ¬ s.size ≤ a := by have := of_decide_eq_false c1; omega
    have hix : 0 ≤ (a : Int) ∧ (a : Int) < s.size := by omega
    have hsh : 0 ≤ IntKind.i64.wrap (7 * (i : Int)) := by rw [wrap64 (by omega) (by omega)]; omega
    have wa : IntKind.i64.wrap ((a : Int) + 1) = ((a + 1 : Nat) : Int) := by rw [wrap64 (by omega) (by omega)]; omega
    have wi : IntKind.i64.wrap ((i : Int) + 1) = ((i + 1 : Nat) : Int) := by rw [wrap64 (by omega) (by omega)]; omega
    cases h9 : ((i : Int) == 9) <;> cases hg : decide (((byteAt s a : Nat) : Int) > 1) <;> cases hi : decide ((i : Int) > 0) <;> cases hz : (((byteAt s a : Nat) : Int) == 0)
    all_goals
      have p9 := h9
      have pg := hg
      have pi := hi
      have pz := hz
      simp only [beq_iff_eq, beq_eq_false_iff_ne, ne_eq, decide_eq_true_eq, decide_eq_false_iff_not] at p9 pg pi pz
    all_goals (try omega)
    all_goals
      repeat (first | refine W.ite_t rfl ?_ | refine W.ite_f rfl ?_ | refine W.ite_t h9 ?_ | refine W.ite_f h9 ?_ | refine W.ite_t hg ?_ | refine W.ite_f hg ?_ | refine W.ite_t hi ?_ | refine W.ite_f hi ?_ | refine W.ite_t hz ?_ | refine W.ite_f hz ?_ | refine W.need hix ?_)
    all_goals
      first
      | (refine W.call [0] (by decide) in0 (by simp) rfl rfl (ok43 s a none 11) ?_
         rintro v σ ⟨rfl, rfl⟩
         refine W.ret ⟨0, _, _, by omega, Trim.of [0, 3, 4] [0] (by decide) in0 (rS_one s at_ e), .inr ⟨_, _, a, (a, 11), rfl, rfl, ?_⟩⟩
         rw [← hr, num, if_neg h1, if_pos (by omega)])
      | (have hn9 : i = 9 → byteAt s a ≤ 1 := by omega
         have hacc := accStep (s := s) (at_ := a) ha (by omega) hn9
         refine W.need hsh ?_
         refine W.ite (fun c2 => ?_) (fun c2 => ?_)
         · have h2 : byteAt s a < 128 := by
             have c2 : decide (((byteAt s a : Nat) : Int) < 128) = true := c2
             have := of_decide_eq_true c2; omega
           refine W.ret (W.ret ?_)
           refine RetQ.all ⟨?_, ?_⟩
           · rw [← hr, num, if_neg h1, if_neg (by omega), if_pos h2]
             exact congrArg (fun x => AV.d (.lit (.int .u64 x))) hacc
           · rw [← hr, num, if_neg h1, if_neg (by omega), if_pos h2]
             show [Blk.var [_, AV.d (.lit (.int .i64 (IntKind.i64.wrap ((a : Int) + 1)))), _]] = _
             rw [wa]
             rfl
         · have h2 : ¬ byteAt s a < 128 := by
             have c2 : decide (((byteAt s a : Nat) : Int) < 128) = false := c2
             have := of_decide_eq_false c2; omega
           refine W.ret ⟨f, _, _, by omega, Trim.of [0, 3, 4] [0] (by decide) in0 (rS_one s at_ e), .inl ⟨f, i + 1, a + 1, _, ?_, ?_, ?_, by omega, by omega, accNext (b := byteAt s a) ha, rfl⟩⟩
           · show [(0, AV.ptr 0 0), (3, AV.d (.lit (.int .u64 _))), (4, AV.d (.lit (.int .i64 (IntKind.i64.wrap ((i : Int) + 1)))))] = [(0, AV.ptr 0 0), (3, AV.d (.lit (.int .u64 _))), (4, AV.d (.lit (.int .i64 _)))]
             rw [wi, ← hacc]
             rfl
           · show [Blk.var [_, AV.d (.lit (.int .i64 (IntKind.i64.wrap ((a : Int) + 1)))), _]] = _
             rw [wa]
             rfl
           · rw [← hr, num, if_neg h1, if_neg (by omega), if_neg h2])
  · refine W.ite_f rfl ?_
    refine W.ret (W.ret ?_)
    refine RetQ.all ⟨?_, ?_⟩
    · rw [← hr]; rfl
    · rw [← hr]
end Go.Proofs.Ytddhlmejaobcgaa.Co
