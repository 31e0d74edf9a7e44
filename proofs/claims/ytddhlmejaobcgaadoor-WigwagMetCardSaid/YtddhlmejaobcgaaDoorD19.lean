import Derived.Test.YtddhlmejaobcgaaDoorD3
set_option maxRecDepth 100000
set_option linter.unusedVariables false
set_option linter.unusedSimpArgs false
namespace Go.Proofs.YtddhlmejaobcgaaDoor.Dy
open Go Go.Am
def tysC : Tys := [(3, ⟨.scalar, false, 1, [.int .i64 0], [.int .i64], false, 0⟩), (9, ⟨.str, false, 1, [.string ⟨#[]⟩], [.str], false, 0⟩), (87, ⟨.struct [(0, 9), (1, 3), (2, 3)], true, 3, [.string ⟨#[]⟩, .int .i64 0, .int .i64 0], [.str, .int .i64, .int .i64], true, 0⟩), (50, ⟨.struct [(0, 9), (1, 3), (2, 3), (3, 3), (4, 9)], true, 5, [.string ⟨#[]⟩, .int .i64 0, .int .i64 0, .int .i64 0, .string ⟨#[]⟩], [.str, .int .i64, .int .i64, .int .i64, .str], true, 0⟩), (54, ⟨.struct [(0, 9), (1, 3), (2, 3), (3, 3)], true, 4, [.string ⟨#[]⟩, .int .i64 0, .int .i64 0, .int .i64 0], [.str, .int .i64, .int .i64, .int .i64], true, 0⟩), (5, ⟨.scalar, false, 1, [.int .u8 0], [.int .u8], false, 0⟩), (107, ⟨.slice 5 1 1 true, false, 1, [.slice none 0 0], [.other], false, 0⟩), (28, ⟨.struct [(0, 26), (1, 9)], true, 2, [.slice none 0 0, .string ⟨#[]⟩], [.other, .str], true, 0⟩), (57, ⟨.struct [(0, 3), (1, 9)], true, 2, [.int .i64 0, .string ⟨#[]⟩], [.int .i64, .str], true, 0⟩), (136, ⟨.scalar, false, 1, [.int .u32 0], [.int .u32], false, 0⟩), (25, ⟨.slice 50 5 56 false, false, 1, [.slice none 0 0], [.other], false, 0⟩), (23, ⟨.slice 54 4 40 false, false, 1, [.slice none 0 0], [.other], false, 0⟩), (74, ⟨.struct [(0, 3), (1, 3)], true, 2, [.int .i64 0, .int .i64 0], [.int .i64, .int .i64], true, 0⟩), (26, ⟨.slice 57 2 24 false, false, 1, [.slice none 0 0], [.other], false, 0⟩), (41, ⟨.iface, false, 1, [.nilIface], [.other], false, 0⟩), (128, ⟨.scalar, false, 1, [.int .u64 0], [.int .u64], false, 0⟩), (38, ⟨.slice 74 2 16 false, false, 1, [.slice none 0 0], [.other], false, 0⟩), (44, ⟨.slice 9 1 16 false, false, 1, [.slice none 0 0], [.other], false, 0⟩), (2, ⟨.scalar, false, 1, [.int .i64 0], [.int .i64], false, 0⟩), (21, ⟨.scalar, false, 1, [.int .i32 0], [.int .i32], false, 0⟩), (84, ⟨.struct [(0, 9), (1, 3), (2, 41)], true, 3, [.string ⟨#[]⟩, .int .i64 0, .nilIface], [.str, .int .i64, .other], false, 0⟩), (82, ⟨.scalar, false, 1, [.int .i64 0], [.int .i64], false, 0⟩), (81, ⟨.ptr, false, 1, [.pointer none], [.other], false, 0⟩), (127, ⟨.array 24 5 1, true, 24, [.int .u8 0, .int .u8 0, .int .u8 0, .int .u8 0, .int .u8 0, .int .u8 0, .int .u8 0, .int .u8 0, .int .u8 0, .int .u8 0, .int .u8 0, .int .u8 0, .int .u8 0, .int .u8 0, .int .u8 0, .int .u8 0, .int .u8 0, .int .u8 0, .int .u8 0, .int .u8 0, .int .u8 0, .int .u8 0, .int .u8 0, .int .u8 0], [.int .u8, .int .u8, .int .u8, .int .u8, .int .u8, .int .u8, .int .u8, .int .u8, .int .u8, .int .u8, .int .u8, .int .u8, .int .u8, .int .u8, .int .u8, .int .u8, .int .u8, .int .u8, .int .u8, .int .u8, .int .u8, .int .u8, .int .u8, .int .u8], true, 0⟩), (35, ⟨.slice 71 2 24 false, false, 1, [.slice none 0 0], [.other], false, 0⟩), (29, ⟨.slice 69 4 40 false, false, 1, [.slice none 0 0], [.other], false, 0⟩), (32, ⟨.slice 70 5 56 false, false, 1, [.slice none 0 0], [.other], false, 0⟩), (4, ⟨.scalar, false, 1, [.bool false], [.bool], false, 0⟩), (135, ⟨.array 20 128 1, true, 20, [.int .u64 0, .int .u64 0, .int .u64 0, .int .u64 0, .int .u64 0, .int .u64 0, .int .u64 0, .int .u64 0, .int .u64 0, .int .u64 0, .int .u64 0, .int .u64 0, .int .u64 0, .int .u64 0, .int .u64 0, .int .u64 0, .int .u64 0, .int .u64 0, .int .u64 0, .int .u64 0], [.int .u64, .int .u64, .int .u64, .int .u64, .int .u64, .int .u64, .int .u64, .int .u64, .int .u64, .int .u64, .int .u64, .int .u64, .int .u64, .int .u64, .int .u64, .int .u64, .int .u64, .int .u64, .int .u64, .int .u64], true, 0⟩), (69, ⟨.struct [(0, 9), (1, 3), (2, 3), (3, 3)], true, 4, [.string ⟨#[]⟩, .int .i64 0, .int .i64 0, .int .i64 0], [.str, .int .i64, .int .i64, .int .i64], true, 0⟩), (71, ⟨.struct [(0, 3), (1, 9)], true, 2, [.int .i64 0, .string ⟨#[]⟩], [.int .i64, .str], true, 0⟩), (70, ⟨.struct [(0, 9), (1, 3), (2, 3), (3, 3), (4, 9)], true, 5, [.string ⟨#[]⟩, .int .i64 0, .int .i64 0, .int .i64 0, .string ⟨#[]⟩], [.str, .int .i64, .int .i64, .int .i64, .str], true, 0⟩)]
theorem tysCOk : TysOk Tryd.prog tysC := TysOk.of (by kernel_rfl)
abbrev sD (s : ByteArray) : D := .lit (.string s)
/-- An attribute, a value, a predicate, in the machine. -/
abbrev atD (nm : ByteArray) (k mn mx : Int) : AV := .d (.agg [sD nm, nI k, nI mn, nI mx])
abbrev vaD (num : Int) (s : ByteArray) : AV := .d (.agg [nI num, sD s])
abbrev prD (nm : ByteArray) (o lo hi : Int) (s : ByteArray) : AV := .d (.agg [sD nm, nI o, nI lo, nI hi, sD s])
theorem ret_nI {a b : Int} (h : a = b) : mkRet [.d (.lit (.int .i64 a))] = .d (nI b) := by subst h; rfl
/-- A text, cut. -/
def cutS (s : ByteArray) : ByteArray := if s.size > 60 then s.extract 0 60 else s
/-- A byte of a text, or 0 behind its end. -/
def byteI (s : ByteArray) (i : Nat) : Int := if i < s.size then ((s.data.getD i 0).toNat : Int) else 0
theorem byteI_le (s : ByteArray) (i : Nat) : 0 ≤ byteI s i ∧ byteI s i < 256 := by
  unfold byteI
  split
  · have := (s.data.getD i 0).toNat_lt
    omega
  · omega
/-- The first cell's number of a text. -/
def preI (s : ByteArray) (i : Nat) : Int := if i = 0 then 0 else if i = 1 then byteI s 0 else 256 * byteI s 0 + byteI s 1
theorem preI_step (s : ByteArray) {i : Nat} (h : i < 2) : preI s (i + 1) = preI s i * 256 + byteI s i := by
  have : i = 0 ∨ i = 1 := by omega
  rcases this with rfl | rfl
  · simp [preI]
  · simp [preI]; omega
theorem preI_le (s : ByteArray) (i : Nat) (h : i < 2) : 0 ≤ preI s i ∧ preI s i < 256 := by
  have := byteI_le s 0
  have : i = 0 ∨ i = 1 := by omega
  rcases this with rfl | rfl
  · simp [preI]
  · simp [preI]; omega
theorem preI_le2 (s : ByteArray) (i : Nat) : 0 ≤ preI s i ∧ preI s i < 65536 := by
  have := byteI_le s 0
  have := byteI_le s 1
  unfold preI
  split
  · omega
  · split <;> omega
/-- The cell of a value. -/
def cellV (k mn mx num : Int) (s : ByteArray) (n : Int) : Int :=
  if n < 0 ∨ n > 8 then -1
  else if k = 1 then (if num < mn ∨ num > mx ∨ mn < -2147483648 ∨ mx > 2147483648 then -1 else (num - mn) * 2 ^ n.toNat / (mx - mn + 1))
  else preI s 2 / 2 ^ (16 - n).toNat
theorem or_low (x b : Nat) (hx : x < 256) (hb : b < 256) : (BitVec.ofInt 64 ((x * 256 : Nat) : Int) ||| BitVec.ofInt 64 (b : Int)).toNat = x * 256 + b := by
  rw [BitVec.toNat_or, BitVec.ofInt_natCast, BitVec.ofInt_natCast, BitVec.toNat_ofNat, BitVec.toNat_ofNat, Nat.mod_eq_of_lt (by omega), Nat.mod_eq_of_lt (by omega)]
  have := Nat.shiftLeft_add_eq_or_of_lt (i := 8) (b := b) (by omega) x
  rw [Nat.shiftLeft_eq] at this
  exact this.symm
def od14 : Ords := [(6, [0, 1, 2, 3, 4, 5, 6, 7, 8, 9, 10, 11, 12, 13, 14])]
theorem code14 : codeB Tryd.f14.ntmps od14 (match Tryd.f14.body with | some c => c | none => .skip) = true := by kernel_rfl
theorem pow2_le16 {k : Nat} (h : k ≤ 16) : (1 : Int) ≤ 2 ^ k ∧ (2 : Int) ^ k ≤ 65536 := by
  have h1 : 2 ^ k ≤ 2 ^ 16 := Nat.pow_le_pow_right (by decide) h
  have h2 := Nat.one_le_two_pow (n := k)
  have e : (2 : Int) ^ k = ((2 ^ k : Nat) : Int) := by simp
  rw [e]
  omega
theorem pow2_9 {k : Nat} (h : k ≤ 8) : (1 : Int) ≤ 2 ^ k ∧ (2 : Int) ^ k ≤ 256 := pow2_le h
theorem quo_bound {a p d : Int} (h0 : 0 ≤ a) (h1 : a < d) (hp : 0 < p) (hd : 0 < d) : 0 ≤ a * p / d ∧ a * p / d < p := by
  refine ⟨Int.ediv_nonneg (Int.mul_nonneg h0 (Int.le_of_lt hp)) (Int.le_of_lt hd), ?_⟩
  refine Int.ediv_lt_of_lt_mul hd ?_
  rw [Int.mul_comm p d]
  exact Int.mul_lt_mul_of_pos_right h1 hp
theorem mul_bound {a p : Int} (h0 : 0 ≤ a) (h1 : a ≤ 4294967296) (hp : 0 ≤ p) (hq : p ≤ 256) : 0 ≤ a * p ∧ a * p ≤ 1099511627776 := by
  refine ⟨Int.mul_nonneg h0 hp, ?_⟩
  have := Int.mul_le_mul h1 hq hp (by omega : (0 : Int) ≤ 4294967296)
  omega
set_option maxHeartbeats 4000000 in
theorem ok14 (nm : ByteArray) (k mn mx num : Int) (s : ByteArray) (n : Int) : Go.Am.Pure Tryd.prog 14 [atD nm k mn mx, vaD num s, .d (nI n)] (.d (nI (cellV k mn mx num s n))) := by
  refine CallOk.of tysCOk mixed od14 Tryd.func14 rfl rfl code14 ?_
  have bad : (n < 0 ∨ n > 8) → ∀ {σ : Store}, RetQ ([] : Store).length (fun v s' => v = .d (nI (cellV k mn mx num s n)) ∧ s' = []) .ret [(0, mkRet [.d (nI (-1))])] σ := fun h σ => by
    refine RetQ.pure rfl ?_
    unfold cellV
    rw [if_pos h]
    rfl
  refine W.ite (fun h1 => ?_) (fun h1 => ?_)
  · have n1 := of_decide_eq_true h1
    repeat (first | refine W.ite_t rfl ?_ | refine W.ite_f rfl ?_ | refine W.ite_t h1 ?_)
    exact W.ret (bad (.inl n1))
  have n1 := of_decide_eq_false h1
  repeat (first | refine W.ite_t rfl ?_ | refine W.ite_f rfl ?_ | refine W.ite_f h1 ?_)
  refine W.ite (fun h2 => ?_) (fun h2 => ?_)
  · have n2 := of_decide_eq_true h2
    repeat (first | refine W.ite_t rfl ?_ | refine W.ite_f rfl ?_ | refine W.ite_t h2 ?_)
    exact W.ret (bad (.inr n2))
  have n2 := of_decide_eq_false h2
  have hn : ¬ (n < 0 ∨ n > 8) := by omega
  clear bad
  refine W.ite (fun hk => ?_) (fun hk => ?_)
  · have hk1 : k = 1 := by simpa using hk
    have out : (num < mn ∨ num > mx ∨ mn < -2147483648 ∨ mx > 2147483648) → ∀ {σ : Store}, RetQ ([] : Store).length (fun v s' => v = .d (nI (cellV k mn mx num s n)) ∧ s' = []) .ret [(0, mkRet [.d (nI (-1))])] σ := fun h σ => by
      refine RetQ.pure rfl ?_
      unfold cellV
      rw [if_neg hn, if_pos hk1, if_pos h]
      rfl
    refine W.ite (fun c1 => ?_) (fun c1 => ?_)
    · repeat (first | refine W.ite_t rfl ?_ | refine W.ite_f rfl ?_ | refine W.ite_t c1 ?_)
      exact W.ret (out (.inl (of_decide_eq_true c1)))
    repeat (first | refine W.ite_t rfl ?_ | refine W.ite_f rfl ?_ | refine W.ite_f c1 ?_)
    refine W.ite (fun c2 => ?_) (fun c2 => ?_)
    · repeat (first | refine W.ite_t rfl ?_ | refine W.ite_f rfl ?_ | refine W.ite_t c2 ?_ | refine W.ite_f c1 ?_)
      exact W.ret (out (.inr (.inl (of_decide_eq_true c2))))
    repeat (first | refine W.ite_t rfl ?_ | refine W.ite_f rfl ?_ | refine W.ite_f c1 ?_ | refine W.ite_f c2 ?_)
    refine W.ite (fun c3 => ?_) (fun c3 => ?_)
    · repeat (first | refine W.ite_t rfl ?_ | refine W.ite_f rfl ?_ | refine W.ite_t c3 ?_ | refine W.ite_f c1 ?_ | refine W.ite_f c2 ?_)
      exact W.ret (out (.inr (.inr (.inl (of_decide_eq_true c3)))))
    repeat (first | refine W.ite_t rfl ?_ | refine W.ite_f rfl ?_ | refine W.ite_f c1 ?_ | refine W.ite_f c2 ?_ | refine W.ite_f c3 ?_)
    refine W.ite (fun c4 => ?_) (fun c4 => ?_)
    · exact W.ret (out (.inr (.inr (.inr (of_decide_eq_true c4)))))
    have m1 := of_decide_eq_false c1
    have m2 := of_decide_eq_false c2
    have m3 := of_decide_eq_false c3
    have m4 := of_decide_eq_false c4
    refine W.need ?_ ?_
    · show 0 ≤ n
      omega
    have e1 : IntKind.i64.wrap (IntKind.i64.wrap (mx - mn) + 1) = mx - mn + 1 := by rw [wrap64 (n := _ - _) (by omega) (by omega), wrap64 (by omega) (by omega)]
    refine W.need ?_ ?_
    · show IntKind.i64.wrap (IntKind.i64.wrap (mx - mn) + 1) ≠ 0
      omega
    refine W.ret ?_
    refine RetQ.pure rfl ?_
    refine ret_nI ?_
    unfold cellV
    rw [if_neg hn, if_pos hk1, if_neg (by omega), e1, min64 (by omega), wrap64 (n := num - mn) (by omega) (by omega)]
    have hp := pow2_le (k := n.toNat) (by omega)
    have hb := mul_bound (a := num - mn) (p := 2 ^ n.toNat) (by omega) (by omega) (by omega) hp.2
    have hq := quo_bound (a := num - mn) (d := mx - mn + 1) (p := 2 ^ n.toNat) (by omega) (by omega) (by omega) (by omega)
    rw [wrap64 (n := (num - mn) * _) (by omega) (by omega), Int.tdiv_eq_ediv_of_nonneg hb.1, wrap64 (by omega) (by omega)]
  · have hk1 : ¬ k = 1 := by simpa using hk
    refine W.loop (fun m fr σ => ∃ i : Nat, fr = [(2, .d (nI n)), (4, .ptr 1 0), (7, .d (nI (preI s i))), (54, .d (nI i))] ∧ σ = [.var [.d (sD nm), .d (nI k), .d (nI mn), .d (nI mx)], .var [.d (nI num), .d (sD s)]] ∧ i ≤ 2 ∧ m = 2 - i) 2
      (Start.of [2, 4, 7, 54] [] (by simp)) ⟨0, rfl, rfl, by omega, rfl⟩ ?_
    rintro m fr σ ⟨i, rfl, rfl, hi, rfl⟩
    refine W.ite (fun c1 => ?_) (fun c1 => ?_)
    · have hi2 : i < 2 := by have : (i : Int) < 2 := (by simpa using c1); omega
      refine W.need ?_ ?_
      · show (0 : Int) ≤ 8
        omega
      have g1 : IntKind.i64.wrap ((i : Int) + 1) = ((i + 1 : Nat) : Int) := by rw [wrap64 (by omega) (by omega)]; rfl
      have hpl := preI_le s i hi2
      have hst := preI_step s hi2
      have e8 : IntKind.i64.wrap (preI s i * 2 ^ min (8 : Int).toNat IntKind.i64.bits) = preI s i * 256 := by
        rw [min64 (by decide), show ((2 : Int) ^ (8 : Int).toNat) = 256 from rfl, wrap64 (by omega) (by omega)]
      refine W.ite (fun c2 => ?_) (fun c2 => ?_)
      · have hs : i < s.size := by have := of_decide_eq_true c2; omega
        refine W.need ?_ ?_
        · show (0 : Int) ≤ i ∧ (i : Int) < s.size
          omega
        refine W.ret ⟨_, _, _, ?_, Trim.of [2, 4, 7, 54] [0, 1] (by decide) (by simp) (by intro j hj; have : j = 0 ∨ j = 1 := (by simp at hj; omega); rcases this with rfl | rfl <;> rfl), i + 1, ?_, rfl, by omega, rfl⟩
        · omega
        · have hb := (s.data.getD i 0).toNat_lt
          have hbI : byteI s i = ((s.data.getD i 0).toNat : Int) := by unfold byteI; rw [if_pos hs]
          obtain ⟨x, hx⟩ : ∃ x : Nat, preI s i = x := ⟨(preI s i).toNat, by omega⟩
          have g2 : IntKind.i64.wrap ((BitVec.ofInt IntKind.i64.bits (IntKind.i64.wrap (preI s i * 2 ^ min (8 : Int).toNat IntKind.i64.bits)) ||| BitVec.ofInt IntKind.i64.bits (IntKind.i64.wrap ((s.data.getD i 0).toNat : Int))).toNat : Nat) = preI s (i + 1) := by
            rw [e8, wrap64 (n := ((s.data.getD i 0).toNat : Int)) (by omega) (by omega), bits64, hx, show ((x : Int) * 256) = ((x * 256 : Nat) : Int) from by simp, or_low x _ (by omega) (by omega), wrap64 (by omega) (by omega), hst, hx, hbI]
            simp
          rw [← g1, ← g2]
          rfl
      · have hs : ¬ i < s.size := by have := of_decide_eq_false c2; omega
        refine W.ret ⟨_, _, _, ?_, Trim.of [2, 4, 7, 54] [0, 1] (by decide) (by simp) (by intro j hj; have : j = 0 ∨ j = 1 := (by simp at hj; omega); rcases this with rfl | rfl <;> rfl), i + 1, ?_, rfl, by omega, rfl⟩
        · omega
        · have hbI : byteI s i = 0 := by unfold byteI; rw [if_neg hs]
          have g2 : IntKind.i64.wrap (preI s i * 2 ^ min (8 : Int).toNat IntKind.i64.bits) = preI s (i + 1) := by
            rw [e8, hst, hbI]; omega
          rw [← g1, ← g2]
          rfl
    · have hi2 : i = 2 := by have : ¬ (i : Int) < 2 := (by simpa using c1); omega
      subst hi2
      have e1 : IntKind.i64.wrap (16 - n) = 16 - n := wrap64 (by omega) (by omega)
      refine W.ret ?_
      refine W.need ?_ ?_
      · show 0 ≤ IntKind.i64.wrap (16 - n)
        omega
      refine W.ret ?_
      refine RetQ.pure rfl ?_
      refine ret_nI ?_
      unfold cellV
      rw [if_neg hn, if_neg hk1, e1, min64 (by omega), Int.fdiv_eq_ediv_of_nonneg _ (Int.le_of_lt (Int.pow_pos (by omega)))]
end Go.Proofs.YtddhlmejaobcgaaDoor.Dy
