import Derived.Test.YtbjjimllnffcpaaGreatDoorIT
import Derived.Lib.ItoaNum
set_option maxRecDepth 100000
set_option linter.unusedVariables false
set_option linter.unusedSimpArgs false
/- strconv.Itoa of every int. -/
namespace Go.Proofs.YtbjjimllnffcpaaGreatDoor.Va
open Go Go.Am
/-- The digits, d of them. -/
def digs : Nat → Nat → List UInt8
  | 0, _ => []
  | d + 1, u => UInt8.ofNat (48 + u / 10 ^ d % 10) :: digs d u
theorem digs_snoc : ∀ (d u : Nat), digs (d + 1) u = digs d (u / 10) ++ [UInt8.ofNat (48 + u % 10)]
  | 0, u => by simp [digs]
  | d + 1, u => by
    rw [digs, digs_snoc d u]
    show _ = UInt8.ofNat (48 + u / 10 / 10 ^ d % 10) :: digs d (u / 10) ++ _
    rw [Nat.div_div_eq_div_mul, show 10 * 10 ^ d = 10 ^ (d + 1) from (Nat.pow_succ').symm]
    rfl
theorem digs_dec : ∀ (d u : Nat), Lib.nDigits u = d → Lib.decDigits u = digs d u
  | 0, u, h => by have := Lib.nDigits_pos u; omega
  | d + 1, u, h => by
    rw [Lib.decDigits]
    by_cases hu : u < 10
    · rw [dif_pos hu]
      rw [Lib.nDigits_small hu] at h
      obtain rfl : d = 0 := by omega
      simp [digs, Nat.mod_eq_of_lt hu]
    · rw [dif_neg hu]
      rw [Lib.nDigits_big hu] at h
      rw [digs_dec d (u / 10) (by omega), digs_snoc]
theorem pow2_uniq {j k x : Nat} (hj : 1 ≤ j) (hk : 1 ≤ k) (h1 : 2 ^ (j - 1) ≤ x) (h2 : x < 2 ^ j) (h3 : 2 ^ (k - 1) ≤ x) (h4 : x < 2 ^ k) : j = k := by
  have a1 : 2 ^ (j - 1) < 2 ^ k := Nat.lt_of_le_of_lt h1 h4
  have a2 : 2 ^ (k - 1) < 2 ^ j := Nat.lt_of_le_of_lt h3 h2
  have b1 := (Nat.pow_lt_pow_iff_right (by decide)).1 a1
  have b2 := (Nat.pow_lt_pow_iff_right (by decide)).1 a2
  omega
theorem pow10_uniq {j k x : Nat} (hj : 1 ≤ j) (hk : 1 ≤ k) (h1 : 10 ^ (j - 1) ≤ x) (h2 : x < 10 ^ j) (h3 : 10 ^ (k - 1) ≤ x) (h4 : x < 10 ^ k) : j = k := by
  have a1 : 10 ^ (j - 1) < 10 ^ k := Nat.lt_of_le_of_lt h1 h4
  have a2 : 10 ^ (k - 1) < 10 ^ j := Nat.lt_of_le_of_lt h3 h2
  have b1 := (Nat.pow_lt_pow_iff_right (by decide)).1 a1
  have b2 := (Nat.pow_lt_pow_iff_right (by decide)).1 a2
  omega
/-- The length in bits of a byte. -/
def len8 (y : Nat) : Nat := if y = 0 then 0 else Nat.log2 y + 1
theorem len8_spec : ∀ y, y < 256 → 1 ≤ y → 1 ≤ len8 y ∧ len8 y ≤ 8 ∧ 2 ^ (len8 y - 1) ≤ y ∧ y < 2 ^ len8 y := by decide +kernel
theorem len_shift {s x k : Nat} (h1 : 2 ^ s ≤ x) (h : x / 2 ^ s < 256) (hk : 1 ≤ k) (h3 : 2 ^ (k - 1) ≤ x) (h4 : x < 2 ^ k) : s + len8 (x / 2 ^ s) = k := by
  have hp : 0 < 2 ^ s := Nat.pow_pos (by decide)
  have h0 : 1 ≤ x / 2 ^ s := (Nat.one_le_div_iff hp).2 h1
  obtain ⟨a1, a2, a3, a4⟩ := len8_spec _ h h0
  refine pow2_uniq (x := x) (by omega) hk ?_ ?_ h3 h4
  · have : 2 ^ (s + len8 (x / 2 ^ s) - 1) = 2 ^ (len8 (x / 2 ^ s) - 1) * 2 ^ s := by rw [← Nat.pow_add]; congr 1; omega
    rw [this]
    exact (Nat.le_div_iff_mul_le hp).1 a3
  · rw [Nat.add_comm, Nat.pow_add]
    exact (Nat.div_lt_iff_lt_mul hp).1 a4
set_option maxHeartbeats 4000000 in
theorem ok115' (x k : Nat) (hx : x < 18446744073709551616) (hk : 1 ≤ k) (h3 : 2 ^ (k - 1) ≤ x) (h4 : x < 2 ^ k) : Go.Am.Pure Tryz.prog 115 [.d (uI x)] (.d (nI (k : Nat))) := by
  refine CallOk.of tysOk mixed od115 Tryz.func115 rfl rfl code115 ?_
  have h0 : 1 ≤ x := Nat.le_trans (Nat.pow_pos (by decide)) h3
  refine W.ite (fun c => ?_) (fun c => ?_)
  · have c : 4294967296 ≤ x := by have := of_decide_eq_true c; omega
    refine W.need (by decide) ?_
    have s4294967296 : Int.fdiv (((x : Nat)) : Int) (2 ^ min (Int.toNat 32) IntKind.u64.bits) = ((x / 4294967296 : Nat) : Int) := by
      show Int.fdiv (((x : Nat)) : Int) (2 ^ 32) = _
      rw [Int.fdiv_eq_ediv_of_nonneg _ (by decide)]
      show (((x : Nat)) : Int) / 4294967296 = _
      omega
    refine W.ite (fun c => ?_) (fun c => ?_)
    · have c : 65536 ≤ x / 4294967296 := by have := of_decide_eq_true c; rw [s4294967296] at this; omega
      refine W.need (by decide) ?_
      have s281474976710656 : Int.fdiv (((x / 4294967296 : Nat)) : Int) (2 ^ min (Int.toNat 16) IntKind.u64.bits) = ((x / 281474976710656 : Nat) : Int) := by
        show Int.fdiv (((x / 4294967296 : Nat)) : Int) (2 ^ 16) = _
        rw [Int.fdiv_eq_ediv_of_nonneg _ (by decide)]
        show (((x / 4294967296 : Nat)) : Int) / 65536 = _
        omega
      refine W.ite (fun c => ?_) (fun c => ?_)
      · have c : 256 ≤ x / 281474976710656 := by have := of_decide_eq_true c; rw [s4294967296] at this; rw [s281474976710656] at this; omega
        refine W.need (by decide) ?_
        have s72057594037927936 : Int.fdiv (((x / 281474976710656 : Nat)) : Int) (2 ^ min (Int.toNat 8) IntKind.u64.bits) = ((x / 72057594037927936 : Nat) : Int) := by
          show Int.fdiv (((x / 281474976710656 : Nat)) : Int) (2 ^ 8) = _
          rw [Int.fdiv_eq_ediv_of_nonneg _ (by decide)]
          show (((x / 281474976710656 : Nat)) : Int) / 256 = _
          omega
        have hlt : x / 72057594037927936 < 256 := by omega
        have e8 : IntKind.u8.wrap (((x / 72057594037927936 : Nat)) : Int) = ((x / 72057594037927936 : Nat) : Int) := w8 _ hlt
        have e2 : 2 ^ 56 = 72057594037927936 := by decide
        have hfin : 56 + len8 (x / 72057594037927936) = k := by have := len_shift (s := 56) (x := x) (k := k) (by omega) (by omega) hk h3 h4; rwa [e2] at this
        refine W.need (by simp only [s4294967296, s281474976710656, s72057594037927936, e8]; exact ⟨by omega, by show (((x / 72057594037927936 : Nat)) : Int) < ((256 : Nat) : Int); omega⟩) ?_
        refine W.ret (RetQ.pure rfl (ret_nI ?_))
        simp only [s4294967296, s281474976710656, s72057594037927936, e8]
        rw [← hfin]
        generalize x / 72057594037927936 = y at hlt ⊢
        revert y
        decide +kernel
      · have c : x / 281474976710656 < 256 := by have := of_decide_eq_false c; rw [s4294967296] at this; rw [s281474976710656] at this; omega
        have hlt : x / 281474976710656 < 256 := by omega
        have e8 : IntKind.u8.wrap (((x / 281474976710656 : Nat)) : Int) = ((x / 281474976710656 : Nat) : Int) := w8 _ hlt
        have e2 : 2 ^ 48 = 281474976710656 := by decide
        have hfin : 48 + len8 (x / 281474976710656) = k := by have := len_shift (s := 48) (x := x) (k := k) (by omega) (by omega) hk h3 h4; rwa [e2] at this
        refine W.need (by simp only [s4294967296, s281474976710656, e8]; exact ⟨by omega, by show (((x / 281474976710656 : Nat)) : Int) < ((256 : Nat) : Int); omega⟩) ?_
        refine W.ret (RetQ.pure rfl (ret_nI ?_))
        simp only [s4294967296, s281474976710656, e8]
        rw [← hfin]
        generalize x / 281474976710656 = y at hlt ⊢
        revert y
        decide +kernel
    · have c : x / 4294967296 < 65536 := by have := of_decide_eq_false c; rw [s4294967296] at this; omega
      refine W.ite (fun c => ?_) (fun c => ?_)
      · have c : 256 ≤ x / 4294967296 := by have := of_decide_eq_true c; rw [s4294967296] at this; omega
        refine W.need (by decide) ?_
        have s1099511627776 : Int.fdiv (((x / 4294967296 : Nat)) : Int) (2 ^ min (Int.toNat 8) IntKind.u64.bits) = ((x / 1099511627776 : Nat) : Int) := by
          show Int.fdiv (((x / 4294967296 : Nat)) : Int) (2 ^ 8) = _
          rw [Int.fdiv_eq_ediv_of_nonneg _ (by decide)]
          show (((x / 4294967296 : Nat)) : Int) / 256 = _
          omega
        have hlt : x / 1099511627776 < 256 := by omega
        have e8 : IntKind.u8.wrap (((x / 1099511627776 : Nat)) : Int) = ((x / 1099511627776 : Nat) : Int) := w8 _ hlt
        have e2 : 2 ^ 40 = 1099511627776 := by decide
        have hfin : 40 + len8 (x / 1099511627776) = k := by have := len_shift (s := 40) (x := x) (k := k) (by omega) (by omega) hk h3 h4; rwa [e2] at this
        refine W.need (by simp only [s4294967296, s1099511627776, e8]; exact ⟨by omega, by show (((x / 1099511627776 : Nat)) : Int) < ((256 : Nat) : Int); omega⟩) ?_
        refine W.ret (RetQ.pure rfl (ret_nI ?_))
        simp only [s4294967296, s1099511627776, e8]
        rw [← hfin]
        generalize x / 1099511627776 = y at hlt ⊢
        revert y
        decide +kernel
      · have c : x / 4294967296 < 256 := by have := of_decide_eq_false c; rw [s4294967296] at this; omega
        have hlt : x / 4294967296 < 256 := by omega
        have e8 : IntKind.u8.wrap (((x / 4294967296 : Nat)) : Int) = ((x / 4294967296 : Nat) : Int) := w8 _ hlt
        have e2 : 2 ^ 32 = 4294967296 := by decide
        have hfin : 32 + len8 (x / 4294967296) = k := by have := len_shift (s := 32) (x := x) (k := k) (by omega) (by omega) hk h3 h4; rwa [e2] at this
        refine W.need (by simp only [s4294967296, e8]; exact ⟨by omega, by show (((x / 4294967296 : Nat)) : Int) < ((256 : Nat) : Int); omega⟩) ?_
        refine W.ret (RetQ.pure rfl (ret_nI ?_))
        simp only [s4294967296, e8]
        rw [← hfin]
        generalize x / 4294967296 = y at hlt ⊢
        revert y
        decide +kernel
  · have c : x < 4294967296 := by have := of_decide_eq_false c; omega
    refine W.ite (fun c => ?_) (fun c => ?_)
    · have c : 65536 ≤ x := by have := of_decide_eq_true c; omega
      refine W.need (by decide) ?_
      have s65536 : Int.fdiv (((x : Nat)) : Int) (2 ^ min (Int.toNat 16) IntKind.u64.bits) = ((x / 65536 : Nat) : Int) := by
        show Int.fdiv (((x : Nat)) : Int) (2 ^ 16) = _
        rw [Int.fdiv_eq_ediv_of_nonneg _ (by decide)]
        show (((x : Nat)) : Int) / 65536 = _
        omega
      refine W.ite (fun c => ?_) (fun c => ?_)
      · have c : 256 ≤ x / 65536 := by have := of_decide_eq_true c; rw [s65536] at this; omega
        refine W.need (by decide) ?_
        have s16777216 : Int.fdiv (((x / 65536 : Nat)) : Int) (2 ^ min (Int.toNat 8) IntKind.u64.bits) = ((x / 16777216 : Nat) : Int) := by
          show Int.fdiv (((x / 65536 : Nat)) : Int) (2 ^ 8) = _
          rw [Int.fdiv_eq_ediv_of_nonneg _ (by decide)]
          show (((x / 65536 : Nat)) : Int) / 256 = _
          omega
        have hlt : x / 16777216 < 256 := by omega
        have e8 : IntKind.u8.wrap (((x / 16777216 : Nat)) : Int) = ((x / 16777216 : Nat) : Int) := w8 _ hlt
        have e2 : 2 ^ 24 = 16777216 := by decide
        have hfin : 24 + len8 (x / 16777216) = k := by have := len_shift (s := 24) (x := x) (k := k) (by omega) (by omega) hk h3 h4; rwa [e2] at this
        refine W.need (by simp only [s65536, s16777216, e8]; exact ⟨by omega, by show (((x / 16777216 : Nat)) : Int) < ((256 : Nat) : Int); omega⟩) ?_
        refine W.ret (RetQ.pure rfl (ret_nI ?_))
        simp only [s65536, s16777216, e8]
        rw [← hfin]
        generalize x / 16777216 = y at hlt ⊢
        revert y
        decide +kernel
      · have c : x / 65536 < 256 := by have := of_decide_eq_false c; rw [s65536] at this; omega
        have hlt : x / 65536 < 256 := by omega
        have e8 : IntKind.u8.wrap (((x / 65536 : Nat)) : Int) = ((x / 65536 : Nat) : Int) := w8 _ hlt
        have e2 : 2 ^ 16 = 65536 := by decide
        have hfin : 16 + len8 (x / 65536) = k := by have := len_shift (s := 16) (x := x) (k := k) (by omega) (by omega) hk h3 h4; rwa [e2] at this
        refine W.need (by simp only [s65536, e8]; exact ⟨by omega, by show (((x / 65536 : Nat)) : Int) < ((256 : Nat) : Int); omega⟩) ?_
        refine W.ret (RetQ.pure rfl (ret_nI ?_))
        simp only [s65536, e8]
        rw [← hfin]
        generalize x / 65536 = y at hlt ⊢
        revert y
        decide +kernel
    · have c : x < 65536 := by have := of_decide_eq_false c; omega
      refine W.ite (fun c => ?_) (fun c => ?_)
      · have c : 256 ≤ x := by have := of_decide_eq_true c; omega
        refine W.need (by decide) ?_
        have s256 : Int.fdiv (((x : Nat)) : Int) (2 ^ min (Int.toNat 8) IntKind.u64.bits) = ((x / 256 : Nat) : Int) := by
          show Int.fdiv (((x : Nat)) : Int) (2 ^ 8) = _
          rw [Int.fdiv_eq_ediv_of_nonneg _ (by decide)]
          show (((x : Nat)) : Int) / 256 = _
          omega
        have hlt : x / 256 < 256 := by omega
        have e8 : IntKind.u8.wrap (((x / 256 : Nat)) : Int) = ((x / 256 : Nat) : Int) := w8 _ hlt
        have e2 : 2 ^ 8 = 256 := by decide
        have hfin : 8 + len8 (x / 256) = k := by have := len_shift (s := 8) (x := x) (k := k) (by omega) (by omega) hk h3 h4; rwa [e2] at this
        refine W.need (by simp only [s256, e8]; exact ⟨by omega, by show (((x / 256 : Nat)) : Int) < ((256 : Nat) : Int); omega⟩) ?_
        refine W.ret (RetQ.pure rfl (ret_nI ?_))
        simp only [s256, e8]
        rw [← hfin]
        generalize x / 256 = y at hlt ⊢
        revert y
        decide +kernel
      · have c : x < 256 := by have := of_decide_eq_false c; omega
        have hlt : x < 256 := by omega
        have e8 : IntKind.u8.wrap (((x : Nat)) : Int) = ((x : Nat) : Int) := w8 _ hlt
        have hfin : 0 + len8 x = k := by have := len_shift (s := 0) (x := x) (k := k) (by omega) (by simpa using hlt) hk h3 h4; simpa using this
        refine W.need (by simp only [e8]; exact ⟨by omega, by show (((x : Nat)) : Int) < ((256 : Nat) : Int); omega⟩) ?_
        refine W.ret (RetQ.pure rfl (ret_nI ?_))
        simp only [e8]
        rw [← hfin]
        generalize x = y at hlt ⊢
        revert y
        decide +kernel
theorem log_tab : ∀ k, k < 65 → 1 ≤ k → 2 ^ k ≤ 10 ^ (k * 78913 / 262144 + 1) ∧ (1 ≤ k * 78913 / 262144 → 10 ^ (k * 78913 / 262144 - 1) ≤ 2 ^ (k - 1)) ∧ k * 78913 / 262144 < 20 := by decide +kernel
theorem ok104' (u d : Nat) (hu : u < 18446744073709551616) (hd : 1 ≤ d) (h1 : 10 ^ (d - 1) ≤ u) (h2 : u < 10 ^ d) : Go.Am.Pure Tryz.prog 104 [.d (uI u)] (.d (nI (d : Nat))) := by
  refine CallOk.of tysOk mixed od104 Tryz.func104 rfl rfl code104 ?_
  have h0 : 1 ≤ u := Nat.le_trans (Nat.pow_pos (by decide)) h1
  have hk2 : 2 ^ (Nat.log2 u) ≤ u := Nat.log2_self_le (by omega)
  have hk3 : u < 2 ^ (Nat.log2 u + 1) := Nat.lt_log2_self
  have hk4 : Nat.log2 u + 1 < 65 := by
    have : 2 ^ (Nat.log2 u) < 2 ^ 64 := Nat.lt_of_le_of_lt hk2 (by simpa using hu)
    have := (Nat.pow_lt_pow_iff_right (by decide)).1 this
    omega
  obtain ⟨g1, g2, g3⟩ := log_tab (Nat.log2 u + 1) hk4 (by omega)
  have hk2' : 2 ^ (Nat.log2 u + 1 - 1) ≤ u := by simpa using hk2
  have kL := ok115' u (Nat.log2 u + 1) hu (by omega) hk2' hk3
  have kG := ok114 (Nat.log2 u + 1) (by omega)
  generalize Nat.log2 u + 1 = k at *
  refine W.pure kL rfl rfl ?_
  refine W.pure kG rfl rfl ?_
  generalize hm : k * 78913 / 262144 = m at *
  refine W.need ⟨by omega, by show (m : Int) < ((20 : Nat) : Int); omega⟩ ?_
  refine W.glob (.int .u64 (10 ^ m)) (by rw [show 0 + ((m : Nat) : Int).toNat * 1 = m by omega]; exact pow10_glob m g3) ?_
  refine W.pure (ok116 _) rfl rfl ?_
  refine W.ret (RetQ.pure rfl (ret_nI ?_))
  have hcast : ((u : Int) ≥ (10 : Int) ^ m) ↔ 10 ^ m ≤ u := by
    rw [show (10 : Int) ^ m = ((10 ^ m : Nat) : Int) by rw [Int.natCast_pow]; rfl]
    omega
  by_cases hge : 10 ^ m ≤ u
  · rw [decide_eq_true (hcast.2 hge)]
    have : d = m + 1 := pow10_uniq hd (by omega) h1 h2 (by simpa using hge) (Nat.lt_of_lt_of_le hk3 g1)
    show IntKind.i64.wrap ((m : Int) + 1) = _
    rw [wrap64 (by omega) (by omega)]; omega
  · rw [decide_eq_false (fun h => hge (hcast.1 h))]
    have hm1 : 1 ≤ m := by
      rcases Nat.eq_zero_or_pos m with e | e
      · rw [e] at hge; simp at hge; omega
      · exact e
    have : d = m := pow10_uniq hd hm1 h1 h2 (Nat.le_trans (g2 hm1) hk2') (by omega)
    show IntKind.i64.wrap ((m : Int) + 0) = _
    rw [wrap64 (by omega) (by omega)]; omega
/-- A number as a text. -/
def itS (n : Int) : ByteArray := ⟨(Lib.itoa n).toArray⟩
theorem numS_small : ∀ n : Nat, n < 100 → numS n = txt (if n < 10 then digs 1 n else digs 2 n) := by decide +kernel
theorem numS_itS (n : Nat) (h : n < 100) : numS n = itS (n : Int) := by
  rw [numS_small n h]
  unfold itS Lib.itoa txt
  have e0 : ¬ ((n : Int) < 0) := by omega
  simp only [e0, if_false, Int.toNat_natCast]
  by_cases h1 : n < 10
  · rw [if_pos h1, digs_dec 1 n (Lib.nDigits_small h1)]
  · rw [if_neg h1, digs_dec 2 n (by rw [Lib.nDigits_big h1, Lib.nDigits_small (by omega)])]
theorem nD_bounds {u : Nat} (h0 : 1 ≤ u) (h : u < 10000000000000000000) : 1 ≤ Lib.nDigits u ∧ Lib.nDigits u ≤ 19 ∧ 10 ^ (Lib.nDigits u - 1) ≤ u ∧ u < 10 ^ Lib.nDigits u := by
  have h1 := Lib.nDigits_pos u
  have h2 := Lib.lt_pow_nDigits u
  have h3 : ∀ (d u : Nat), 1 ≤ u → Lib.nDigits u = d → 10 ^ (d - 1) ≤ u := by
    intro d
    induction d with
    | zero => intro u hu _; simpa using hu
    | succ d ih =>
      intro u hu hd
      by_cases hs : u < 10
      · rw [Lib.nDigits_small hs] at hd
        obtain rfl : d = 0 := by omega
        simpa using hu
      · rw [Lib.nDigits_big hs] at hd
        have := ih (u / 10) (by omega) (by omega)
        have hp := Lib.nDigits_pos (u / 10)
        rw [show d + 1 - 1 = (d - 1) + 1 by omega, Nat.pow_succ]
        omega
  have h4 := h3 _ u h0 rfl
  refine ⟨h1, ?_, h4, h2⟩
  have : 10 ^ (Lib.nDigits u - 1) < 10 ^ 19 := Nat.lt_of_le_of_lt h4 (by simpa using h)
  have := (Nat.pow_lt_pow_iff_right (by decide)).1 this
  omega
end Go.Proofs.YtbjjimllnffcpaaGreatDoor.Va
