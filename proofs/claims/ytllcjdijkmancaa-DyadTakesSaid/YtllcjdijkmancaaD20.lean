import Derived.Test.YtllcjdijkmancaaD19
set_option maxRecDepth 100000
set_option linter.unusedVariables false
set_option linter.unusedSimpArgs false
namespace Go.Proofs.Ytllcjdijkmancaa.Dy
open Go Go.Am
theorem pow2_le16 {k : Nat} (h : k ≤ 16) : (1 : Int) ≤ 2 ^ k ∧ (2 : Int) ^ k ≤ 65536 := by
  have h1 : 2 ^ k ≤ 2 ^ 16 := Nat.pow_le_pow_right (by decide) h
  have h2 := Nat.one_le_two_pow (n := k)
  have e : (2 : Int) ^ k = ((2 ^ k : Nat) : Int) := by simp
  rw [e]
  omega
theorem ok16w (n : Int) (h0 : 0 ≤ n) (h16 : n ≤ 16) : Go.Am.Pure Try.prog 16 [.d (nI n)] (.d (nI (2 ^ n.toNat))) := by
  refine CallOk.of tysOk mixed [] Try.func16 rfl rfl code16 ?_
  refine W.loop (fun k fr σ => ∃ (i : Nat), fr = [(0, .d (nI n)), (3, .d (nI (2 ^ i))), (4, .d (nI i))] ∧ σ = [] ∧ i ≤ n.toNat ∧ k = n.toNat - i) n.toNat
    (Start.of [0, 3, 4] [] (by simp)) ⟨0, rfl, rfl, by omega, rfl⟩ ?_
  rintro k fr σ ⟨i, rfl, rfl, hi, rfl⟩
  refine W.ite (fun h => ?_) (fun h => ?_)
  · have hlt : (i : Int) < n := by simpa using h
    have hp := pow2_le16 (k := i) (by omega)
    refine W.ret ⟨_, _, _, ?_, Trim.of [0, 3, 4] [] (by decide) (by simp) (by simp), i + 1, ?_, rfl, by omega, rfl⟩
    · omega
    · have g1 : IntKind.i64.wrap ((i : Int) + 1) = ((i + 1 : Nat) : Int) := by rw [wrap64 (by omega) (by omega)]; rfl
      have g2 : IntKind.i64.wrap (2 * 2 ^ i) = 2 ^ (i + 1) := by rw [wrap64 (by omega) (by omega), Int.pow_succ]; omega
      rw [← g1, ← g2]; rfl
  · have hlt : i = n.toNat := by have : ¬ (i : Int) < n := (by simpa using h); omega
    subst hlt
    refine W.ret (W.ret ?_)
    exact RetQ.pure rfl rfl
def od27 : Ords := [(6, [0, 1, 2, 3, 4, 5, 8, 9, 10, 11, 12, 13, 6, 7, 14, 15])]
theorem code27 : codeB Try.f27.ntmps od27 (match Try.f27.body with | some c => c | none => .skip) = true := by kernel_rfl
set_option maxHeartbeats 4000000 in
theorem ok27 (nm : ByteArray) (k mn mx num : Int) (s : ByteArray) (n : Int) : Go.Am.Pure Try.prog 27 [atD nm k mn mx, vaD num s, .d (nI n)] (.d (nI (cellV k mn mx num s n))) := by
  refine CallOk.of tysCOk mixed od27 Try.func27 rfl rfl code27 ?_
  have bad : (n < 0 ∨ n > 8) → ∀ {σ : Store}, RetQ ([] : Store).length (fun v s' => v = .d (nI (cellV k mn mx num s n)) ∧ s' = []) .ret [(0, mkRet [.d (nI (-1))])] σ := fun h σ => by
    refine RetQ.pure rfl ?_
    unfold cellV
    rw [if_pos h]
    rfl
  refine W.ite (fun h1 => ?_) (fun h1 => ?_)
  · have n1 := of_decide_eq_true h1
    repeat (first | refine W.ite_t rfl ?_ | refine W.ite_f rfl ?_ | refine W.ite_t h1 ?_)
    exact W.ret (bad (.inl n1))
  have n1 := of_decide_eq_false h1
  repeat (first | refine W.ite_t rfl ?_ | refine W.ite_f rfl ?_ | refine W.ite_f h1 ?_)
  refine W.ite (fun h2 => ?_) (fun h2 => ?_)
  · have n2 := of_decide_eq_true h2
    repeat (first | refine W.ite_t rfl ?_ | refine W.ite_f rfl ?_ | refine W.ite_t h2 ?_)
    exact W.ret (bad (.inr n2))
  have n2 := of_decide_eq_false h2
  have hn : ¬ (n < 0 ∨ n > 8) := by omega
  clear bad
  refine W.ite (fun hk => ?_) (fun hk => ?_)
  · have hk1 : k = 1 := by simpa using hk
    have out : (num < mn ∨ num > mx ∨ mn < -2147483648 ∨ mx > 2147483648) → ∀ {σ : Store}, RetQ ([] : Store).length (fun v s' => v = .d (nI (cellV k mn mx num s n)) ∧ s' = []) .ret [(0, mkRet [.d (nI (-1))])] σ := fun h σ => by
      refine RetQ.pure rfl ?_
      unfold cellV
      rw [if_neg hn, if_pos hk1, if_pos h]
      rfl
    refine W.ite (fun c1 => ?_) (fun c1 => ?_)
    · repeat (first | refine W.ite_t rfl ?_ | refine W.ite_f rfl ?_ | refine W.ite_t c1 ?_)
      exact W.ret (out (.inl (of_decide_eq_true c1)))
    repeat (first | refine W.ite_t rfl ?_ | refine W.ite_f rfl ?_ | refine W.ite_f c1 ?_)
    refine W.ite (fun c2 => ?_) (fun c2 => ?_)
    · repeat (first | refine W.ite_t rfl ?_ | refine W.ite_f rfl ?_ | refine W.ite_t c2 ?_ | refine W.ite_f c1 ?_)
      exact W.ret (out (.inr (.inl (of_decide_eq_true c2))))
    repeat (first | refine W.ite_t rfl ?_ | refine W.ite_f rfl ?_ | refine W.ite_f c1 ?_ | refine W.ite_f c2 ?_)
    refine W.ite (fun c3 => ?_) (fun c3 => ?_)
    · repeat (first | refine W.ite_t rfl ?_ | refine W.ite_f rfl ?_ | refine W.ite_t c3 ?_ | refine W.ite_f c1 ?_ | refine W.ite_f c2 ?_)
      exact W.ret (out (.inr (.inr (.inl (of_decide_eq_true c3)))))
    repeat (first | refine W.ite_t rfl ?_ | refine W.ite_f rfl ?_ | refine W.ite_f c1 ?_ | refine W.ite_f c2 ?_ | refine W.ite_f c3 ?_)
    refine W.ite (fun c4 => ?_) (fun c4 => ?_)
    · exact W.ret (out (.inr (.inr (.inr (of_decide_eq_true c4)))))
    have m1 := of_decide_eq_false c1
    have m2 := of_decide_eq_false c2
    have m3 := of_decide_eq_false c3
    have m4 := of_decide_eq_false c4
    refine W.pure (ok16w n (by omega) (by omega)) rfl rfl ?_
    have e1 : IntKind.i64.wrap (IntKind.i64.wrap (mx - mn) + 1) = mx - mn + 1 := by rw [wrap64 (n := _ - _) (by omega) (by omega), wrap64 (by omega) (by omega)]
    refine W.need ?_ ?_
    · show IntKind.i64.wrap (IntKind.i64.wrap (mx - mn) + 1) ≠ 0
      omega
    refine W.ret ?_
    refine RetQ.pure rfl ?_
    refine ret_nI ?_
    unfold cellV
    rw [if_neg hn, if_pos hk1, if_neg (by omega), e1, wrap64 (n := num - mn) (by omega) (by omega)]
    have hp := pow2_le (k := n.toNat) (by omega)
    have hb := mul_bound (a := num - mn) (p := 2 ^ n.toNat) (by omega) (by omega) (by omega) hp.2
    have hq := quo_bound (a := num - mn) (d := mx - mn + 1) (p := 2 ^ n.toNat) (by omega) (by omega) (by omega) (by omega)
    rw [wrap64 (n := (num - mn) * _) (by omega) (by omega), Int.tdiv_eq_ediv_of_nonneg hb.1, wrap64 (by omega) (by omega)]
  · have hk1 : ¬ k = 1 := by simpa using hk
    have b0 := byteI_le s 0
    have b1 := byteI_le s 1
    have hp2 := preI_le2 s 2
    have hpre : preI s 2 = 256 * byteI s 0 + byteI s 1 := by simp [preI]
    have e1 : IntKind.i64.wrap (16 - n) = 16 - n := wrap64 (by omega) (by omega)
    have fin : ∀ {σ : Store} {x : Int}, x = preI s 2 → RetQ ([] : Store).length (fun v s' => v = .d (nI (cellV k mn mx num s n)) ∧ s' = []) .ret [(0, mkRet [.d (nI (IntKind.i64.wrap (x.tdiv (2 ^ (IntKind.i64.wrap (16 - n)).toNat))))])] σ := fun {σ x} hx => by
      refine RetQ.pure rfl (ret_nI ?_)
      unfold cellV
      have hpp := pow2_le16 (k := (16 - n).toNat) (by omega)
      have h1 : 0 ≤ preI s 2 / 2 ^ (16 - n).toNat := Int.ediv_nonneg (by omega) (by omega)
      have h2 : preI s 2 / 2 ^ (16 - n).toNat ≤ preI s 2 := Int.ediv_le_self _ (by omega)
      rw [if_neg hn, if_neg hk1, e1, hx, Int.tdiv_eq_ediv_of_nonneg hp2.1, wrap64 (by omega) (by omega)]
    have hpw := ok16w (IntKind.i64.wrap (16 - n)) (by omega) (by omega)
    have hpp := pow2_le16 (k := (16 - n).toNat) (by omega)
    refine W.ite (fun c1 => ?_) (fun c1 => ?_)
    · have hs : 0 < s.size := by have := of_decide_eq_true c1; omega
      refine W.need ?_ ?_
      · show (0 : Int) ≤ 0 ∧ (0 : Int) < s.size
        omega
      have hb0 : byteI s 0 = ((s.data.getD 0 0).toNat : Int) := by unfold byteI; rw [if_pos hs]
      refine W.ite (fun c2 => ?_) (fun c2 => ?_)
      · have hs1 : 1 < s.size := by have := of_decide_eq_true c2; omega
        refine W.need ?_ ?_
        · show (0 : Int) ≤ 1 ∧ (1 : Int) < s.size
          omega
        have hb1 : byteI s 1 = ((s.data.getD 1 0).toNat : Int) := by unfold byteI; rw [if_pos hs1]
        refine W.pure hpw rfl rfl ?_
        refine W.need ?_ ?_
        · show (2 : Int) ^ (IntKind.i64.wrap (16 - n)).toNat ≠ 0
          rw [e1]; omega
        refine W.ret ?_
        refine fin (x := IntKind.i64.wrap (IntKind.i64.wrap (0 + IntKind.i64.wrap (256 * IntKind.i64.wrap ((s.data.getD 0 0).toNat : Int))) + IntKind.i64.wrap ((s.data.getD 1 0).toNat : Int))) ?_
        rw [← hb0, ← hb1, wrap64 (n := byteI s 0) (by omega) (by omega), wrap64 (n := 256 * _) (by omega) (by omega), wrap64 (n := 0 + _) (by omega) (by omega), wrap64 (n := byteI s 1) (by omega) (by omega), wrap64 (by omega) (by omega), hpre]
        omega
      · have hs1 : ¬ 1 < s.size := by have := of_decide_eq_false c2; omega
        have hb1 : byteI s 1 = 0 := by unfold byteI; rw [if_neg hs1]
        refine W.pure hpw rfl rfl ?_
        refine W.need ?_ ?_
        · show (2 : Int) ^ (IntKind.i64.wrap (16 - n)).toNat ≠ 0
          rw [e1]; omega
        refine W.ret ?_
        refine fin (x := IntKind.i64.wrap (0 + IntKind.i64.wrap (256 * IntKind.i64.wrap ((s.data.getD 0 0).toNat : Int)))) ?_
        rw [← hb0, wrap64 (n := byteI s 0) (by omega) (by omega), wrap64 (n := 256 * _) (by omega) (by omega), wrap64 (n := 0 + _) (by omega) (by omega), hpre]
        omega
    · have hs : ¬ 0 < s.size := by have := of_decide_eq_false c1; omega
      have hb0 : byteI s 0 = 0 := by unfold byteI; rw [if_neg hs]
      have hb1 : byteI s 1 = 0 := by unfold byteI; rw [if_neg (by omega)]
      have c2 : decide ((s.size : Int) > 1) = false := decide_eq_false (by omega)
      refine W.ite_f c2 ?_
      refine W.pure hpw rfl rfl ?_
      refine W.need ?_ ?_
      · show (2 : Int) ^ (IntKind.i64.wrap (16 - n)).toNat ≠ 0
        rw [e1]; omega
      refine W.ret ?_
      refine fin (x := 0) ?_
      omega
end Go.Proofs.Ytllcjdijkmancaa.Dy
