import Derived.Test.YtddhlmejaobcgaaCS
set_option maxRecDepth 100000
set_option linter.unusedVariables false
set_option linter.unusedSimpArgs false
namespace Go.Proofs.Ytddhlmejaobcgaa.Co
open Go Go.Am
/-! ### what was written is read -/
theorem byteAt_of {s : ByteArray} {a : Nat} {b : UInt8} {r : List UInt8} (h : s.data.toList.drop a = b :: r) : byteAt s a = b.toNat ∧ a < s.size ∧ s.data.toList.drop (a + 1) = r := by
  have h1 : s.data.toList[a]? = some b := by
    have := congrArg List.head? h
    simpa [List.head?_drop] using this
  refine ⟨?_, ?_, ?_⟩
  · unfold byteAt
    rw [Array.getElem?_toList] at h1
    rw [Array.getD_eq_getD_getElem?, h1]
    rfl
  · have := (List.getElem?_eq_some_iff.1 h1).1
    simpa using this
  · have := congrArg List.tail h
    simpa [List.tail_drop] using this
theorem drop_byte {s : ByteArray} {a : Nat} (h : a < s.size) : s.data.toList.drop a = UInt8.ofNat (byteAt s a) :: s.data.toList.drop (a + 1) := by
  have hl : a < s.data.toList.length := by simpa using h
  rw [List.drop_eq_getElem_cons hl]
  congr 1
  unfold byteAt
  have : s.data.getD a 0 = s.data[a]'(by simpa using h) := by
    rw [Array.getD_eq_getD_getElem?, Array.getElem?_eq_getElem (by simpa using h)]
    rfl
  rw [this]
  simp
theorem sumP (m P : Nat) : (m % 128) * P + (m / 128) * (P * 128) = m * P := by
  have : (m / 128) * (P * 128) = ((m / 128) * 128) * P := by rw [Nat.mul_comm P, ← Nat.mul_assoc]
  rw [this, ← Nat.add_mul]
  congr 1
  omega
theorem top1 {m : Nat} (h : m * 128 ^ 9 < 18446744073709551616) : m ≤ 1 := by
  simp only [Nat.reducePow] at h
  omega
theorem num_enc (s : ByteArray) : ∀ (f i a acc m : Nat) (rest : List UInt8), f + i = 10 → s.data.toList.drop a = enc m ++ rest → m * 128 ^ i < 18446744073709551616 → (i > 0 → m > 0) →
    num s f i a acc = (acc + m * 128 ^ i, a + (enc m).length, none)
  | 0, i, a, acc, m, rest, hf, hd, hm, hi => by
    obtain rfl : i = 10 := by omega
    have : m > 0 := hi (by decide)
    simp only [Nat.reducePow] at hm
    omega
  | f + 1, i, a, acc, m, rest, hf, hd, hm, hi => by
    by_cases hb : m > 127
    · rw [enc_big hb] at hd ⊢
      obtain ⟨h1, h2, h3⟩ := byteAt_of hd
      have hv : byteAt s a = 128 + m % 128 := by
        rw [h1, UInt8.toNat_ofNat', Nat.mod_eq_of_lt (by omega)]
      have hi9 : i ≠ 9 := fun h => by subst h; have := top1 hm; omega
      rw [num, if_neg (by omega), if_neg (by omega), if_neg (by omega), num_enc s f (i + 1) (a + 1) _ (m / 128) rest (by omega) h3 ?_ (by omega), hv, show (128 + m % 128) % 128 = m % 128 from by omega, Nat.pow_succ, Nat.add_assoc acc, sumP]
      · simp only [List.length_cons]
        congr 2
        omega
      · rw [Nat.pow_succ]
        have := sumP m (128 ^ i)
        omega
    · rw [enc_small hb] at hd ⊢
      obtain ⟨h1, h2, h3⟩ := byteAt_of hd
      have hv : byteAt s a = m := by rw [h1, UInt8.toNat_ofNat', Nat.mod_eq_of_lt (by omega)]
      have hi9 : i = 9 → m ≤ 1 := fun h => by subst h; exact top1 hm
      rw [num, if_neg (by omega), if_neg (by omega), if_pos (by omega), hv, Nat.mod_eq_of_lt (by omega)]
      rfl
theorem readN_enc {s : ByteArray} {a m : Nat} {rest : List UInt8} (hd : s.data.toList.drop a = enc m ++ rest) (hm : m < 18446744073709551616) : readN s a none = (m, a + (enc m).length, none) := by
  have := num_enc s 10 0 a 0 m rest rfl hd (by simpa using hm) (by omega)
  simpa [readN] using this
theorem num_dec (s : ByteArray) : ∀ (f i a acc n a' : Nat), f + i = 10 → 1 ≤ f → num s f i a acc = (n, a', none) →
    ∃ m, n = acc + m * 128 ^ i ∧ s.data.toList.drop a = enc m ++ s.data.toList.drop a' ∧ (i > 0 → m > 0) ∧ a' = a + (enc m).length
  | f + 1, i, a, acc, n, a', hf, _, h => by
    rw [num] at h
    split at h
    · simp at h
    · rename_i h1
      split at h
      · simp at h
      · rename_i h2
        have hb := byteAt_lt s a
        split at h
        · rename_i h3
          simp only [Prod.mk.injEq, and_true] at h
          obtain ⟨rfl, rfl⟩ := h
          refine ⟨byteAt s a, ?_, ?_, by omega, ?_⟩
          · rw [Nat.mod_eq_of_lt h3]
          · rw [enc_small (by omega), drop_byte (by omega)]
            rfl
          · rw [enc_small (by omega)]; rfl
        · rename_i h3
          obtain ⟨m, hm, hd, hp, hl⟩ := num_dec s f (i + 1) (a + 1) _ n a' (by omega) (by omega) h
          have hm0 := hp (by omega)
          refine ⟨m * 128 + byteAt s a % 128, ?_, ?_, by omega, ?_⟩
          · rw [hm, Nat.pow_succ, Nat.add_mul, Nat.mul_comm (128 ^ i) 128, Nat.mul_assoc]
            omega
          · rw [enc_big (by omega), drop_byte (by omega), hd, show (m * 128 + byteAt s a % 128) / 128 = m from by omega, show 128 + (m * 128 + byteAt s a % 128) % 128 = byteAt s a from by omega]
            rfl
          · rw [enc_big (by omega), show (m * 128 + byteAt s a % 128) / 128 = m from by omega, hl]
            simp only [List.length_cons]
            omega
theorem num_err (s : ByteArray) : ∀ (f i a acc : Nat) {n a' : Nat} {x : Nat × Int}, num s f i a acc = (n, a', some x) → n = 0
  | 0, i, a, acc, n, a', x, h => by simp [num] at h
  | f + 1, i, a, acc, n, a', x, h => by
    rw [num] at h
    split at h
    · simp at h; omega
    · split at h
      · simp at h; omega
      · split at h
        · simp at h
        · exact num_err s f _ _ _ h
theorem readN_err {s : ByteArray} {a : Nat} {e : Err} {n a' : Nat} {x : Nat × Int} (h : readN s a e = (n, a', some x)) : n = 0 := by
  cases e with
  | none => exact num_err s _ _ _ _ h
  | some e => simp [readN] at h; omega
theorem enc_mono : ∀ (k m n : Nat), n < k → m ≤ n → (enc m).length ≤ (enc n).length
  | k + 1, m, n, hk, h => by
    by_cases hm : m > 127
    · rw [enc_big hm, enc_big (by omega : n > 127)]
      have := enc_mono k (m / 128) (n / 128) (by omega) (Nat.div_le_div_right h)
      simpa using this
    · rw [enc_small hm]
      have := List.length_pos_iff.2 (enc_ne n)
      simp only [List.length_cons, List.length_nil]
      omega
theorem enc_inj {m n : Nat} (h1 : m < 18446744073709551616) (h2 : n < 18446744073709551616) (h : enc m = enc n) : m = n := by
  have e1 := readN_enc (s := ⟨(enc m).toArray⟩) (a := 0) (m := m) (rest := []) (by simp) h1
  have e2 := readN_enc (s := ⟨(enc m).toArray⟩) (a := 0) (m := n) (rest := []) (by simp [h]) h2
  have := e1.symm.trans e2
  simp only [Prod.mk.injEq] at this
  exact this.1
theorem zz_inj {a b : Int} (h : zz a = zz b) : a = b := by rw [← unzz_zz a, ← unzz_zz b, h]
theorem zz_mono {a b : Int} (h0 : a ≥ 0) (h : b ≥ a) : zz a ≤ zz b := by
  unfold zz
  rw [if_pos h0, if_pos (by omega)]
  omega
end Go.Proofs.Ytddhlmejaobcgaa.Co
