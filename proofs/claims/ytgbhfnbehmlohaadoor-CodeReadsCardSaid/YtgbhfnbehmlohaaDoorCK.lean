import Derived.Test.YtgbhfnbehmlohaaDoorCZ
set_option maxRecDepth 100000
set_option linter.unusedVariables false
set_option linter.unusedSimpArgs false
namespace Go.Proofs.YtgbhfnbehmlohaaDoor.Co
open Go Go.Am
/-! ### bytes that are cut off -/
theorem num_cut (s : ByteArray) : ∀ (f i a acc m j : Nat), f + i = 10 → s.data.toList.drop a = (enc m).take j → j < (enc m).length → m * 128 ^ i < 18446744073709551616 → (i > 0 → m > 0) →
    ∃ a', num s f i a acc = (0, a', some (a', 10))
  | 0, i, a, acc, m, j, hf, hd, hj, hm, hi => by
    obtain rfl : i = 10 := by omega
    have : m > 0 := hi (by decide)
    simp only [Nat.reducePow] at hm
    omega
  | f + 1, i, a, acc, m, j, hf, hd, hj, hm, hi => by
    have hsz : s.data.toList.length = s.size := by simp
    cases j with
    | zero =>
      have := congrArg List.length hd
      simp only [List.length_drop, List.take_zero, List.length_nil, hsz] at this
      exact ⟨a, by rw [num, if_pos (by omega)]⟩
    | succ j =>
      by_cases hb : m > 127
      · rw [enc_big hb, List.take_succ_cons] at hd
        rw [enc_big hb] at hj
        obtain ⟨h1, h2, h3⟩ := byteAt_of hd
        have hv : byteAt s a = 128 + m % 128 := by rw [h1, UInt8.toNat_ofNat', Nat.mod_eq_of_lt (by omega)]
        have hi9 : i ≠ 9 := fun h => by subst h; have := top1 hm; omega
        rw [num, if_neg (by omega), if_neg (by omega), if_neg (by omega)]
        refine num_cut s f (i + 1) (a + 1) _ (m / 128) j (by omega) h3 (by simpa using hj) ?_ (by omega)
        rw [Nat.pow_succ]
        have := sumP m (128 ^ i)
        omega
      · rw [enc_small hb] at hj
        simp at hj
theorem readN_cut {s : ByteArray} {a m j : Nat} (hd : s.data.toList.drop a = (enc m).take j) (hj : j < (enc m).length) (hm : m < 18446744073709551616) : ∃ a', readN s a none = (0, a', some (a', 10)) :=
  num_cut s 10 0 a 0 m j rfl hd hj (by simpa using hm) (by omega)
theorem readT_cut {s t : ByteArray} {a j : Nat} {most : Int} (hd : s.data.toList.drop a = (encT t).take j) (hj : j < (encT t).length) (h1 : (t.size : Int) ≤ (if 0 > most then 0 else most)) (h2 : t.size < 18446744073709551616) :
    ∃ a', readT s a none most = (⟨#[]⟩, a', some (a', 10)) := by
  unfold encT at hd hj
  have hl : t.data.toList.length = t.size := by simp
  have hs : s.data.toList.length = s.size := by simp
  by_cases hc : j < (enc t.size).length
  · rw [List.take_append_of_le_length (by omega)] at hd
    obtain ⟨a', h⟩ := readN_cut hd hc h2
    exact ⟨a', by unfold readT; rw [h]⟩
  · rw [List.take_append, List.take_of_length_le (by omega)] at hd
    obtain ⟨k1, k2⟩ := drop_len hd (enc_ne _)
    have k3 := congrArg List.length k2
    simp only [List.length_drop, List.length_take, List.length_append, hl, hs] at k3 hj
    refine ⟨a + (enc t.size).length, ?_⟩
    unfold readT
    rw [readN_enc hd h2]
    simp only
    rw [if_neg (by omega), if_pos (by omega)]
/-- A number or a text. -/
def k13 (t : Th) : Bool := t.k == 1 || t.k == 3
theorem encTh13 {t : Th} (h : k13 t = true) : encTh t = (if t.k = 1 then enc t.u else encT t.s) ∧ encTh t ≠ [] := by
  unfold k13 at h
  unfold encTh
  by_cases h1 : t.k = 1
  · rw [if_pos h1, if_pos h1]
    exact ⟨rfl, enc_ne _⟩
  · have h3 : t.k = 3 := by simp [h1] at h; exact h
    rw [if_neg h1, if_neg (by omega), if_pos h3, if_neg h1]
    exact ⟨rfl, by unfold encT; have := enc_ne t.s.size; simp_all⟩
/-- How a reader stands behind the first things, of bytes that are cut off. -/
def cutOk (l : List Th) (c j a : Nat) : Err → Prop
  | none => a = (encL (l.take j)).length ∧ a ≤ c
  | some x => x.2 = 10
theorem cut_drop {s : ByteArray} {l : List Th} {c j : Nat} {y : Th} (hs : s.data.toList = (encL l).take c) (hy : l[j]? = some y) :
    s.data.toList.drop (encL (l.take j)).length = (encTh y ++ encL (l.drop (j + 1))).take (c - (encL (l.take j)).length) := by
  rw [hs, List.drop_take, encL_drop hy]
theorem cut_cases {p q : List UInt8} {n : Nat} : (p.length ≤ n ∧ (p ++ q).take n = p ++ q.take (n - p.length)) ∨ (n < p.length ∧ (p ++ q).take n = p.take n) := by
  by_cases h : p.length ≤ n
  · exact .inl ⟨h, by rw [List.take_append, List.take_of_length_le h]⟩
  · exact .inr ⟨by omega, List.take_append_of_le_length (by omega)⟩
theorem cutOk_next {l : List Th} {c j : Nat} {y : Th} (hy : l[j]? = some y) (h : (encL (l.take j)).length + (encTh y).length ≤ c) : cutOk l c (j + 1) ((encL (l.take j)).length + (encTh y).length) none := by
  refine ⟨?_, h⟩
  rw [encL_take hy, List.length_append]
theorem cutN {s : ByteArray} {l : List Th} {c j a : Nat} {e : Err} {y : Th} (hs : s.data.toList = (encL l).take c) (hy : l[j]? = some y) (hk : k13 y = true) (h1 : y.k = 1) (ho : y.ok) (hc : cutOk l c j a e) :
    cutOk l c (j + 1) (readN s a e).2.1 (readN s a e).2.2 := by
  cases e with
  | some x => exact hc
  | none =>
    obtain ⟨rfl, hac⟩ := hc
    have he := (encTh13 hk).1
    rw [if_pos h1] at he
    have hd := cut_drop hs hy
    rcases cut_cases (p := encTh y) (q := encL (l.drop (j + 1))) (n := c - (encL (l.take j)).length) with ⟨k1, k2⟩ | ⟨k1, k2⟩
    · rw [k2, he] at hd
      rw [readN_enc hd ho.2.2, ← he]
      exact cutOk_next hy (by omega)
    · rw [k2, he] at hd
      rw [he] at k1
      obtain ⟨a', h⟩ := readN_cut hd k1 ho.2.2
      rw [h]
      exact rfl
theorem cutT {s : ByteArray} {l : List Th} {c j a : Nat} {e : Err} {y : Th} (hs : s.data.toList = (encL l).take c) (hy : l[j]? = some y) (hk : k13 y = true) (h1 : ¬ y.k = 1) (h200 : y.s.size ≤ 200) (hc : cutOk l c j a e) :
    cutOk l c (j + 1) (readT s a e 200).2.1 (readT s a e 200).2.2 := by
  cases e with
  | some x => exact hc
  | none =>
    obtain ⟨rfl, hac⟩ := hc
    have he := (encTh13 hk).1
    rw [if_neg h1] at he
    have hd := cut_drop hs hy
    have hmo : (y.s.size : Int) ≤ (if (0 : Int) > 200 then 0 else 200) := by rw [if_neg (by decide)]; omega
    rcases cut_cases (p := encTh y) (q := encL (l.drop (j + 1))) (n := c - (encL (l.take j)).length) with ⟨k1, k2⟩ | ⟨k1, k2⟩
    · rw [k2, he] at hd
      rw [readT_enc hd hmo (by omega), ← he]
      exact cutOk_next hy (by omega)
    · rw [k2, he] at hd
      rw [he] at k1
      obtain ⟨a', h⟩ := readT_cut hd k1 hmo (by omega)
      rw [h]
      exact rfl
theorem encL_nil {l : List Th} (h : ∀ t ∈ l, k13 t = true) : encL l = [] → l = [] := fun he => by
  cases l with
  | nil => rfl
  | cons t r =>
    have h1 := (encTh13 (h t (by simp))).2
    unfold encL at he
    simp only [List.flatMap_cons] at he
    exact absurd (List.append_eq_nil_iff.1 he).1 h1
theorem encL_app (a : List Th) (t : Th) : encL (a ++ [t]) = encL a ++ encTh t := by simp [encL]
end Go.Proofs.YtgbhfnbehmlohaaDoor.Co
