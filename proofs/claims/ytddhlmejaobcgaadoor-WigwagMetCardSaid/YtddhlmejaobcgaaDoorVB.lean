import Derived.Test.YtddhlmejaobcgaaDoorV7
set_option maxRecDepth 100000
set_option linter.unusedVariables false
set_option linter.unusedSimpArgs false
namespace Go.Proofs.YtddhlmejaobcgaaDoor.Va
open Go Go.Am
/-! ### texts -/
theorem toList_take (s : ByteArray) (n : Nat) : (s.extract 0 n).toList = s.toList.take n := by
  rw [ByteArray.toList_eq, ByteArray.toList_eq, ByteArray.data_extract]
  simp
theorem toList_len (s : ByteArray) : s.toList.length = s.size := by rw [ByteArray.toList_eq]; simp
theorem sEq_refl (s : ByteArray) : sEq s s = true := by unfold sEq; simp
theorem sEq_comm (s t : ByteArray) : sEq s t = sEq t s := by
  unfold sEq
  cases h : s.toList == t.toList with
  | true => rw [eq_of_beq h]; simp
  | false =>
    symm
    rw [beq_eq_false_iff_ne] at h ⊢
    exact fun e => h e.symm
theorem sEq_iff {s t : ByteArray} : sEq s t = true ↔ s.toList = t.toList := by unfold sEq; simp
theorem prefOk_iff {s t : ByteArray} : prefOk s t = true ↔ ∃ r, s.toList = t.toList ++ r := by
  unfold prefOk
  simp only [Bool.and_eq_true, beq_iff_eq, decide_eq_true_eq]
  constructor
  · rintro ⟨_, h⟩
    exact ⟨s.toList.drop t.size, by rw [← h, toList_take, List.take_append_drop]⟩
  · rintro ⟨r, h⟩
    have h1 := toList_len s
    have h2 := toList_len t
    rw [h, List.length_append] at h1
    refine ⟨by omega, ?_⟩
    rw [toList_take, h, ← h2]
    simp
/-! ### texts of plain bytes -/
theorem get_lt {s : ByteArray} {i : Nat} : (s.get! i).toNat < 256 := (s.get! i).toNat_lt
theorem dec_low {s : ByteArray} {i : Nat} (h : (s.get! i).toNat < 128) : Utf8.decode s i = ((s.get! i).toNat, 1) := by
  unfold Utf8.decode
  simp only [Nat.add_zero]
  rw [if_pos h]
theorem dec_high {s : ByteArray} {i : Nat} (h : ¬ (s.get! i).toNat < 128) : 128 ≤ (Utf8.decode s i).1 := by
  unfold Utf8.decode
  simp only [Nat.add_zero]
  rw [if_neg h]
  repeat' split
  all_goals simp_all [Utf8.runeError]
  all_goals omega
theorem rune_scan {s : ByteArray} (p : Int → Bool) (hp : ∀ c : Nat, 128 ≤ c → p c = true) : ∀ (f pos : Nat), s.size < pos + f → (runeIx p s f pos = -1 ↔ ∀ i, pos ≤ i → i < s.size → p (s.get! i).toNat = false)
  | 0, pos, h => by
    simp only [runeIx, true_iff]
    intro i h1 h2
    omega
  | f + 1, pos, h => by
    unfold runeIx
    by_cases hlt : pos < s.size
    · rw [if_pos hlt]
      by_cases hl : (s.get! pos).toNat < 128
      · rw [dec_low hl]
        dsimp only
        cases hb : p (s.get! pos).toNat with
        | true =>
          rw [if_pos rfl]
          constructor
          · intro e; omega
          · intro hall
            have := hall pos (Nat.le_refl _) hlt
            rw [hb] at this
            cases this
        | false =>
          rw [if_neg (by decide), rune_scan p hp f (pos + 1) (by omega)]
          constructor
          · intro hall i h1 h2
            by_cases e : i = pos
            · subst e; exact hb
            · exact hall i (by omega) h2
          · intro hall i h1 h2
            exact hall i (by omega) h2
      · have hb := hp _ (dec_high hl)
        rw [if_pos hb]
        constructor
        · intro e; omega
        · intro hall
          have := hall pos (Nat.le_refl _) hlt
          rw [hp _ (by omega)] at this
          cases this
    · rw [if_neg hlt]
      simp only [true_iff]
      intro i h1 h2
      omega
theorem getI {s : ByteArray} {i : Nat} (h : i < s.size) : s.toList[i]? = some (s.get! i) := by
  rw [ByteArray.toList_eq, Array.getElem?_toList]
  have : s.data[i]? = some s.data[i] := Array.getElem?_eq_getElem h
  rw [this]
  congr 1
  show s.data[i] = s.data[i]!
  rw [getElem!_pos s.data i h]
theorem hasRune_iff {s : ByteArray} (p : Int → Bool) (hp : ∀ c : Nat, 128 ≤ c → p c = true) : hasRune p s = false ↔ ∀ b ∈ s.toList, p b.toNat = false := by
  have h1 := rune_scan (s := s) p hp (s.size + 1) 0 (by omega)
  have h2 := runeIx_nn p s (s.size + 1) 0
  unfold hasRune
  rw [decide_eq_false_iff_not]
  constructor
  · intro h b hb
    obtain ⟨i, hi⟩ := List.getElem?_of_mem hb
    have hlt : i < s.size := by have := (List.getElem?_eq_some_iff.1 hi).1; rw [toList_len] at this; exact this
    have := h1.1 (by omega) i (by omega) hlt
    rw [getI hlt] at hi
    rw [← Option.some.inj hi]
    exact this
  · intro h
    have := h1.2 fun i _ hi => h _ (List.mem_of_getElem? (getI hi))
    omega
theorem badStr_high (c : Nat) (h : 128 ≤ c) : badStr c = true := by unfold badStr; simp; omega
theorem badName_high (c : Nat) (h : 128 ≤ c) : badName c = true := by unfold badName; simp; omega
theorem strOk_pref {s t : ByteArray} (h : strOk s = true) (hp : ∃ r, s.toList = t.toList ++ r) : strOk t = true := by
  obtain ⟨r, hr⟩ := hp
  have h1 := toList_len s
  have h2 := toList_len t
  rw [hr, List.length_append] at h1
  unfold strOk at h ⊢
  simp only [Bool.and_eq_true, decide_eq_true_eq, Bool.not_eq_true'] at h ⊢
  refine ⟨by omega, ?_⟩
  rw [hasRune_iff badStr badStr_high] at h ⊢
  intro b hb
  exact h.2 b (by rw [hr]; exact List.mem_append.2 (.inl hb))
theorem strOk_nil : strOk (txt []) = true := by decide +kernel
/-! ### filters -/
theorem fltFrom_all (s : List Att) (f : List Prd) : ∀ (r : List Prd) (i : Nat), (∀ (j : Nat) (p : Prd), r[j]? = some p → prdBad s f (i + j) p = false) → fltFrom s f r i = none
  | [], i, _ => rfl
  | q :: r, i, h => by
    have h0 := h 0 q rfl
    rw [Nat.add_zero] at h0
    unfold fltFrom
    rw [h0]
    exact fltFrom_all s f r (i + 1) fun j p hp => by
      have := h (j + 1) p (by simpa using hp)
      rw [show i + 1 + j = i + (j + 1) from by omega]
      exact this
/-- Names apart. -/
def Apart (f : List Prd) : Prop := f.Pairwise fun p q => p.nm.toList ≠ q.nm.toList
theorem apart_take {f : List Prd} : (∀ (j : Nat) (p : Prd), f[j]? = some p → (f.take j).any (fun q => sEq q.nm p.nm) = false) ↔ Apart f := by
  unfold Apart
  rw [List.pairwise_iff_getElem]
  constructor
  · intro h i j hi hj hij e
    have := h j f[j] (List.getElem?_eq_getElem hj)
    rw [List.any_eq_false] at this
    refine this f[i] ?_ (sEq_iff.2 e)
    rw [List.mem_take_iff_getElem]
    exact ⟨i, by omega, rfl⟩
  · intro h j p hp
    obtain ⟨hj, rfl⟩ := List.getElem?_eq_some_iff.1 hp
    rw [List.any_eq_false]
    intro q hq hs
    rw [List.mem_take_iff_getElem] at hq
    obtain ⟨i, hi, rfl⟩ := hq
    exact h i j (by omega) hj (by omega) (sEq_iff.1 hs)
theorem fltErr_iff {s : List Att} {f : List Prd} : fltErr s f = none ↔ 1 ≤ f.length ∧ f.length ≤ 4 ∧ Apart f ∧ ∀ p ∈ f, findA s p.nm ≠ -1 ∧ prdOk (attOf s p.nm) p = true := by
  constructor
  · intro h
    have h' := fltErr_none h
    refine ⟨h'.1, h'.2.1, apart_take.1 fun j p hp => ?_, fun p hp => prd_found h hp⟩
    have := h'.2.2 j p hp
    unfold prdBad at this
    simp only [Bool.or_eq_false_iff] at this
    exact this.2.1
  · rintro ⟨h1, h2, h3, h4⟩
    unfold fltErr
    rw [if_neg (by omega)]
    refine fltFrom_all s f f 0 fun j p hp => ?_
    obtain ⟨k1, k2⟩ := h4 p (List.mem_of_getElem? hp)
    rw [Nat.zero_add]
    unfold prdBad
    simp only [Bool.or_eq_false_iff, Bool.not_eq_false']
    refine ⟨?_, apart_take.2 h3 j p hp, k2⟩
    rcases findA_spec s p.nm with h | ⟨k, a, hk, _, _⟩
    · exact absurd h k1
    · rw [hk]; exact decide_eq_false (by omega)
theorem matchV_iff {s : List Att} {f : List Prd} {e : Evt} : matchV s f e = true ↔ fltErr s f = none ∧ evtErr s e = none ∧ ∀ p ∈ f, takeV p (valOf s e p.nm) = true := by
  unfold matchV
  split
  · rename_i h
    constructor
    · intro h'; cases h'
    · rintro ⟨h1, h2, _⟩
      rcases h with h | h
      · exact absurd h1 h
      · exact absurd h2 h
  · rename_i h
    have h1 : fltErr s f = none := Decidable.byContradiction fun h' => h (.inl h')
    have h2 : evtErr s e = none := Decidable.byContradiction fun h' => h (.inr h')
    simp only [Bool.not_eq_true', List.any_eq_false, h1, h2, true_and, Bool.not_eq_false]
end Go.Proofs.YtddhlmejaobcgaaDoor.Va
