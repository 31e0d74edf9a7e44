import Derived.Test.YtjibnmmpbpheiaaDoorW6
set_option maxRecDepth 100000
set_option linter.unusedVariables false
set_option linter.unusedSimpArgs false
/- What came already is known (plain facts). -/
namespace Go.Proofs.YtjibnmmpbpheiaaDoor.Wi
open Go Go.Am
abbrev Ev := Int × Int
def lastOf (l : List Ev) (p : Int) : Int := l.foldl (fun n e => if e.1 = p ∧ e.2 > n then e.2 else n) 0
theorem lastOf_snoc (l : List Ev) (e : Ev) (p : Int) : lastOf (l ++ [e]) p = if e.1 = p ∧ e.2 > lastOf l p then e.2 else lastOf l p := by simp [lastOf]
theorem lastOf_ge (p : Int) : ∀ (l : List Ev) (n : Int), n ≤ l.foldl (fun n e => if e.1 = p ∧ e.2 > n then e.2 else n) n ∧ ∀ e ∈ l, e.1 = p → e.2 ≤ l.foldl (fun n e => if e.1 = p ∧ e.2 > n then e.2 else n) n
  | [], n => ⟨by simp, fun e h => by cases h⟩
  | x :: r, n => by
    obtain ⟨h1, h2⟩ := lastOf_ge p r (if x.1 = p ∧ x.2 > n then x.2 else n)
    simp only [List.foldl_cons]
    refine ⟨?_, fun e he hp => ?_⟩
    · by_cases hc : x.1 = p ∧ x.2 > n
      · rw [if_pos hc] at h1 ⊢; omega
      · rw [if_neg hc] at h1 ⊢; exact h1
    · rcases List.mem_cons.1 he with rfl | he
      · by_cases hc : e.1 = p ∧ e.2 > n
        · rw [if_pos hc] at h1 ⊢; exact h1
        · rw [if_neg hc] at h1 ⊢; omega
      · exact h2 e he hp
theorem last_ge {l : List Ev} {p : Int} {e : Ev} (he : e ∈ l) (hp : e.1 = p) : e.2 ≤ lastOf l p := (lastOf_ge p l 0).2 e he hp
theorem last_pos (l : List Ev) (p : Int) : 0 ≤ lastOf l p := (lastOf_ge p l 0).1
theorem last_le {B : Int} (hB : 0 ≤ B) {l : List Ev} (p : Int) (h : ∀ e ∈ l, e.2 ≤ B) : lastOf l p ≤ B := by
  unfold lastOf
  suffices ∀ (l : List Ev) (n : Int), n ≤ B → (∀ e ∈ l, e.2 ≤ B) → l.foldl (fun n e => if e.1 = p ∧ e.2 > n then e.2 else n) n ≤ B from this l 0 hB h
  intro l
  induction l with
  | nil => exact fun n hn _ => hn
  | cons x r ih =>
    intro n hn hh
    rw [List.foldl_cons]
    refine ih _ ?_ fun e he => hh e (by simp [he])
    split
    · exact hh x (by simp)
    · exact hn
/-- The reference's answer. -/
def comeR (l : List Ev) (p n : Int) : List Ev × Int × Int :=
  if ¬ inR p n then (l, 0, 1) else if lastOf l p - n ≥ 64 then (l, 3, 0) else if (p, n) ∈ l then (l, 2, 0) else (l ++ [(p, n)], 1, 0)
/-- The window knows of what came. -/
structure Knows (s : Wn) (l : List Ev) : Prop where
  r : ∀ e ∈ l, inR e.1 e.2
  last : ∀ p, (get s p).1 = lastOf l p
  bit : ∀ p (k : Nat), k < 64 → ((get s p).2.testBit k = true ↔ (p, lastOf l p - k) ∈ l)
theorem lastOf_nil (p : Int) : lastOf [] p = 0 := rfl
theorem knows_nil : Knows none [] := ⟨(fun e h => by cases h), fun p => rfl, fun p k _ => by simp [get, tab, getT]⟩
theorem mod64_bit (x k : Nat) (h : k < 64) : (x % 18446744073709551616).testBit k = x.testBit k := by
  have := Nat.testBit_mod_two_pow x 64 k
  simpa [h] using this
theorem knows_step {s : Wn} {l : List Ev} {p n : Int} (h : Knows s l) (hr : inR p n) : (come s p n).1 = (comeR l p n).2.1 ∧ Knows (come s p n).2 (comeR l p n).1 ∧ (comeR l p n).2.2 = 0 := by
  have hL := h.last p
  have hpos := last_pos l p
  unfold comeR
  rw [if_neg (by simpa using hr)]
  have hnew : ∀ v : Int × Nat, come s p n = (1, some (setT p v (tab s))) → v.1 = lastOf (l ++ [(p, n)]) p → (∀ k : Nat, k < 64 → (v.2.testBit k = true ↔ (p, v.1 - k) ∈ l ++ [(p, n)])) → Knows (come s p n).2 (l ++ [(p, n)]) := by
    intro v hc h1 h2
    rw [hc]
    refine ⟨fun e he => ?_, fun q => ?_, fun q k hk => ?_⟩
    · rcases List.mem_append.1 he with he | he
      · exact h.r e he
      · rw [List.mem_singleton.1 he]; exact hr
    · show (getT q (setT p v (tab s))).1 = _
      rw [getT_setT]
      by_cases hq : q = p
      · rw [if_pos hq, hq, h1]
      · rw [if_neg hq, lastOf_snoc, if_neg (by show ¬ (p = q ∧ _); intro hh; exact hq hh.1.symm)]
        exact h.last q
    · show ((getT q (setT p v (tab s))).2.testBit k = true ↔ _)
      rw [getT_setT]
      by_cases hq : q = p
      · rw [if_pos hq, hq, ← h1]
        exact h2 k hk
      · rw [if_neg hq, lastOf_snoc, if_neg (by show ¬ (p = q ∧ _); intro hh; exact hq hh.1.symm)]
        have := h.bit q k hk
        rw [List.mem_append, List.mem_singleton]
        constructor
        · exact fun hh => .inl (this.1 hh)
        · rintro (hh | hh)
          · exact this.2 hh
          · simp only [Prod.mk.injEq] at hh; exact absurd hh.1 hq
  by_cases c1 : n > (get s p).1
  · have hnl : (p, n) ∉ l := fun hm => by have := last_ge hm rfl; rw [hL] at c1; simp only at this; omega
    rw [if_neg (by omega), if_neg hnl]
    have hv : comeV (get s p) n = (1, some (n, if n - (get s p).1 < 64 then ((get s p).2 * 2 ^ (n - (get s p).1).toNat) % 18446744073709551616 ||| 1 else 1)) := by unfold comeV; rw [if_pos c1]
    have hc := come_some hv
    refine ⟨by rw [hc], ?_, rfl⟩
    refine hnew _ hc ?_ fun k hk => ?_
    · show n = _
      rw [lastOf_snoc, if_pos ⟨rfl, by rw [← hL]; exact c1⟩]
    · rw [List.mem_append, List.mem_singleton]
      dsimp only
      rw [hL] at c1 ⊢
      have hup : ∀ j : Int, 0 ≤ j → j < n - lastOf l p → (p, n - j) ∉ l := fun j hj0 hj hm => by have := last_ge hm rfl; simp only at this; omega
      by_cases hk0 : k = 0
      · subst hk0
        have : (if n - lastOf l p < 64 then (get s p).2 * 2 ^ (n - lastOf l p).toNat % 18446744073709551616 ||| 1 else 1).testBit 0 = true := by
          split
          · rw [Nat.testBit_or]; simp
          · rfl
        simp [this]
      · have hne : ¬ ((p, n - (k : Int)) = (p, n)) := by simp; omega
        split
        · rename_i h64
          rw [Nat.testBit_or, show Nat.testBit 1 k = false from by obtain ⟨j, rfl⟩ : ∃ j, k = j + 1 := ⟨k - 1, by omega⟩; rw [Nat.testBit_succ]; simp, Bool.or_false, mod64_bit _ _ hk, Nat.testBit_mul_two_pow]
          by_cases hkd : (n - lastOf l p).toNat ≤ k
          · have := h.bit p (k - (n - lastOf l p).toNat) (by omega)
            have e : lastOf l p - ((k - (n - lastOf l p).toNat : Nat) : Int) = n - k := by omega
            rw [e] at this
            simp only [hkd, decide_true, Bool.true_and, this, hne, or_false]
          · have := hup k (by omega) (by omega)
            simp [hkd, hne, this]
        · have := hup k (by omega) (by omega)
          have h1 : Nat.testBit 1 k = false := by obtain ⟨j, rfl⟩ : ∃ j, k = j + 1 := ⟨k - 1, by omega⟩; rw [Nat.testBit_succ]; simp
          simp [h1, hne, this]
  · by_cases c2 : n - (get s p).1 ≤ -64
    · rw [if_pos (by omega)]
      have hv : comeV (get s p) n = (3, none) := by unfold comeV; rw [if_neg c1, if_pos c2]
      have hc := come_none hv
      rw [hc]
      exact ⟨rfl, h, rfl⟩
    · rw [if_neg (by omega)]
      have hb := h.bit p ((get s p).1 - n).toNat (by omega)
      have e : lastOf l p - ((((get s p).1 - n).toNat : Nat) : Int) = n := by omega
      rw [e] at hb
      by_cases c3 : (get s p).2.testBit ((get s p).1 - n).toNat = true
      · rw [if_pos (hb.1 c3)]
        have hv : comeV (get s p) n = (2, none) := by unfold comeV; rw [if_neg c1, if_neg c2, if_pos c3]
        have hc := come_none hv
        rw [hc]
        exact ⟨rfl, h, rfl⟩
      · rw [if_neg fun hm => c3 (hb.2 hm)]
        have hv : comeV (get s p) n = (1, some ((get s p).1, (get s p).2 ||| 2 ^ ((get s p).1 - n).toNat)) := by unfold comeV; rw [if_neg c1, if_neg c2, if_neg c3]
        have hc := come_some hv
        refine ⟨by rw [hc], ?_, rfl⟩
        refine hnew _ hc ?_ fun k hk => ?_
        · rw [lastOf_snoc, if_neg (by omega)]
          exact hL
        · have hbk := h.bit p k hk
          rw [List.mem_append, List.mem_singleton, Nat.testBit_or, Nat.testBit_two_pow, Bool.or_eq_true, hbk, hL]
          simp only [decide_eq_true_eq, Prod.mk.injEq, true_and]
          constructor
          · rintro (hh | hh)
            · exact .inl hh
            · right; omega
          · rintro (hh | hh)
            · exact .inl hh
            · right; omega
end Go.Proofs.YtjibnmmpbpheiaaDoor.Wi
