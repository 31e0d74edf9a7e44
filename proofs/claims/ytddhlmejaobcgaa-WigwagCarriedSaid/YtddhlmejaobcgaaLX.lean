import Derived.Test.YtddhlmejaobcgaaLB
set_option maxRecDepth 100000
set_option linter.unusedVariables false
set_option linter.unusedSimpArgs false
/- Layer 4: first in, first out, whatever packets are lost, doubled or late. -/
namespace Go.Proofs.Ytddhlmejaobcgaa.Lk
open Go Go.Am Co
/-- A packet that S made while P was what it had to send. -/
def madeOk (P : List ByteArray) (sc : Nat) (p : ByteArray) : Prop :=
  ∃ (n : Int) (c : Nat) (s : ByteArray), p = pk n c s ∧ c ≤ sc ∧ s.size ≤ 1970 ∧ -1 ≤ n ∧ n ≤ 1000000 ∧ ((n = -1 ∧ s = mt) ∨ ∃ k : Nat, n = k ∧ P[k]? = some s)
/-- One way: S sends P, has made M; R has C of it. -/
structure Half (S R : Lk) (P M C : List ByteArray) : Prop where
  q : S.q = P.drop S.a
  a : S.a ≤ R.c
  c : R.c ≤ P.length
  came : C = P.take R.c
  made : ∀ p ∈ M, madeOk P S.c p
  sz : ∀ s ∈ P, s.size ≤ 1970
  len : P.length ≤ 1000
theorem madeOk.mono {P Q : List ByteArray} {c c' : Nat} {p : ByteArray} (h : madeOk P c p) (hc : c ≤ c') : madeOk (P ++ Q) c' p := by
  obtain ⟨n, k, s, h1, h2, h3, h4, h5, h6⟩ := h
  refine ⟨n, k, s, h1, by omega, h3, h4, h5, ?_⟩
  rcases h6 with h6 | ⟨m, h6, h7⟩
  · exact .inl h6
  · exact .inr ⟨m, h6, by rw [List.getElem?_append_left (List.getElem?_eq_some_iff.1 h7).1, h7]⟩
theorem madeOk.up {P : List ByteArray} {c c' : Nat} {p : ByteArray} (h : madeOk P c p) (hc : c ≤ c') : madeOk P c' p := by
  have := h.mono (Q := []) hc
  rwa [List.append_nil] at this
/-- The receiver did something that changed not what came. -/
theorem Half.recv {S R R' : Lk} {P M C : List ByteArray} (h : Half S R P M C) (hc : R'.c = R.c) : Half S R' P M C :=
  ⟨h.q, by rw [hc]; exact h.a, by rw [hc]; exact h.c, by rw [hc]; exact h.came, h.made, h.sz, h.len⟩
/-- The sender did something that changed not what it has to send. -/
theorem Half.send {S S' R : Lk} {P M C : List ByteArray} (h : Half S R P M C) (hq : S'.q = S.q) (ha : S'.a = S.a) (hc : S.c ≤ S'.c) : Half S' R P M C :=
  ⟨by rw [hq, ha]; exact h.q, by rw [ha]; exact h.a, h.c, h.came, fun p hp => (h.made p hp).up hc, h.sz, h.len⟩
theorem Half.push {S R : Lk} {P M C : List ByteArray} (h : Half S R P M C) (s : ByteArray) (hs : s.size ≤ 1970) (hl : P.length < 1000) : Half { S with q := S.q ++ [s] } R (P ++ [s]) M C where
  q := by
    have h1 := h.a
    have h2 := h.c
    show S.q ++ [s] = (P ++ [s]).drop S.a
    rw [List.drop_append_of_le_length (by omega), ← h.q]
  a := h.a
  c := by have := h.c; simp only [List.length_append, List.length_singleton]; omega
  came := by rw [List.take_append_of_le_length h.c]; exact h.came
  made := fun p hp => (h.made p hp).mono (Nat.le_refl _)
  sz := fun t ht => by
    rcases List.mem_append.1 ht with ht | ht
    · exact h.sz t ht
    · rw [List.mem_singleton.1 ht]; exact hs
  len := by simp only [List.length_append, List.length_singleton]; omega
theorem pks_mem (c : Nat) {p : ByteArray} : ∀ (l : List ByteArray) (a : Nat), p ∈ pks c a l → ∃ (k : Nat) (s : ByteArray), l[k]? = some s ∧ p = pk ((a + k : Nat) : Int) (c : Int) s
  | [], _, h => by cases h
  | x :: r, a, h => by
    rcases List.mem_cons.1 h with rfl | h
    · exact ⟨0, x, rfl, rfl⟩
    · obtain ⟨k, s, h1, h2⟩ := pks_mem c r (a + 1) h
      exact ⟨k + 1, s, h1, by rw [h2]; congr 2; omega⟩
theorem Half.packets {S R : Lk} {P M C : List ByteArray} (h : Half S R P M C) : Half { S with o := false } R P (M ++ packets S) C :=
  ⟨h.q, h.a, h.c, h.came, fun p hp => by
    rcases List.mem_append.1 hp with hp | hp
    · exact h.made p hp
    · have ha := h.a
      have hc := h.c
      have hl := h.len
      unfold Lk.packets at hp
      split at hp
      · split at hp
        · rw [List.mem_singleton.1 hp]
          exact ⟨-1, S.c, mt, rfl, Nat.le_refl _, by decide, by decide, by decide, .inl ⟨rfl, rfl⟩⟩
        · cases hp
      · obtain ⟨k, s, h1, h2⟩ := pks_mem _ _ _ hp
        have h3 : P[S.a + k]? = some s := by
          rw [h.q] at h1
          have h4 := (List.getElem?_eq_some_iff.1 h1).1
          rw [List.getElem?_take_of_lt (by rw [List.length_take] at h4; omega), List.getElem?_drop] at h1
          exact h1
        have h5 := (List.getElem?_eq_some_iff.1 h3).1
        exact ⟨((S.a + k : Nat) : Int), S.c, s, h2, Nat.le_refl _, h.sz s (List.mem_of_getElem? h3), by omega, by omega, .inr ⟨S.a + k, rfl, h3⟩⟩, h.sz, h.len⟩
/-- What an end says that it has. -/
theorem Half.ack {S R : Lk} {P M C : List ByteArray} (h : Half S R P M C) {c : Nat} (hc : c ≤ R.c) : Half (Lk.ack S (c : Int)) R P M C := by
  have ha := h.a
  have hp := h.c
  have hql : S.q.length = P.length - S.a := by rw [h.q, List.length_drop]
  have e := ack_c S (c : Int)
  by_cases hd : S.a < c
  · have hk : Lk.ack S (c : Int) = { S with q := S.q.drop (c - S.a), a := c } := by
      unfold Lk.ack
      rw [if_pos (by omega)]
      congr 2
      omega
    rw [hk]
    refine ⟨?_, hc, hp, h.came, h.made, h.sz, h.len⟩
    show S.q.drop (c - S.a) = P.drop c
    rw [h.q, List.drop_drop]
    congr 1
    omega
  · have hk : Lk.ack S (c : Int) = S := by
      unfold Lk.ack
      rw [if_neg (by omega)]
    rw [hk]
    exact h
/-- A packet of the other side comes: S made it, R takes it. -/
theorem Half.take {S R : Lk} {P M C P' M' C' : List ByteArray} (h : Half S R P M C) (h' : Half R S P' M' C') {p : ByteArray} (hp : p ∈ M) :
    (takeL R p).1.2.2 = .lit .nilIface ∧ Half S (takeL R p).2 P M (if (takeL R p).1.2.1 = true then C ++ [(takeL R p).1.1] else C) ∧ Half (takeL R p).2 S P' M' C' := by
  obtain ⟨n, c, s, rfl, hc, hs, hn1, hn2, hk⟩ := h.made p hp
  have hsc := h'.c
  have hl' := h'.len
  have ht : takeL R (pk n c s) = takeV R n c s := take_pk ⟨by omega, by omega⟩ ⟨by omega, by omega⟩ (by omega)
  rw [ht]
  have hka := h'.ack hc
  have e := ack_c R (c : Int)
  rcases hk with ⟨rfl, rfl⟩ | ⟨k, rfl, hk⟩
  · rw [take_note R (by omega)]
    refine ⟨rfl, ?_, hka⟩
    simp only [Bool.false_eq_true, if_false]
    exact h.recv e.1
  · unfold takeV
    rw [if_neg (by omega), if_neg (by omega)]
    by_cases hkc : (k : Int) = R.c
    · have hkc' : k = R.c := by omega
      rw [if_neg (by omega)]
      refine ⟨rfl, ?_, ?_⟩
      · simp only [if_true]
        have hlt := (List.getElem?_eq_some_iff.1 hk).1
        refine ⟨h.q, by have := h.a; show S.a ≤ R.c + 1; omega, by show R.c + 1 ≤ P.length; omega, ?_, h.made, h.sz, h.len⟩
        show C ++ [s] = P.take (R.c + 1)
        rw [List.take_add_one, ← hkc', hk, h.came, hkc']
        rfl
      · exact hka.send rfl rfl (by show (Lk.ack R (c : Int)).c ≤ R.c + 1; rw [e.1]; omega)
    · rw [if_pos hkc]
      refine ⟨rfl, ?_, ?_⟩
      · simp only [Bool.false_eq_true, if_false]
        exact h.recv e.1
      · exact hka.send rfl rfl (Nat.le_refl _)
theorem Half.zero : Half lk0 lk0 [] [] [] := ⟨rfl, by decide, by decide, rfl, by simp, by simp, by decide⟩
end Go.Proofs.Ytddhlmejaobcgaa.Lk
