import Derived.Test.YtddhlmejaobcgaaLA
set_option maxRecDepth 100000
set_option linter.unusedVariables false
set_option linter.unusedSimpArgs false
/- Layer 4: packets that come in order, or late. -/
namespace Go.Proofs.Ytddhlmejaobcgaa.Lk
open Go Go.Am Co
theorem ack_ack (l : Lk) (c : Int) : ack (ack l c) c = ack l c := by
  by_cases h : c - l.a > 0 ∧ c - l.a ≤ l.q.length
  · have e : ack l c = { l with q := l.q.drop (c - l.a).toNat, a := c.toNat } := if_pos h
    rw [e]
    refine if_neg ?_
    show ¬ (c - (c.toNat : Int) > 0 ∧ _)
    omega
  · have e : ack l c = l := if_neg h
    rw [e, e]
theorem ack_with (q : List ByteArray) (a c c' : Nat) (o o' : Bool) (n : Int) : ack ⟨q, a, c', o'⟩ n = { ack ⟨q, a, c, o⟩ n with c := c', o := o' } := by
  by_cases h : n - (a : Int) > 0 ∧ n - (a : Int) ≤ q.length
  · have e1 : ack ⟨q, a, c', o'⟩ n = ⟨q.drop (n - a).toNat, n.toNat, c', o'⟩ := if_pos h
    have e2 : ack ⟨q, a, c, o⟩ n = ⟨q.drop (n - a).toNat, n.toNat, c, o⟩ := if_pos h
    rw [e1, e2]
  · have e1 : ack ⟨q, a, c', o'⟩ n = ⟨q, a, c', o'⟩ := if_neg h
    have e2 : ack ⟨q, a, c, o⟩ n = ⟨q, a, c, o⟩ := if_neg h
    rw [e1, e2]
/-- k packets came in order; with each the peer says that cc came. -/
def adv (R : Lk) (cc k : Nat) : Lk := if k = 0 then R else ⟨(ack R cc).q, (ack R cc).a, R.c + k, true⟩
theorem adv_c (R : Lk) (cc k : Nat) : (adv R cc k).c = R.c + k := by
  unfold adv
  split
  · omega
  · rfl
theorem adv_ack (R : Lk) (cc k : Nat) : (ack (adv R cc k) cc).q = (ack R cc).q ∧ (ack (adv R cc k) cc).a = (ack R cc).a := by
  unfold adv
  split
  · exact ⟨rfl, rfl⟩
  · rw [ack_with (ack R cc).q (ack R cc).a (ack R cc).c (R.c + k) (ack R cc).o true]
    show (ack (ack R cc) cc).q = _ ∧ (ack (ack R cc) cc).a = _
    rw [ack_ack]
    exact ⟨rfl, rfl⟩
theorem take_adv (R : Lk) (cc k : Nat) (s : ByteArray) : takeV (adv R cc k) ((R.c + k : Nat) : Int) cc s = ((s, true, .lit .nilIface), adv R cc (k + 1)) := by
  unfold takeV
  rw [if_neg (by omega), if_neg (by omega), if_neg (by rw [adv_c]; simp)]
  have h := adv_ack R cc k
  have e : adv R cc (k + 1) = ⟨(ack R cc).q, (ack R cc).a, R.c + (k + 1), true⟩ := if_neg (by omega)
  rw [e, h.1.symm, h.2.symm, adv_c]
  rfl
theorem take_old (R : Lk) {n c : Int} {s : ByteArray} (h0 : 0 ≤ n) (h1 : n < R.c) (hc : 0 ≤ c) : takeV R n c s = ((mt, false, .lit .nilIface), { ack R c with o := true }) := by
  unfold takeV
  rw [if_neg (by omega), if_neg (by omega), if_pos (by omega)]
theorem take_note (R : Lk) {c : Int} (hc : 0 ≤ c) : takeV R (-1) c mt = ((mt, false, .lit .nilIface), ack R c) := by
  unfold takeV
  rw [if_neg (by rw [isE_mt]; simp; omega), if_pos (by decide)]
theorem ack_all {q : List ByteArray} {a c : Nat} {o : Bool} {n : Nat} (h1 : a ≤ n) (h2 : n ≤ a + q.length) : ack ⟨q, a, c, o⟩ (n : Int) = ⟨q.drop (n - a), n, c, o⟩ := by
  by_cases h : a = n
  · subst h
    have e : ack ⟨q, a, c, o⟩ (a : Int) = ⟨q, a, c, o⟩ := if_neg (by show ¬ ((a : Int) - (a : Int) > 0 ∧ _); omega)
    rw [e]
    simp
  · have e : ack ⟨q, a, c, o⟩ (n : Int) = ⟨q.drop ((n : Int) - (a : Int)).toNat, (n : Int).toNat, c, o⟩ := if_pos (by show (n : Int) - (a : Int) > 0 ∧ (n : Int) - (a : Int) ≤ (q.length : Int); omega)
    rw [e, show ((n : Int) - (a : Int)).toNat = n - a from by omega]
    rfl
theorem ack_none {q : List ByteArray} {a c : Nat} {o : Bool} {n : Int} (h : n ≤ a) : ack ⟨q, a, c, o⟩ n = ⟨q, a, c, o⟩ := if_neg (by show ¬ (n - (a : Int) > 0 ∧ _); omega)
theorem packets_q {q : List ByteArray} {a c : Nat} {o : Bool} (h : q ≠ []) : packets ⟨q, a, c, o⟩ = pks c a (q.take 8) := by
  unfold packets
  split
  · rename_i h0; exact absurd h0 h
  · rfl
theorem packets_note {a c : Nat} : packets ⟨[], a, c, true⟩ = [pk (-1) c mt] := rfl
theorem packets_none {a c : Nat} : packets ⟨[], a, c, false⟩ = [] := rfl
theorem pks_get (c : Nat) : ∀ (l : List ByteArray) (a k : Nat) (s : ByteArray), l[k]? = some s → (pks c a l)[k]? = some (pk ((a + k : Nat) : Int) c s)
  | [], a, k, s, h => by simp at h
  | x :: r, a, 0, s, h => by simp at h; subst h; rfl
  | x :: r, a, k + 1, s, h => by
    have := pks_get c r (a + 1) k s (by simpa using h)
    rw [show a + 1 + k = a + (k + 1) from by omega] at this
    simpa [pks] using this
theorem ack_ok {l : Lk} (h : l.ok) {c : Int} (hc : c ≤ 1000000) : (ack l c).ok := by
  unfold ack
  split
  · rename_i hk
    have := h.q
    exact ⟨by simp; omega, fun s hs => h.s s (List.mem_of_mem_drop hs), by show c.toNat ≤ _; omega, h.c⟩
  · exact h
theorem adv_ok {R : Lk} (h : R.ok) {cc k : Nat} (hc : cc ≤ 1000000) (hk : R.c + k ≤ 1000000) : (adv R cc k).ok := by
  unfold adv
  split
  · exact h
  · have := ack_ok h (c := cc) (by omega)
    exact ⟨this.q, this.s, this.a, hk⟩
/-- What one who only gets says. -/
def note (m d : Nat) : List ByteArray := if d = 0 then [] else [pk (-1) ((m + d : Nat) : Int) mt]
theorem adv_note (m d : Nat) : packets (adv ⟨[], 0, m, false⟩ 0 d) = note m d := by
  unfold adv note
  split
  · rfl
  · rename_i h
    have : ack ⟨[], 0, m, false⟩ ((0 : Nat) : Int) = ⟨[], 0, m, false⟩ := ack_none (by simp)
    rw [this]
    rfl
theorem adv_quiet (m d : Nat) : ({ adv ⟨[], 0, m, false⟩ 0 d with o := false } : Lk) = ⟨[], 0, m + d, false⟩ := by
  unfold adv
  split
  · rename_i h; subst h; rfl
  · have : ack ⟨[], 0, m, false⟩ ((0 : Nat) : Int) = ⟨[], 0, m, false⟩ := ack_none (by simp)
    rw [this]
theorem note_get {m d j : Nat} (h : j < (note m d).length) : d ≠ 0 ∧ j = 0 ∧ (note m d)[j]? = some (pk (-1) ((m + d : Nat) : Int) mt) := by
  unfold note at *
  split at h
  · simp at h
  · rename_i hd
    have : j = 0 := by simpa using h
    subst this
    rw [if_neg hd]
    exact ⟨hd, rfl, rfl⟩
theorem note_len (m d : Nat) : (note m d).length ≤ 1 ∧ ((note m d).length = 0 → d = 0) := by
  unfold note
  split
  · rename_i h; exact ⟨by simp, fun _ => h⟩
  · exact ⟨by simp, fun h => by simp at h⟩
end Go.Proofs.Ytddhlmejaobcgaa.Lk
