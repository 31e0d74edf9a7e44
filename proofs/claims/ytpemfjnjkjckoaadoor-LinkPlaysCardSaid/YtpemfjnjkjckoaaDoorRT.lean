import Derived.Test.YtpemfjnjkjckoaaDoorRF
import Derived.Test.YtpemfjnjkjckoaaDoorLB
import Derived.Test.YtpemfjnjkjckoaaDoorA2
set_option maxRecDepth 100000
set_option linter.unusedVariables false
set_option linter.unusedSimpArgs false
/- Layer 4: LinkTakes. -/
namespace Go.Proofs.YtpemfjnjkjckoaaDoor.Lk
open Go Go.Am Co
def od4 : Ords := [(23, [1000, 1, 2, 3, 4, 5, 6, 7, 8, 9, 10, 11, 12, 14, 13, 15, 16, 17, 18, 20, 19, 1021, 22, 23, 25, 26, 27, 28, 24, 29, 30, 31, 32, 33, 34, 35, 36])]
theorem code4 : codeB Tryd.f4.ntmps od4 (match Tryd.f4.body with | some c => c | none => .skip) = true := by kernel_rfl
theorem okOfPush (l : Lk) (s : ByteArray) : Go.Am.Pure Tryd.prog 9 [.d (errC (push l s).1)] (.d (nI (push l s).1)) := by
  unfold push
  split
  · exact As.okOf linkW 0 1
  · split
    · exact As.okOf linkW 0 4
    · exact As.okOfNil
theorem okOfTake (l : Lk) (p : ByteArray) : Go.Am.Pure Tryd.prog 9 [.d (takeL l p).1.2.2] (.d (nI (takeE p))) := by
  unfold takeL takeE
  generalize rdP p = R
  obtain ⟨n, c, s, e⟩ := R
  cases e with
  | some e => exact As.okOf2 linkW codeW 0 e.1 e.2
  | none =>
    dsimp only
    unfold takeV takeC
    by_cases hb : n < -1 ∨ c < 0 ∨ (n < 0 ∧ isE s = false)
    · rw [if_pos hb, if_pos hb]; exact As.okOf linkW 0 11
    · rw [if_neg hb, if_neg hb]
      split
      · exact As.okOfNil
      · split <;> exact As.okOfNil
theorem push_cases (l : Lk) (s : ByteArray) : push l s = (1, l) ∨ push l s = (4, l) ∨ push l s = (0, { l with q := l.q ++ [s] }) := by
  unfold push
  split
  · exact .inl rfl
  · split
    · exact .inr (.inl rfl)
    · exact .inr (.inr rfl)
theorem take_err (l : Lk) (p : ByteArray) : (takeL l p).1.2.2 = .lit .nilIface ∨ (takeL l p).1.2.2 = ftD linkW 0 11 ∨ ∃ e, (takeL l p).1.2.2 = nestD e := by
  unfold takeL
  generalize rdP p = R
  obtain ⟨n, c, s, e⟩ := R
  cases e with
  | some e => exact .inr (.inr ⟨e, rfl⟩)
  | none =>
    dsimp only
    unfold takeV
    split
    · exact .inr (.inl rfl)
    · split
      · exact .inl rfl
      · split <;> exact .inl rfl
/-- Bounds that hold behind i calls. -/
structure Bd (l : Lk) (i : Nat) : Prop where
  q : l.q.length ≤ 64
  s : ∀ s ∈ l.q, s.size ≤ 1970
  a : l.a ≤ 100 * i
  c : l.c ≤ i
theorem Bd.ok {l : Lk} {i : Nat} (h : Bd l i) (hi : i ≤ 10000) : l.ok := ⟨h.q, h.s, by have := h.a; omega, by have := h.c; omega⟩
theorem Bd.zero : Bd lk0 0 := ⟨by decide, by simp, by decide, by decide⟩
theorem Bd.next {l : Lk} {i : Nat} (h : Bd l i) : Bd l (i + 1) := ⟨h.q, h.s, by have := h.a; omega, by have := h.c; omega⟩
theorem Bd.push {l : Lk} {i : Nat} (h : Bd l i) (s : ByteArray) : Bd (push l s).2 (i + 1) := by
  have := h.q
  unfold Lk.push
  split
  · exact h.next
  · rename_i h1
    split
    · exact h.next
    · rename_i h2
      refine ⟨by simp; omega, fun t ht => ?_, by have := h.a; show l.a ≤ _; omega, by have := h.c; show l.c ≤ _; omega⟩
      rcases List.mem_append.1 ht with ht | ht
      · exact h.s t ht
      · rw [List.mem_singleton.1 ht]; omega
theorem Bd.ack {l : Lk} {i : Nat} (h : Bd l i) (c : Int) : (ack l c).q.length ≤ 64 ∧ (∀ s ∈ (ack l c).q, s.size ≤ 1970) ∧ (ack l c).a ≤ 100 * (i + 1) := by
  have hq := h.q
  have ha := h.a
  unfold Lk.ack
  split
  · exact ⟨by simp; omega, fun s hs => h.s s (List.mem_of_mem_drop hs), by show c.toNat ≤ _; omega⟩
  · exact ⟨hq, h.s, by omega⟩
theorem Bd.takeV {l : Lk} {i : Nat} (h : Bd l i) (n c : Int) (s : ByteArray) : Bd (takeV l n c s).2 (i + 1) := by
  obtain ⟨k1, k2, k3⟩ := h.ack c
  have hc := h.c
  have e := ack_c l c
  unfold Lk.takeV
  split
  · exact h.next
  · split
    · exact ⟨k1, k2, k3, by show (Lk.ack l c).c ≤ _; rw [e.1]; omega⟩
    · split
      · exact ⟨k1, k2, k3, by show (Lk.ack l c).c ≤ _; rw [e.1]; omega⟩
      · exact ⟨k1, k2, k3, by show l.c + 1 ≤ _; omega⟩
theorem Bd.take {l : Lk} {i : Nat} (h : Bd l i) (p : ByteArray) : Bd (takeL l p).2 (i + 1) := by
  unfold takeL
  generalize rdP p = R
  obtain ⟨n, c, s, e⟩ := R
  cases e with
  | some e => exact h.next
  | none => exact h.takeV n c s
theorem Bd.quiet {l : Lk} {i : Nat} (h : Bd l i) : Bd { l with o := false } (i + 1) := ⟨h.q, h.s, by have := h.a; show l.a ≤ _; omega, by have := h.c; show l.c ≤ _; omega⟩
/-- A call of the law. -/
structure Act where
  side : Bool
  k : Int
  n : Int
  s : ByteArray
def acC (x : Act) : List D := [.lit (.bool x.side), nI x.k, nI x.n, sD x.s]
theorem acC_len (x : Act) : (acC x).length = 4 := rfl
theorem acE3 {l : List Act} {i : Nat} {x : Act} (h : l[i]? = some x) : Elem (flat acC l) [.str] (i * 4 + 3) 1 [sD x.s] := Elem.of acC_len h _ 3 rfl (by decide) ⟨rfl, True.intro⟩ rfl
theorem acE1 {l : List Act} {i : Nat} {x : Act} (h : l[i]? = some x) : Elem (flat acC l) [.int .i64] (i * 4 + 1) 1 [nI x.k] := Elem.of acC_len h _ 1 rfl (by decide) ⟨rfl, True.intro⟩ rfl
theorem tr2' {n : Nat} (h : n = 2) : ∀ i, i < n → [0, 1][i]? = some i := fun i hi => by
  have : i = 0 ∨ i = 1 := by omega
  rcases this with rfl | rfl <;> rfl
theorem wrapS' {i : Nat} (h : i < 1000000000) : IntKind.i64.wrap ((i : Int) + 1) = ((i + 1 : Nat) : Int) := by rw [wrap64 (by omega) (by omega)]; omega
theorem bool_beq (b : Bool) : (b == b) = true := by cases b <;> rfl
set_option maxHeartbeats 16000000 in
theorem ok4 (A : List Act) (p0 : ByteArray) : Go.Am.Pure Tryd.prog 4 [slF acC A, .d (sD p0)] (bI true) := by
  refine CallOk.of tysOk mixed od4 Tryd.func4 rfl rfl code4 ?_
  refine W.pure (ok6 p0 2200) rfl rfl ?_
  have hp := cut_size p0 2200
  generalize cut p0 2200 = p at hp
  refine W.loop (fun k fr σ => ∃ (i : Nat) (l : Lk), fr = [(0, slF acC A), (1, .d (sD p)), (5, .ptr 0 0), (6, .ptr 1 0), (7, .d (nI i))] ∧ σ = [.var (lkC l), .var (lkC l)] ∧ Bd l i ∧ i ≤ 20 ∧ k = 20 - i) 20
    (Start.of [0, 1, 5, 6, 7] [] (by simp)) ⟨0, lk0, rfl, rfl, Bd.zero, by omega, rfl⟩ ?_
  rintro k fr σ ⟨i, l, rfl, rfl, hB, hi, rfl⟩
  have hok := hB.ok (by omega)
  cases h1 : decide ((i : Int) < (A.length : Int)) <;> cases h2 : decide ((i : Int) < 20)
  case true.true =>
    have hil : i < A.length := by have := of_decide_eq_true h1; omega
    have hi20 : i < 20 := by have := of_decide_eq_true h2; omega
    obtain ⟨x, hx⟩ : ∃ x, A[i]? = some x := ⟨_, List.getElem?_eq_getElem hil⟩
    repeat (first | refine W.ite_t h1 ?_ | refine W.ite_t h2 ?_ | refine W.ite_t rfl ?_ | refine W.ite_f rfl ?_)
    refine W.need (ix_ok acC_len (by decide) hil) ?_
    refine W.ld (acE3 hx) ?_
    refine W.pure (ok6 x.s 300) rfl rfl ?_
    have hs := cut_size x.s 300
    generalize cut x.s 300 = s at hs
    refine W.need (ix_ok acC_len (by decide) hil) ?_
    refine W.ld (acE1 hx) ?_
    cases k1 : (x.k == 1) with
    | true =>
      repeat (first | refine W.ite_t k1 ?_ | refine W.ite_t rfl ?_ | refine W.ite_f rfl ?_)
      have kP := ok7 l hok s
      have kR := ok8 l hok s
      have hB2 := hB.push s
      have hc := push_cases l s
      generalize push l s = P at *
      obtain ⟨c, l2⟩ := P
      rcases hc with hc | hc | hc <;> simp only [Prod.mk.injEq] at hc <;> obtain ⟨rfl, hl⟩ := hc
      all_goals
        refine W.lk 0 [.var (lkC l2), .var (lkC l)] (r := [sD s]) kP rfl rfl rfl rfl ?_
        refine W.pure kR rfl rfl ?_
        refine W.ret ⟨_, _, _, ?_, Trim.of [0, 1, 5, 6, 7] [0, 1] (by decide) (by simp) (tr2' rfl), i + 1, l2, ?_, ?_, hB2, by omega, rfl⟩
        · omega
        · rw [← wrapS' (by omega)]; rfl
        · rfl
    | false =>
    cases k2 : (x.k == 2) with
    | true =>
      repeat (first | refine W.ite_f k1 ?_ | refine W.ite_t k2 ?_ | refine W.ite_t rfl ?_ | refine W.ite_f rfl ?_)
      refine W.lk 0 [.var (lkC { l with o := false }), .var (lkC l)] (packetsOk l hok rfl) rfl rfl rfl rfl ?_
      refine W.pure (ok11 l hok) rfl rfl ?_
      refine W.ret ⟨_, _, _, ?_, Trim.of [0, 1, 5, 6, 7] [0, 1] (by decide) (by simp) (tr2' rfl), i + 1, { l with o := false }, ?_, ?_, hB.quiet, by omega, rfl⟩
      · omega
      · rw [← wrapS' (by omega)]; rfl
      · rfl
    | false =>
    cases k4 : (x.k == 4) with
    | true =>
      repeat (first | refine W.ite_f k1 ?_ | refine W.ite_f k2 ?_ | refine W.ite_t k4 ?_ | refine W.ite_t rfl ?_ | refine W.ite_f rfl ?_)
      refine W.lk 0 [.var (lkC (takeL l s).2), .var (lkC l)] (r := [sD s]) (ok13 l hok s (by omega)) rfl rfl rfl rfl ?_
      refine W.pure (ok14 l hok s (by omega)) rfl rfl ?_
      refine W.ret ⟨_, _, _, ?_, Trim.of [0, 1, 5, 6, 7] [0, 1] (by decide) (by simp) (tr2' rfl), i + 1, (takeL l s).2, ?_, ?_, hB.take s, by omega, rfl⟩
      · omega
      · rw [← wrapS' (by omega)]; rfl
      · rfl
    | false =>
      repeat (first | refine W.ite_f k1 ?_ | refine W.ite_f k2 ?_ | refine W.ite_f k4 ?_ | refine W.ite_t rfl ?_ | refine W.ite_f rfl ?_)
      refine W.ret ⟨_, _, _, ?_, Trim.of [0, 1, 5, 6, 7] [0, 1] (by decide) (by simp) (tr2' rfl), i + 1, l, ?_, ?_, hB.next, by omega, rfl⟩
      · omega
      · rw [← wrapS' (by omega)]; rfl
      · rfl
  all_goals
    repeat (first | refine W.ite_t h1 ?_ | refine W.ite_t h2 ?_ | refine W.ite_f h1 ?_ | refine W.ite_f h2 ?_ | refine W.ite_t rfl ?_ | refine W.ite_f rfl ?_)
    refine W.ret ?_
    have hB2 := hB.take p
    have hok2 := hB2.ok (by omega)
    have kO := okOfTake l p
    have kR := ok14 l hok p (by omega)
    have kT := ok13 l hok p (by omega)
    have hE := take_err l p
    generalize takeL l p = R at *
    generalize takeE p = E at *
    obtain ⟨⟨t, b, d⟩, l2⟩ := R
    dsimp only at hB2 hok2 kO kR kT hE
    have e1 : (t.toList == t.toList) = true := beq_self_eq_true _
    have e2 : (b == b) = true := bool_beq _
    have e3 : (E == E) = true := beq_self_eq_true _
    have hq : ((l2.q.length : Int) == 0) = decide (l2.q = []) := by
      cases hl : l2.q with
      | nil => rfl
      | cons a r => simp; omega
    have hid := ok17 l2
    rcases hE with rfl | rfl | ⟨e, rfl⟩
    all_goals
      refine W.lk 0 [.var (lkC l2), .var (lkC l)] (r := [sD p]) kT rfl rfl rfl rfl ?_
      refine W.pure kR rfl rfl ?_
      refine W.pure ok5 rfl rfl ?_
      repeat (first | refine W.ite_t e1 ?_ | refine W.ite_t e2 ?_ | refine W.ite_t rfl ?_ | refine W.ite_f rfl ?_)
      refine W.pure kO rfl rfl ?_
      repeat (first | refine W.ite_t e1 ?_ | refine W.ite_t e2 ?_ | refine W.ite_t e3 ?_ | refine W.ite_t rfl ?_ | refine W.ite_f rfl ?_)
      refine W.pure (ok16 l2) rfl rfl ?_
      repeat (first | refine W.ite_t e1 ?_ | refine W.ite_t e2 ?_ | refine W.ite_t e3 ?_ | refine W.ite_t rfl ?_ | refine W.ite_f rfl ?_)
      refine W.pure (ok15 l2 hok2) rfl rfl ?_
      repeat (first | refine W.ite_t e1 ?_ | refine W.ite_t e2 ?_ | refine W.ite_t e3 ?_ | refine W.ite_t rfl ?_ | refine W.ite_f rfl ?_)
      cases hz : ((l2.q.length : Int) == 0) with
      | true =>
        rw [← hq, hz] at hid
        refine W.lk 0 [.var (lkC l2), .var (lkC l), .var (lkC l2)] (r := []) hid rfl rfl rfl rfl ?_
        repeat (first | refine W.ite_t hz ?_ | refine W.ite_t e1 ?_ | refine W.ite_t e2 ?_ | refine W.ite_t e3 ?_ | refine W.ite_t rfl ?_ | refine W.ite_f rfl ?_)
        exact W.ret (RetQ.pure rfl (ret_bI (by cases l2.o <;> rfl)))
      | false =>
        rw [← hq, hz] at hid
        refine W.lk 0 [.var (lkC l2), .var (lkC l), .var (lkC l2)] (r := []) hid rfl rfl rfl rfl ?_
        repeat (first | refine W.ite_f hz ?_ | refine W.ite_t e1 ?_ | refine W.ite_t e2 ?_ | refine W.ite_t e3 ?_ | refine W.ite_t rfl ?_ | refine W.ite_f rfl ?_)
        exact W.ret (RetQ.pure rfl (ret_bI (by cases l2.o <;> rfl)))
end Go.Proofs.YtpemfjnjkjckoaaDoor.Lk
