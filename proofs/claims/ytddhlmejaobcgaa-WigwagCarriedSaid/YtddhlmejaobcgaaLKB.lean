import Derived.Test.YtddhlmejaobcgaaLP
set_option maxRecDepth 100000
set_option linter.unusedVariables false
set_option linter.unusedSimpArgs false
/- A link that is one of a pair (B). -/
namespace Go.Proofs.Ytddhlmejaobcgaa.Lk
open Go Go.Am Co
abbrev prB (l m : Lk) : Store := [.var (lkC m ++ lkC l)]
theorem prB_one (l m : Lk) : ∀ i, i < (prB l m).length → [0][i]? = some i := fun i hi => by
  have : i = 0 := by simp at hi; omega
  subst this; rfl
set_option maxHeartbeats 4000000 in
theorem okB15 (l mm : Lk) (h : l.ok) (s : ByteArray) : CallOk Try.prog 15 [.ptr 0 4, .d (sD s)] (prB l mm) (fun v σ => v = .d (errC (push l s).1) ∧ σ = prB (push l s).2 mm) := by
  refine CallOk.of tysOk mixed od15 Try.func15 rfl rfl code15 ?_
  have hq := h.q
  unfold push
  refine W.ite (fun c1 => ?_) (fun c1 => ?_)
  · rw [if_pos (by have := of_decide_eq_true c1; omega)]
    refine W.pure (ok38 1) rfl rfl ?_
    exact W.ret (RetQ.all ⟨rfl, rfl⟩)
  rw [if_neg (by have := of_decide_eq_false c1; omega)]
  refine W.ite (fun c2 => ?_) (fun c2 => ?_)
  · rw [if_pos (by have := of_decide_eq_true c2; omega)]
    refine W.pure (ok38 4) rfl rfl ?_
    exact W.ret (RetQ.all ⟨rfl, rfl⟩)
  have h2 := of_decide_eq_false c2
  rw [if_neg (by omega)]
  refine W.callT [] (ok39v l.q (by omega)) (by decide) rfl rfl rfl rfl ?_
  rintro v σ (⟨h0, rfl, rfl⟩ | ⟨rfl, rfl⟩)
  · obtain ⟨q, a, c, o⟩ := l
    obtain rfl : q = [] := h0
    refine W.alt_l ?_
    refine W.need ⟨rfl, by decide, by decide, by intro c hc; obtain rfl := List.mem_singleton.1 hc; rfl⟩ ?_
    refine W.ret (RetQ.part [0] (by decide) (by simp) (prB_one _ mm) ⟨rfl, rfl⟩)
  · refine W.alt_l ?_
    refine W.need ⟨rfl, rfl, rfl, by omega, by omega, by intro c hc; obtain rfl := List.mem_singleton.1 hc; rfl⟩ ?_
    refine W.ret (RetQ.part [0] (by decide) (by simp) (prB_one l mm) ⟨rfl, ?_⟩)
    show [Blk.var (lkC mm ++ [.d (.sl (l.q.length + 1) ((flat sC l.q ++ [sD s]).take ((l.q.length + 1) * 1))), _, _, _])] = _
    rw [show flat sC l.q ++ [sD s] = flat sC (l.q ++ [s]) from by rw [flat_append]; rfl, show l.q.length + 1 = (l.q ++ [s]).length from by simp, flat_all sC_len]
    rfl
set_option maxHeartbeats 8000000 in
theorem okB35 (l mm : Lk) (h : l.ok) : CallOk Try.prog 35 [.ptr 0 4] (prB l mm) (fun v σ => v = slS (packets l) ∧ σ = prB { l with o := false } mm) := by
  refine CallOk.soft (R := fun v σ => v = slS (packets l) ∧ σ = prB { l with o := false } mm) ?_
  refine CallOk.of tysOk mixed od35 Try.func35 rfl rfl code35 ?_
  have hq := h.q
  have ha := h.a
  have hc := h.c
  obtain ⟨m, hm⟩ : ∃ m : Nat, (if (8 : Int) < (l.q.length : Int) then (8 : Int) else (l.q.length : Int)) = (m : Int) := by
    split
    · exact ⟨8, rfl⟩
    · exact ⟨l.q.length, rfl⟩
  have hm8 : m = (l.q.take 8).length := by
    simp only [List.length_take]
    split at hm <;> omega
  refine W.loop (fun k fr σ => ∃ i : Nat, fr = [(0, .ptr 0 4), (10, .d (nI m)), (11, .d (nI i)), (3, .vec 1 i)] ∧ σ = [.var (lkC mm ++ lkC l), .vec 1 i (flat sC (pks l.c l.a (l.q.take i)))] ∧ i ≤ m ∧ k = m - i) m
    (Start.of [0, 10, 11] [(3, 1)] (by intro p hp; obtain rfl := List.mem_singleton.1 hp; rfl)) ⟨0, ?_, rfl, by omega, rfl⟩ ?_
  · show [(0, AV.ptr 0 4), (10, AV.d (.lit (.int .i64 (if (8 : Int) < (l.q.length : Int) then (8 : Int) else (l.q.length : Int))))), (11, AV.d (nI 0)), (3, AV.vec 1 0)] = _
    rw [hm]; rfl
  rintro k fr σ ⟨i, rfl, rfl, hi, rfl⟩
  refine W.ite (fun c1 => ?_) (fun c1 => ?_)
  · have hil : i < m := by have := of_decide_eq_true c1; omega
    have hiq : i < l.q.length := by have : m ≤ l.q.length := (by rw [hm8]; simp; omega); omega
    obtain ⟨s, hs⟩ : ∃ s, l.q[i]? = some s := ⟨_, List.getElem?_eq_getElem hiq⟩
    have hso := h.s s (List.mem_of_getElem? hs)
    have hl8 : m ≤ 8 := by rw [hm8]; simp; omega
    have kp := ok58 (IntKind.i64.wrap ((l.a : Int) + (i : Int))) l.c s (by rw [wrap64 (by omega) (by omega)]; omega) (by omega) (by omega)
    have wa : IntKind.i64.wrap ((l.a : Int) + (i : Int)) = ((l.a + i : Nat) : Int) := by rw [wrap64 (by omega) (by omega)]; omega
    have wi : IntKind.i64.wrap ((i : Int) + 1) = ((i + 1 : Nat) : Int) := by rw [wrap64 (by omega) (by omega)]; omega
    refine W.need (ix_ok sC_len (by decide) hiq) ?_
    refine W.ld (sE hs) ?_
    refine W.pure kp rfl rfl ?_
    refine W.alt_l ?_
    refine W.need ⟨rfl, rfl, rfl, by omega, by omega, by intro c hc; obtain rfl := List.mem_singleton.1 hc; rfl⟩ ?_
    refine W.ret ⟨_, _, _, ?_, Trim.of [0, 10, 11, 3] [0, 1] (by decide) (by simp) (by intro j hj; have : j = 0 := (by simp at hj; omega); subst this; rfl), i + 1, ?_, ?_, by omega, rfl⟩
    · omega
    · show [(0, AV.ptr 0 4), (10, AV.d (nI m)), (11, AV.d (.lit (.int .i64 (IntKind.i64.wrap ((i : Int) + 1))))), (3, AV.vec 1 (i + 1))] = _
      rw [wi]
    · show [Blk.var (lkC mm ++ lkC l), .vec 1 (i + 1) (flat sC (pks l.c l.a (l.q.take i)) ++ [sD (pk (IntKind.i64.wrap ((l.a : Int) + (i : Int))) l.c s)])] = _
      rw [take_next hs, pks_snoc, flat_append, wa, show (l.q.take i).length = i from by simp; omega]
      rfl
  · have him : i = m := by have := of_decide_eq_false c1; omega
    subst him
    refine W.ret ?_
    have hpl : (pks l.c l.a (l.q.take i)).length = i := by rw [pks_len, List.length_take]; have : (l.q.take 8).length ≤ l.q.length := (by simp; omega); omega
    cases hz : ((i : Int) == 0) with
    | true =>
      have hi0 : i = 0 := by simpa using hz
      subst hi0
      have hqe : l.q = [] := by
        have : (l.q.take 8).length = 0 := hm8.symm
        simp only [List.length_take] at this
        exact List.eq_nil_of_length_eq_zero (by omega)
      have hpe : packets l = if l.o then [pk (-1) l.c mt] else [] := by unfold packets; rw [hqe]
      cases ho : l.o with
      | true =>
        rw [ho] at hpe
        repeat (first | refine W.ite_t rfl ?_ | refine W.ite_f rfl ?_ | refine W.ite_t hz ?_ | refine W.ite_t ho ?_)
        refine W.pure (ok58 (-1) l.c mt (by decide) (by omega) (by decide)) rfl rfl ?_
        refine W.alt_l ?_
        refine W.need ⟨rfl, rfl, rfl, by decide, by decide, by intro c hc; obtain rfl := List.mem_singleton.1 hc; rfl⟩ ?_
        refine W.ret (RetQ.part [0] (by decide) (by simp) (prB_one l mm) ⟨?_, rfl⟩)
        rw [hpe, hqe]
        rfl
      | false =>
        rw [ho] at hpe
        repeat (first | refine W.ite_t rfl ?_ | refine W.ite_f rfl ?_ | refine W.ite_t hz ?_ | refine W.ite_f ho ?_)
        refine W.ret (RetQ.part [0] (by decide) (by simp) (prB_one l mm) ⟨?_, rfl⟩)
        rw [hpe]
        rfl
    | false =>
      have hi0 : i ≠ 0 := by simpa using hz
      repeat (first | refine W.ite_t rfl ?_ | refine W.ite_f rfl ?_ | refine W.ite_f hz ?_)
      refine W.ret (RetQ.part [0] (by decide) (by simp) (prB_one l mm) ⟨?_, rfl⟩)
      have hqt : l.q.take i = l.q.take 8 := by
        rw [List.length_take] at hm8
        by_cases h8 : 8 ≤ l.q.length
        · rw [show i = 8 from by omega]
        · rw [List.take_of_length_le (by omega), List.take_of_length_le (by omega)]
      have hpe : packets l = pks l.c l.a (l.q.take i) := by
        unfold packets
        rw [hqt]
        split
        · rename_i hqe
          rw [hqe] at hm8
          exact absurd hm8 hi0
        · rfl
      rw [hpe]
      show AV.d (.sl i ((flat sC (pks l.c l.a (l.q.take i))).take (i * 1))) = .d (.sl (pks l.c l.a (l.q.take i)).length (flat sC (pks l.c l.a (l.q.take i))))
      have := flat_all sC_len (pks l.c l.a (l.q.take i))
      rw [hpl] at this ⊢
      rw [this]
set_option maxHeartbeats 16000000 in
theorem okB37 (l mm : Lk) (h : l.ok) (p : ByteArray) (hp : p.size ≤ 1000000) : CallOk Try.prog 37 [.ptr 0 4, .d (sD p)] (prB l mm) (fun v σ => v = tkA (takeL l p).1 ∧ σ = prB (takeL l p).2 mm) := by
  refine CallOk.of tysOk mixed od37 Try.func37 rfl rfl code37 ?_
  have hq := h.q
  have ha := h.a
  have hc := h.c
  unfold takeL rdP
  refine W.callF [] [.var (lkC mm ++ lkC l), .var [.d (sD p), .d (nI 0), .d (.lit .nilIface)]] (x2 := .ptr 1 0) (ok19 p) (by decide) rfl rfl rfl rfl rfl rfl ?_
  have k1 := ok59 p 0 none (by omega)
  have r1 := readI_le (s := p) (a := 0) (e := none) (by omega)
  have q1 := unzz_range (readN_lt p 0 none)
  have q1 : -9223372036854775808 ≤ (readI p 0 none).1 ∧ (readI p 0 none).1 < 9223372036854775808 := q1
  generalize readI p 0 none = N at *
  obtain ⟨n, a1, e1⟩ := N
  refine W.callF [1] [.var (lkC mm ++ lkC l), .var [.d (sD p), .d (nI a1), .d (errD e1)]] (x2 := .d (nI n)) k1 (by decide) rfl rfl rfl rfl rfl rfl ?_
  have k2 := ok59 p a1 e1 (by omega)
  have r2 := readI_le (s := p) (a := a1) (e := e1) r1
  have q2 := unzz_range (readN_lt p a1 e1)
  have q2 : -9223372036854775808 ≤ (readI p a1 e1).1 ∧ (readI p a1 e1).1 < 9223372036854775808 := q2
  dsimp only
  generalize readI p a1 e1 = C at *
  obtain ⟨c, a2, e2⟩ := C
  refine W.callF [1] [.var (lkC mm ++ lkC l), .var [.d (sD p), .d (nI a2), .d (errD e2)]] (x2 := .d (nI c)) k2 (by decide) rfl rfl rfl rfl rfl rfl ?_
  have k3 := ok60 p a2 e2 2000 (by decide) r2 (by omega)
  dsimp only
  generalize readT p a2 e2 2000 = S at *
  obtain ⟨s, a3, e3⟩ := S
  refine W.callF [1] [.var (lkC mm ++ lkC l), .var [.d (sD p), .d (nI a3), .d (errD e3)]] (x2 := .d (sD s)) k3 (by decide) rfl rfl rfl rfl rfl rfl ?_
  have k4 := ok22 p a3 e3
  dsimp only
  generalize doneE p a3 e3 = E at *
  refine W.callF [1] [.var (lkC mm ++ lkC l), .var [.d (sD p), .d (nI a3), .d (errD E)]] (x2 := .d (errD E)) k4 (by decide) rfl rfl rfl rfl rfl rfl ?_
  cases E with
  | some e =>
    repeat (first | refine W.ite_t rfl ?_ | refine W.ite_f rfl ?_)
    exact W.ret (RetQ.part [0] (by decide) (by simp) (prB_one l mm) ⟨rfl, rfl⟩)
  | none =>
    repeat (first | refine W.ite_t rfl ?_ | refine W.ite_f rfl ?_)
    dsimp only at q1 q2 ⊢
    unfold takeV
    have bad : n < -1 ∨ c < 0 ∨ (n < 0 ∧ isE s = false) → ∀ {B : (ByteArray × Bool × D) × Lk}, RetQ (prB l mm).length (fun v σ => v = tkA (if n < -1 ∨ c < 0 ∨ (n < 0 ∧ isE s = false) then ((mt, false, ftD linkW 0 11), l) else B).1 ∧ σ = prB (if n < -1 ∨ c < 0 ∨ (n < 0 ∧ isE s = false) then ((mt, false, ftD linkW 0 11), l) else B).2 mm) .ret [(0, tkA (mt, false, ftD linkW 0 11))] [.var (lkC mm ++ lkC l), .var [.d (sD p), .d (nI a3), .d (.lit .nilIface)]] := fun hb {B} => by
      rw [if_pos hb]
      exact RetQ.part [0] (by decide) (by simp) (prB_one l mm) ⟨rfl, rfl⟩
    cases h1 : decide (n < -1) with
    | true =>
      repeat (first | refine W.ite_t h1 ?_ | refine W.ite_t rfl ?_ | refine W.ite_f rfl ?_)
      refine W.pure (ok38 11) rfl rfl ?_
      exact W.ret (bad (.inl (of_decide_eq_true h1)))
    | false =>
    cases h2 : decide (c < 0) with
    | true =>
      repeat (first | refine W.ite_f h1 ?_ | refine W.ite_t h2 ?_ | refine W.ite_t rfl ?_ | refine W.ite_f rfl ?_)
      refine W.pure (ok38 11) rfl rfl ?_
      exact W.ret (bad (.inr (.inl (of_decide_eq_true h2))))
    | false =>
    have p1 := of_decide_eq_false h1
    have p2 := of_decide_eq_false h2
    have wd : IntKind.i64.wrap (c - (l.a : Int)) = c - l.a := wrap64 (by omega) (by omega)
    -- the queue behind what the peer says
    have kc : 0 < c - l.a → c - l.a ≤ l.q.length → Go.Am.Pure Try.prog 39 [.d (.sl (l.q.length - (IntKind.i64.wrap (c - (l.a : Int))).toNat) (((flat sC l.q).drop ((IntKind.i64.wrap (c - (l.a : Int))).toNat * 1)).take ((l.q.length - (IntKind.i64.wrap (c - (l.a : Int))).toNat) * 1)))] (slS (l.q.drop (c - l.a).toNat)) := fun g1 g2 => by
      have := ok39 (l.q.drop (c - l.a).toNat) (by simp; omega)
      rw [wd]
      have e : ((flat sC l.q).drop ((c - l.a).toNat * 1)).take ((l.q.length - (c - l.a).toNat) * 1) = flat sC (l.q.drop (c - l.a).toNat) := by
        rw [flat_drop sC_len, show l.q.length - (c - l.a).toNat = (l.q.drop (c - l.a).toNat).length from by simp, flat_all sC_len]
      rw [e, show l.q.length - (c - l.a).toNat = (l.q.drop (c - l.a).toNat).length from by simp]
      exact this
    cases h3 : decide (n < 0) with
    | true =>
      cases h4 : isE s with
      | false =>
        have h4' : (!(s.toList == mt.toList)) = true := by have : (s.toList == mt.toList) = false := h4; rw [this]; rfl
        repeat (first | refine W.ite_f h1 ?_ | refine W.ite_f h2 ?_ | refine W.ite_t h3 ?_ | refine W.ite_t h4' ?_ | refine W.ite_t rfl ?_ | refine W.ite_f rfl ?_)
        refine W.pure (ok38 11) rfl rfl ?_
        rw [if_pos (Or.inr (Or.inr ⟨of_decide_eq_true h3, rfl⟩))]
        exact W.ret (RetQ.part [0] (by decide) (by simp) (prB_one l mm) ⟨rfl, rfl⟩)
      | true =>
        have h4' : (!(s.toList == mt.toList)) = false := by have : (s.toList == mt.toList) = true := h4; rw [this]; rfl
        have p3 := of_decide_eq_true h3
        rw [if_neg (by simp; omega), if_pos p3]
        cases d1 : decide (IntKind.i64.wrap (c - (l.a : Int)) > 0) with
        | false =>
          have g1 := of_decide_eq_false d1
          rw [wd] at g1
          repeat (first | refine W.ite_f h1 ?_ | refine W.ite_f h2 ?_ | refine W.ite_t h3 ?_ | refine W.ite_f h4' ?_ | refine W.ite_f d1 ?_ | refine W.ite_t rfl ?_ | refine W.ite_f rfl ?_)
          have e : ack l c = l := if_neg (by omega)
          rw [e]
          exact W.ret (RetQ.part [0] (by decide) (by simp) (prB_one l mm) ⟨rfl, rfl⟩)
        | true =>
        have g1 := of_decide_eq_true d1
        rw [wd] at g1
        cases d2 : decide (IntKind.i64.wrap (c - (l.a : Int)) ≤ (l.q.length : Int)) with
        | false =>
          have g2 := of_decide_eq_false d2
          rw [wd] at g2
          repeat (first | refine W.ite_f h1 ?_ | refine W.ite_f h2 ?_ | refine W.ite_t h3 ?_ | refine W.ite_f h4' ?_ | refine W.ite_t d1 ?_ | refine W.ite_f d2 ?_ | refine W.ite_t rfl ?_ | refine W.ite_f rfl ?_)
          have e : ack l c = l := if_neg (by omega)
          rw [e]
          exact W.ret (RetQ.part [0] (by decide) (by simp) (prB_one l mm) ⟨rfl, rfl⟩)
        | true =>
          have g2 := of_decide_eq_true d2
          rw [wd] at g2
          repeat (first | refine W.ite_f h1 ?_ | refine W.ite_f h2 ?_ | refine W.ite_t h3 ?_ | refine W.ite_f h4' ?_ | refine W.ite_t d1 ?_ | refine W.ite_t d2 ?_ | refine W.ite_t rfl ?_ | refine W.ite_f rfl ?_)
          refine W.need (by rw [wd]; omega) ?_
          refine W.pure (kc g1 g2) rfl rfl ?_
          repeat (first | refine W.ite_f h1 ?_ | refine W.ite_f h2 ?_ | refine W.ite_t h3 ?_ | refine W.ite_t rfl ?_ | refine W.ite_f rfl ?_)
          have e : ack l c = { l with q := l.q.drop (c - l.a).toNat, a := c.toNat } := if_pos (by omega)
          rw [e]
          refine W.ret (RetQ.part [0] (by decide) (by simp) (prB_one l mm) ⟨rfl, ?_⟩)
          show [Blk.var (lkC mm ++ [_, AV.d (nI c), _, _])] = [Blk.var (lkC mm ++ [_, AV.d (nI (c.toNat : Nat)), _, _])]
          rw [Int.toNat_of_nonneg (by omega)]
          rfl
    | false =>
      have p3 := of_decide_eq_false h3
      have e0 := ack_c l c
      rw [if_neg (by omega), if_neg p3]
      have wc : IntKind.i64.wrap ((l.c : Int) + 1) = ((l.c + 1 : Nat) : Int) := by rw [wrap64 (by omega) (by omega)]; omega
      cases h5 : (n != (l.c : Int)) with
      | true =>
        have p5 : n ≠ l.c := by simpa using h5
        rw [if_pos p5]
        cases d1 : decide (IntKind.i64.wrap (c - (l.a : Int)) > 0) with
        | false =>
          have g1 := of_decide_eq_false d1
          rw [wd] at g1
          repeat (first | refine W.ite_f h1 ?_ | refine W.ite_f h2 ?_ | refine W.ite_f h3 ?_ | refine W.ite_t h5 ?_ | refine W.ite_f d1 ?_ | refine W.ite_t rfl ?_ | refine W.ite_f rfl ?_)
          have e : ack l c = l := if_neg (by omega)
          rw [e]
          exact W.ret (RetQ.part [0] (by decide) (by simp) (prB_one l mm) ⟨rfl, rfl⟩)
        | true =>
        have g1 := of_decide_eq_true d1
        rw [wd] at g1
        cases d2 : decide (IntKind.i64.wrap (c - (l.a : Int)) ≤ (l.q.length : Int)) with
        | false =>
          have g2 := of_decide_eq_false d2
          rw [wd] at g2
          repeat (first | refine W.ite_f h1 ?_ | refine W.ite_f h2 ?_ | refine W.ite_f h3 ?_ | refine W.ite_t h5 ?_ | refine W.ite_t d1 ?_ | refine W.ite_f d2 ?_ | refine W.ite_t rfl ?_ | refine W.ite_f rfl ?_)
          have e : ack l c = l := if_neg (by omega)
          rw [e]
          exact W.ret (RetQ.part [0] (by decide) (by simp) (prB_one l mm) ⟨rfl, rfl⟩)
        | true =>
          have g2 := of_decide_eq_true d2
          rw [wd] at g2
          repeat (first | refine W.ite_f h1 ?_ | refine W.ite_f h2 ?_ | refine W.ite_f h3 ?_ | refine W.ite_t d1 ?_ | refine W.ite_t d2 ?_ | refine W.ite_t rfl ?_ | refine W.ite_f rfl ?_)
          refine W.need (by rw [wd]; omega) ?_
          refine W.pure (kc g1 g2) rfl rfl ?_
          repeat (first | refine W.ite_f h3 ?_ | refine W.ite_t h5 ?_ | refine W.ite_t rfl ?_ | refine W.ite_f rfl ?_)
          have e : ack l c = { l with q := l.q.drop (c - l.a).toNat, a := c.toNat } := if_pos (by omega)
          rw [e]
          refine W.ret (RetQ.part [0] (by decide) (by simp) (prB_one l mm) ⟨rfl, ?_⟩)
          show [Blk.var (lkC mm ++ [_, AV.d (nI c), _, _])] = [Blk.var (lkC mm ++ [_, AV.d (nI (c.toNat : Nat)), _, _])]
          rw [Int.toNat_of_nonneg (by omega)]
          rfl
      | false =>
        have p5 : n = l.c := by simpa using h5
        rw [if_neg (by omega)]
        cases d1 : decide (IntKind.i64.wrap (c - (l.a : Int)) > 0) with
        | false =>
          have g1 := of_decide_eq_false d1
          rw [wd] at g1
          repeat (first | refine W.ite_f h1 ?_ | refine W.ite_f h2 ?_ | refine W.ite_f h3 ?_ | refine W.ite_f h5 ?_ | refine W.ite_f d1 ?_ | refine W.ite_t rfl ?_ | refine W.ite_f rfl ?_)
          have e : ack l c = l := if_neg (by omega)
          rw [e]
          refine W.ret (RetQ.part [0] (by decide) (by simp) (prB_one l mm) ⟨rfl, ?_⟩)
          show [Blk.var (lkC mm ++ [_, _, AV.d (nI (IntKind.i64.wrap ((l.c : Int) + 1))), _])] = _
          rw [wc]
          rfl
        | true =>
        have g1 := of_decide_eq_true d1
        rw [wd] at g1
        cases d2 : decide (IntKind.i64.wrap (c - (l.a : Int)) ≤ (l.q.length : Int)) with
        | false =>
          have g2 := of_decide_eq_false d2
          rw [wd] at g2
          repeat (first | refine W.ite_f h1 ?_ | refine W.ite_f h2 ?_ | refine W.ite_f h3 ?_ | refine W.ite_f h5 ?_ | refine W.ite_t d1 ?_ | refine W.ite_f d2 ?_ | refine W.ite_t rfl ?_ | refine W.ite_f rfl ?_)
          have e : ack l c = l := if_neg (by omega)
          rw [e]
          refine W.ret (RetQ.part [0] (by decide) (by simp) (prB_one l mm) ⟨rfl, ?_⟩)
          show [Blk.var (lkC mm ++ [_, _, AV.d (nI (IntKind.i64.wrap ((l.c : Int) + 1))), _])] = _
          rw [wc]
          rfl
        | true =>
          have g2 := of_decide_eq_true d2
          rw [wd] at g2
          repeat (first | refine W.ite_f h1 ?_ | refine W.ite_f h2 ?_ | refine W.ite_f h3 ?_ | refine W.ite_t d1 ?_ | refine W.ite_t d2 ?_ | refine W.ite_t rfl ?_ | refine W.ite_f rfl ?_)
          refine W.need (by rw [wd]; omega) ?_
          refine W.pure (kc g1 g2) rfl rfl ?_
          repeat (first | refine W.ite_f h3 ?_ | refine W.ite_f h5 ?_ | refine W.ite_t rfl ?_ | refine W.ite_f rfl ?_)
          have e : ack l c = { l with q := l.q.drop (c - l.a).toNat, a := c.toNat } := if_pos (by omega)
          rw [e]
          refine W.ret (RetQ.part [0] (by decide) (by simp) (prB_one l mm) ⟨rfl, ?_⟩)
          show [Blk.var (lkC mm ++ [_, AV.d (nI c), AV.d (nI (IntKind.i64.wrap ((l.c : Int) + 1))), _])] = [Blk.var (lkC mm ++ [_, AV.d (nI (c.toNat : Nat)), _, _])]
          rw [Int.toNat_of_nonneg (by omega), wc]
          rfl
end Go.Proofs.Ytddhlmejaobcgaa.Lk
