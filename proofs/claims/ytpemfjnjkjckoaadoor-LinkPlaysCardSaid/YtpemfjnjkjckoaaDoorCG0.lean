import Derived.Test.YtpemfjnjkjckoaaDoorCF0
set_option maxRecDepth 100000
set_option linter.unusedVariables false
set_option linter.unusedSimpArgs false
namespace Go.Proofs.YtpemfjnjkjckoaaDoor.Co
open Go Go.Am
theorem ok27 (s : ByteArray) (a : Nat) (e : Err) (he : okE e) (hs : s.size ≤ 9223372036854775807) :
    Go.Am.Pure Tryd.prog 27 [.d (.agg (curC s a e))] (.tuple [.d (.agg (curC s (readI s a e).2.1 (readI s a e).2.2)), .d (nI (readI s a e).1)]) := by
  refine CallOk.of tysOk mixed od27 Tryd.func27 rfl rfl code27 ?_
  refine W.pure (ok42 s a e he hs) rfl rfl ?_
  have hlt := readN_lt s a e
  unfold readI
  generalize readN s a e = N at *
  obtain ⟨n, a', e'⟩ := N
  simp only at hlt
  have e1 : IntKind.i64.wrap (IntKind.u64.wrap ((n : Int).tdiv 2)) = ((n / 2 : Nat) : Int) := by
    rw [show ((n : Int).tdiv 2) = ((n / 2 : Nat) : Int) from rfl, wrapNat (by omega), wrap64 (by omega) (by omega)]
  have e2 : IntKind.i64.wrap (IntKind.i64.wrap (0 - IntKind.i64.wrap (IntKind.u64.wrap ((n : Int).tdiv 2))) - 1) = -((n / 2 : Nat) : Int) - 1 := by
    rw [e1, wrap64 (n := 0 - _) (by omega) (by omega), wrap64 (by omega) (by omega)]; omega
  refine W.need (by decide) ?_
  cases c : (((n : Int).tmod 2) == 0) with
  | true =>
    have hc : n % 2 = 0 := by
      have : ((n : Int).tmod 2) = ((n % 2 : Nat) : Int) := rfl
      rw [this] at c
      have := eq_of_beq c
      omega
    refine W.ite_t c ?_
    refine W.need (by decide) ?_
    refine W.ret (RetQ.pure rfl ?_)
    show AV.tuple [_, .d (.lit (.int .i64 (IntKind.i64.wrap (IntKind.u64.wrap ((n : Int).tdiv 2)))))] = .tuple [_, .d (.lit (.int .i64 (unzz n)))]
    rw [e1]
    unfold unzz
    rw [if_pos hc]
    rfl
  | false =>
    have hc : ¬ n % 2 = 0 := by
      have : ((n : Int).tmod 2) = ((n % 2 : Nat) : Int) := rfl
      rw [this, beq_eq_false_iff_ne] at c
      omega
    refine W.ite_f c ?_
    refine W.need (by decide) ?_
    refine W.ret (RetQ.pure rfl ?_)
    show AV.tuple [_, .d (.lit (.int .i64 (IntKind.i64.wrap (IntKind.i64.wrap (0 - IntKind.i64.wrap (IntKind.u64.wrap ((n : Int).tdiv 2))) - 1))))] = .tuple [_, .d (.lit (.int .i64 (unzz n)))]
    rw [e2]
    unfold unzz
    rw [if_neg hc]
    rfl
theorem readI_okE {s : ByteArray} {a : Nat} {e : Err} (he : okE e) : okE (readI s a e).2.2 := readN_okE he
theorem readT_le {s : ByteArray} {a : Nat} {e : Err} {most : Int} (h : a ≤ s.size) : (readT s a e most).2.1 ≤ s.size := by
  have := readN_le s a e h
  unfold readT
  generalize readN s a e = N at *
  obtain ⟨n, a', e'⟩ := N
  cases e' with
  | some x => exact this
  | none =>
    simp only at this ⊢
    generalize (if 0 > most then 0 else most) = M
    by_cases h1 : (n : Int) > M
    · rw [if_pos h1]; exact h
    · rw [if_neg h1]
      by_cases h2 : n > s.size - a'
      · rw [if_pos h2]; exact this
      · rw [if_neg h2]
        show a' + n ≤ s.size; omega
set_option maxHeartbeats 4000000 in
theorem ok29 (s : ByteArray) (a : Nat) (e : Err) (most : Int) (he : okE e) (h1 : -9223372036854775808 ≤ most) (h2 : most < 9223372036854775808) (ha : a ≤ s.size) (hs : s.size ≤ 4611686018427387904) :
    Go.Am.Pure Tryd.prog 29 [.d (.agg (curC s a e)), .d (nI most)] (.tuple [.d (.agg (curC s (readT s a e most).2.1 (readT s a e most).2.2)), .d (sD (readT s a e most).1)]) := by
  refine CallOk.of tysOk mixed od29 Tryd.func29 rfl rfl code29 ?_
  refine W.pure (ok42 s a e he (by omega)) rfl rfl ?_
  have hlt := readN_lt s a e
  have hle := readN_le s a e ha
  have hE := readN_okE (s := s) (a := a) he
  unfold readT
  generalize readN s a e = N at *
  obtain ⟨n, a', e'⟩ := N
  simp only at hlt hle
  cases e' with
  | some x =>
    have h0 : (x.2 != 0) = true := by have : x.2 ≠ 0 := hE; simpa using this
    refine W.ite_t h0 ?_
    exact W.ret (RetQ.pure rfl rfl)
  | none =>
    refine W.ite_f rfl ?_
    have hsub : IntKind.u64.wrap (IntKind.i64.wrap ((s.size : Int) - (a' : Int))) = ((s.size - a' : Nat) : Int) := by
      rw [wrap64 (by omega) (by omega), wrapU (by omega) (by omega)]; omega
    have bad : (n : Int) > (if 0 > most then 0 else most) → ∀ {σ : Store}, RetQ ([] : Store).length (fun v s' => v = AV.tuple [.d (.agg (curC s (if (n : Int) > (if 0 > most then 0 else most) then ((⟨#[]⟩ : ByteArray), a, (some (a, 1) : Err)) else if n > s.size - a' then (⟨#[]⟩, a', some (a', 10)) else (s.extract a' (a' + n), a' + n, none)).2.1 (if (n : Int) > (if 0 > most then 0 else most) then ((⟨#[]⟩ : ByteArray), a, (some (a, 1) : Err)) else if n > s.size - a' then (⟨#[]⟩, a', some (a', 10)) else (s.extract a' (a' + n), a' + n, none)).2.2)), .d (sD (if (n : Int) > (if 0 > most then 0 else most) then ((⟨#[]⟩ : ByteArray), a, (some (a, 1) : Err)) else if n > s.size - a' then (⟨#[]⟩, a', some (a', 10)) else (s.extract a' (a' + n), a' + n, none)).1)] ∧ s' = []) .ret [(0, mkRet [.d (.agg [sD s, nI a, nI 1]), .d (sD ⟨#[]⟩)])] σ := fun h σ => by
      rw [if_pos h]
      exact RetQ.pure rfl rfl
    have good : ¬ (n : Int) > (if 0 > most then 0 else most) → True := fun _ => True.intro
    cases c1 : decide (most < 0) with
    | true =>
      have p1 := of_decide_eq_true c1
      cases c2 : decide ((n : Int) > 0) with
      | true =>
        have p2 := of_decide_eq_true c2
        have c3 : decide (most ≥ 0) = false := decide_eq_false (by omega)
        repeat (first | refine W.ite_t c1 ?_ | refine W.ite_t c2 ?_ | refine W.ite_f c3 ?_ | refine W.ite_t rfl ?_ | refine W.ite_f rfl ?_)
        exact W.ret (bad (by rw [if_pos (by omega)]; omega))
      | false =>
        have p2 := of_decide_eq_false c2
        have c3 : decide (most ≥ 0) = false := decide_eq_false (by omega)
        have hn0 : n = 0 := by omega
        subst hn0
        have c4 : decide (((0 : Nat) : Int) > IntKind.u64.wrap (IntKind.i64.wrap ((s.size : Int) - (a' : Int)))) = false := decide_eq_false (by rw [hsub]; omega)
        have w0 : IntKind.i64.wrap ((0 : Nat) : Int) = ((0 : Nat) : Int) := wrap64 (by omega) (by omega)
        have w1 : IntKind.i64.wrap ((a' : Int) + IntKind.i64.wrap ((0 : Nat) : Int)) = ((a' + 0 : Nat) : Int) := by rw [w0, wrap64 (by omega) (by omega)]; omega
        repeat (first | refine W.ite_t c1 ?_ | refine W.ite_f c2 ?_ | refine W.ite_f c3 ?_ | refine W.ite_t rfl ?_ | refine W.ite_f rfl ?_ | refine W.ite_f c4 ?_)
        refine W.need (by rw [w1]; omega) ?_
        refine W.need (by show 0 ≤ (a' : Int) ∧ (a' : Int) ≤ (((IntKind.i64.wrap ((a' : Int) + IntKind.i64.wrap ((0 : Nat) : Int))).toNat : Nat) : Int); rw [w1]; omega) ?_
        refine W.ret (RetQ.pure rfl ?_)
        dsimp only
        rw [if_neg (by rw [if_pos (by omega)]; omega), if_neg (by omega)]
        show AV.tuple [.d (.agg [_, .lit (.int .i64 (IntKind.i64.wrap ((a' : Int) + IntKind.i64.wrap ((0 : Nat) : Int)))), _]), .d (.lit (.string (s.extract ((a' : Int)).toNat (IntKind.i64.wrap ((a' : Int) + IntKind.i64.wrap ((0 : Nat) : Int))).toNat)))] = _
        rw [w1]
        rfl
    | false =>
      have p1 := of_decide_eq_false c1
      have c3 : decide (most ≥ 0) = true := decide_eq_true (by omega)
      have wm : IntKind.u64.wrap most = most := wrapU (by omega) (by omega)
      cases c2 : decide ((n : Int) > IntKind.u64.wrap most) with
      | true =>
        have p2 := of_decide_eq_true c2
        rw [wm] at p2
        repeat (first | refine W.ite_f c1 ?_ | refine W.ite_t c2 ?_ | refine W.ite_t c3 ?_ | refine W.ite_t rfl ?_ | refine W.ite_f rfl ?_)
        exact W.ret (bad (by rw [if_neg (by omega)]; omega))
      | false =>
        have p2 := of_decide_eq_false c2
        rw [wm] at p2
        repeat (first | refine W.ite_f c1 ?_ | refine W.ite_f c2 ?_ | refine W.ite_t c3 ?_ | refine W.ite_t rfl ?_ | refine W.ite_f rfl ?_)
        cases c4 : decide ((n : Int) > IntKind.u64.wrap (IntKind.i64.wrap ((s.size : Int) - (a' : Int)))) with
        | true =>
          have p4 := of_decide_eq_true c4
          rw [hsub] at p4
          refine W.ite_t c4 ?_
          refine W.ret (RetQ.pure rfl ?_)
          dsimp only
          rw [if_neg (by rw [if_neg (by omega)]; omega), if_pos (show n > s.size - a' by omega)]
          rfl
        | false =>
          have p4 := of_decide_eq_false c4
          rw [hsub] at p4
          refine W.ite_f c4 ?_
          have w0 : IntKind.i64.wrap (n : Int) = (n : Int) := wrap64 (by omega) (by omega)
          have w1 : IntKind.i64.wrap ((a' : Int) + IntKind.i64.wrap (n : Int)) = ((a' + n : Nat) : Int) := by rw [w0, wrap64 (by omega) (by omega)]; omega
          refine W.need (by rw [w1]; omega) ?_
          refine W.need (by show 0 ≤ (a' : Int) ∧ (a' : Int) ≤ (((IntKind.i64.wrap ((a' : Int) + IntKind.i64.wrap (n : Int))).toNat : Nat) : Int); rw [w1]; omega) ?_
          refine W.ret (RetQ.pure rfl ?_)
          dsimp only
          rw [if_neg (by rw [if_neg (by omega)]; omega), if_neg (show ¬ n > s.size - a' by omega)]
          show AV.tuple [.d (.agg [_, .lit (.int .i64 (IntKind.i64.wrap ((a' : Int) + IntKind.i64.wrap (n : Int)))), _]), .d (.lit (.string (s.extract ((a' : Int)).toNat (IntKind.i64.wrap ((a' : Int) + IntKind.i64.wrap (n : Int))).toNat)))] = _
          rw [w1]
          rfl
end Go.Proofs.YtpemfjnjkjckoaaDoor.Co
