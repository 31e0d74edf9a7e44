import Derived.Test.YtpemfjnjkjckoaaDoorCQ
set_option maxRecDepth 100000
set_option linter.unusedVariables false
set_option linter.unusedSimpArgs false
namespace Go.Proofs.YtpemfjnjkjckoaaDoor.Co
open Go Go.Am
def od28 : Ords := []
theorem code28 : codeB Tryd.f28.ntmps od28 (match Tryd.f28.body with | some c => c | none => .skip) = true := by kernel_rfl
def od42 : Ords := []
theorem code42 : codeB Tryd.f42.ntmps od42 (match Tryd.f42.body with | some c => c | none => .skip) = true := by kernel_rfl
def od27 : Ords := []
theorem code27 : codeB Tryd.f27.ntmps od27 (match Tryd.f27.body with | some c => c | none => .skip) = true := by kernel_rfl
def od29 : Ords := []
theorem code29 : codeB Tryd.f29.ntmps od29 (match Tryd.f29.body with | some c => c | none => .skip) = true := by kernel_rfl
def od30 : Ords := []
theorem code30 : codeB Tryd.f30.ntmps od30 (match Tryd.f30.body with | some c => c | none => .skip) = true := by kernel_rfl
theorem num_code (s : ByteArray) : ∀ (f i a acc : Nat) {n a' : Nat} {x : Nat × Int}, num s f i a acc = (n, a', some x) → (x.2 = 10 ∨ x.2 = 11)
  | 0, i, a, acc, n, a', x, h => by simp [num] at h
  | f + 1, i, a, acc, n, a', x, h => by
    rw [num] at h
    split at h
    · simp only [Prod.mk.injEq, Option.some.injEq] at h
      rw [← h.2.2]; exact .inl rfl
    · split at h
      · simp only [Prod.mk.injEq, Option.some.injEq] at h
        rw [← h.2.2]; exact .inr rfl
      · split at h
        · simp at h
        · exact num_code s f _ _ _ h
/-! ### the reference's cursor -/
def errC : Err → Int
  | none => 0
  | some x => x.2
def okE : Err → Prop
  | none => True
  | some x => x.2 ≠ 0
theorem okE_some {x : Nat × Int} (h : okE (some x)) : (x.2 == 0) = false := by
  have h : x.2 ≠ 0 := h
  simpa using h
def curC (s : ByteArray) (a : Nat) (e : Err) : List D := [sD s, nI a, nI (errC e)]
theorem ok28 (s : ByteArray) : Go.Am.Pure Tryd.prog 28 [.d (sD s)] (.d (.agg (curC s 0 none))) := by
  refine CallOk.of tysOk mixed od28 Tryd.func28 rfl rfl code28 ?_
  exact W.ret (RetQ.pure rfl rfl)
theorem ok30 (s : ByteArray) (a : Nat) (e : Err) (he : okE e) : Go.Am.Pure Tryd.prog 30 [.d (.agg (curC s a e))] (.d (.agg (curC s a (doneE s a e)))) := by
  refine CallOk.of tysOk mixed od30 Tryd.func30 rfl rfl code30 ?_
  cases e with
  | some x =>
    have h0 := okE_some he
    rw [show doneE s a (some x) = some x from by unfold doneE failE; split <;> rfl]
    repeat (first | refine W.ite_f h0 ?_ | refine W.ite_t rfl ?_ | refine W.ite_f rfl ?_)
    exact W.ret (RetQ.pure rfl rfl)
  | none =>
    repeat (first | refine W.ite_t rfl ?_ | refine W.ite_f rfl ?_)
    unfold doneE
    refine W.ite (fun c => ?_) (fun c => ?_)
    · rw [if_pos (by have := of_decide_eq_true c; omega)]
      exact W.ret (RetQ.pure rfl rfl)
    · rw [if_neg (by have := of_decide_eq_false c; omega)]
      exact W.ret (RetQ.pure rfl rfl)
theorem readN_okE {s : ByteArray} {a : Nat} {e : Err} (he : okE e) : okE (readN s a e).2.2 := by
  cases e with
  | some x => exact he
  | none =>
    cases h : (readN s a none).2.2 with
    | none => exact True.intro
    | some y =>
      have : readN s a none = ((readN s a none).1, (readN s a none).2.1, some y) := by rw [← h]
      have := num_code s _ _ _ _ this
      show y.2 ≠ 0
      omega
theorem unit9 {i : Nat} (h : i ≤ 8) : 128 ^ i * 128 < 18446744073709551616 := by
  have : i = 0 ∨ i = 1 ∨ i = 2 ∨ i = 3 ∨ i = 4 ∨ i = 5 ∨ i = 6 ∨ i = 7 ∨ i = 8 := by omega
  rcases this with rfl | rfl | rfl | rfl | rfl | rfl | rfl | rfl | rfl <;> decide
set_option maxHeartbeats 8000000 in
theorem ok42 (s : ByteArray) (at_ : Nat) (e : Err) (he : okE e) (hs : s.size ≤ 9223372036854775807) :
    Go.Am.Pure Tryd.prog 42 [.d (.agg (curC s at_ e))] (.tuple [.d (.agg (curC s (readN s at_ e).2.1 (readN s at_ e).2.2)), .d (uI (readN s at_ e).1)]) := by
  refine CallOk.of tysOk mixed od42 Tryd.func42 rfl rfl code42 ?_
  refine W.loop (fun k fr σ => ∃ (f i a acc : Nat) (e' : Err), fr = [(1, .ptr 0 0), (2, .ptr 1 0), (4, .d (uI acc)), (5, .d (uI (128 ^ i : Nat))), (6, .d (nI (i : Nat)))] ∧ σ = [.var [.d (sD s), .d (nI a), .d (nI (errC e'))], .var [.d (.lit (.string ⟨#[]⟩)), .d (nI 0), .d (nI 0)]] ∧
      (e' = none → num s f i a acc = readN s at_ e ∧ f + i = 10 ∧ 1 ≤ f ∧ acc < 128 ^ i) ∧ (∀ x, e' = some x → (0, a, some x) = readN s at_ e ∧ x.2 ≠ 0) ∧ f = k) 10
    (Start.of [1, 2, 4, 5, 6] [] (by simp)) ⟨10, 0, at_, 0, e, rfl, rfl, fun h => by subst h; exact ⟨rfl, rfl, by decide, by decide⟩, fun x h => by subst h; exact ⟨rfl, he⟩, rfl⟩ ?_
  rintro k fr σ ⟨f, i, a, acc, e', rfl, rfl, hrun, hstop, rfl⟩
  cases e' with
  | some x =>
    obtain ⟨hr, hx⟩ := hstop x rfl
    have h0 : (x.2 == 0) = false := by simpa using hx
    repeat (first | refine W.ite_f h0 ?_ | refine W.ite_t rfl ?_ | refine W.ite_f rfl ?_)
    refine W.ret (W.ret (RetQ.pure rfl ?_))
    rw [← hr]
    rfl
  | none =>
    obtain ⟨hr, hfi, hf, ha⟩ := hrun rfl
    obtain ⟨f, rfl⟩ : ∃ f', f = f' + 1 := ⟨f - 1, by omega⟩
    have hb := byteAt_lt s a
    have h11 : decide ((i : Int) < 11) = true := decide_eq_true (by omega)
    repeat (first | refine W.ite_t h11 ?_ | refine W.ite_t rfl ?_ | refine W.ite_f rfl ?_)
    cases c1 : decide ((a : Int) ≥ (s.size : Int)) with
    | true =>
      have h1 : s.size ≤ a := by have := of_decide_eq_true c1; omega
      refine W.ite_t c1 ?_
      refine W.ret (W.ret (RetQ.pure rfl ?_))
      rw [← hr, num, if_pos h1]
      rfl
    | false =>
      have h1 : ¬ s.size ≤ a := by have := of_decide_eq_false c1; omega
      refine W.ite_f c1 ?_
      refine W.need (by omega) ?_
      have wb : IntKind.u64.wrap ((byteAt s a : Nat) : Int) = ((byteAt s a : Nat) : Int) := wrapNat (by omega)
      have wa : IntKind.i64.wrap ((a : Int) + 1) = ((a + 1 : Nat) : Int) := by rw [wrap64 (by omega) (by omega)]; omega
      have wi : IntKind.i64.wrap ((i : Int) + 1) = ((i + 1 : Nat) : Int) := by rw [wrap64 (by omega) (by omega)]; omega
      cases h9 : ((i : Int) == 9) <;> cases hg : decide (IntKind.u64.wrap ((byteAt s a : Nat) : Int) > 1) <;> cases hi : decide ((i : Int) > 0) <;> cases hz : (IntKind.u64.wrap ((byteAt s a : Nat) : Int) == 0)
      all_goals
        have p9 := h9
        have pg := hg
        have pi := hi
        have pz := hz
        simp only [wb, beq_iff_eq, beq_eq_false_iff_ne, ne_eq, decide_eq_true_eq, decide_eq_false_iff_not] at p9 pg pi pz
      all_goals (try omega)
      all_goals
        repeat (first | refine W.ite_t rfl ?_ | refine W.ite_f rfl ?_ | refine W.ite_t h9 ?_ | refine W.ite_f h9 ?_ | refine W.ite_t hg ?_ | refine W.ite_f hg ?_ | refine W.ite_t hi ?_ | refine W.ite_f hi ?_ | refine W.ite_t hz ?_ | refine W.ite_f hz ?_)
      all_goals
        first
        | (refine W.ret (W.ret (RetQ.pure rfl ?_))
           rw [← hr, num, if_neg h1, if_pos (by omega)]
           rfl)
        | (have hn9 : i = 9 → byteAt s a ≤ 1 := by omega
           obtain ⟨q1, q2⟩ := accP (x := byteAt s a % 128) ha (by omega) (by omega) (by omega)
           have hacc : IntKind.u64.wrap ((acc : Int) + IntKind.u64.wrap ((IntKind.u64.wrap ((byteAt s a : Nat) : Int)).tmod 128 * ((128 ^ i : Nat) : Int))) = ((acc + (byteAt s a % 128) * 128 ^ i : Nat) : Int) := by
             rw [wb, show (((byteAt s a : Nat) : Int).tmod 128) = ((byteAt s a % 128 : Nat) : Int) from rfl, ← Int.natCast_mul, wrapNat q1, ← Int.natCast_add, wrapNat q2]
           refine W.need (by decide) ?_
           cases c2 : decide (IntKind.u64.wrap ((byteAt s a : Nat) : Int) < 128) with
           | true =>
             have h2 : byteAt s a < 128 := by rw [wb] at c2; have := of_decide_eq_true c2; omega
             refine W.ite_t c2 ?_
             refine W.ret (W.ret (RetQ.pure rfl ?_))
             rw [← hr, num, if_neg h1, if_neg (by omega), if_pos h2]
             show AV.tuple [.d (.agg [sD s, .lit (.int .i64 (IntKind.i64.wrap ((a : Int) + 1))), nI 0]), .d (.lit (.int .u64 _))] = .tuple [.d (.agg [sD s, .lit (.int .i64 ((a + 1 : Nat) : Int)), nI 0]), .d (.lit (.int .u64 ((acc + (byteAt s a % 128) * 128 ^ i : Nat) : Int)))]
             rw [wa, ← hacc]
             rfl
           | false =>
             have h2 : ¬ byteAt s a < 128 := by rw [wb] at c2; have := of_decide_eq_false c2; omega
             have hun : IntKind.u64.wrap (((128 ^ i : Nat) : Int) * 128) = ((128 ^ (i + 1) : Nat) : Int) := by
               rw [show (((128 ^ i : Nat) : Int) * 128) = ((128 ^ i * 128 : Nat) : Int) from by rw [Int.natCast_mul]; rfl, wrapNat (unit9 (by omega)), Nat.pow_succ]
             refine W.ite_f c2 ?_
             refine W.ret ⟨f, _, _, by omega, Trim.of [1, 2, 4, 5, 6] [0, 1] (by decide) (by simp) (fun j hj => by have hj : j < 2 := hj; have : j = 0 ∨ j = 1 := (by omega); rcases this with rfl | rfl <;> rfl), f, i + 1, a + 1, _, none, ?_, ?_, fun _ => ⟨?_, by omega, by omega, accNext (b := byteAt s a) ha⟩, (fun x h => by cases h), rfl⟩
             · show [(1, AV.ptr 0 0), (2, AV.ptr 1 0), (4, AV.d (.lit (.int .u64 _))), (5, AV.d (.lit (.int .u64 _))), (6, AV.d (.lit (.int .i64 _)))] = [(1, AV.ptr 0 0), (2, AV.ptr 1 0), (4, AV.d (.lit (.int .u64 ((acc + (byteAt s a % 128) * 128 ^ i : Nat) : Int)))), (5, AV.d (.lit (.int .u64 ((128 ^ (i + 1) : Nat) : Int)))), (6, AV.d (.lit (.int .i64 ((i + 1 : Nat) : Int))))]
               rw [← hacc, ← hun, ← wi]
               rfl
             · show [Blk.var [.d (sD s), .d (.lit (.int .i64 (IntKind.i64.wrap ((a : Int) + 1)))), _], _] = [Blk.var [.d (sD s), .d (.lit (.int .i64 ((a + 1 : Nat) : Int))), _], _]
               rw [wa]
               rfl
             · rw [← hr, num, if_neg h1, if_neg (by omega), if_neg h2])
end Go.Proofs.YtpemfjnjkjckoaaDoor.Co
