import Derived.Test.YtgbhfnbehmlohaaDoorCG
set_option maxRecDepth 100000
set_option linter.unusedVariables false
set_option linter.unusedSimpArgs false
namespace Go.Proofs.YtgbhfnbehmlohaaDoor.Co
open Go Go.Am
def od5 : Ords := [(26, [0, 1, 2, 3, 5, 6, 4, 7, 8, 9, 10, 13, 14, 11, 12, 15, 16]), (30, [0, 3, 4, 1, 2, 5, 6, 7, 10, 11, 8, 9, 12, 13, 14])]
theorem code5 : codeB Tryd.f5.ntmps od5 (match Tryd.f5.body with | some c => c | none => .skip) = true := by kernel_rfl
theorem okOfE (e : Err) : Go.Am.Pure Tryd.prog 14 [.d (errD e)] (.d (nI (errC e))) := by
  cases e with
  | none => exact As.okOfNil
  | some x => exact As.okOf codeW x.1 x.2
theorem readB_le {s : ByteArray} {a : Nat} {e : Err} {most : Int} (h : a ≤ s.size) : (readB s a e most).2.1 ≤ s.size := by
  have := readN_le s a e h
  have hI : (readI s a e).2.1 = (readN s a e).2.1 := rfl
  unfold readB
  rw [← hI] at this
  generalize readI s a e = N at *
  obtain ⟨n, a', e'⟩ := N
  cases e' with
  | some x => exact this
  | none =>
    simp only at this ⊢
    by_cases h1 : n < 0 ∨ n ≥ most
    · rw [if_pos h1]; exact h
    · rw [if_neg h1]; exact this
theorem readB_okE {s : ByteArray} {a : Nat} {e : Err} {most : Int} (he : okE e) : okE (readB s a e most).2.2 := by
  have := readI_okE (s := s) (a := a) he
  unfold readB
  generalize readI s a e = N at *
  obtain ⟨n, a', e'⟩ := N
  cases e' with
  | some x => exact this
  | none =>
    simp only
    by_cases h1 : n < 0 ∨ n ≥ most
    · rw [if_pos h1]; exact (by decide : (1 : Int) ≠ 0)
    · rw [if_neg h1]; exact True.intro
theorem readT_okE {s : ByteArray} {a : Nat} {e : Err} {most : Int} (he : okE e) : okE (readT s a e most).2.2 := by
  have := readN_okE (s := s) (a := a) he
  unfold readT
  generalize readN s a e = N at *
  obtain ⟨n, a', e'⟩ := N
  cases e' with
  | some x => exact this
  | none =>
    simp only
    generalize (if 0 > most then 0 else most) = M
    by_cases h1 : (n : Int) > M
    · rw [if_pos h1]; exact (by decide : (1 : Int) ≠ 0)
    · rw [if_neg h1]
      by_cases h2 : n > s.size - a'
      · rw [if_pos h2]; exact (by decide : (10 : Int) ≠ 0)
      · rw [if_neg h2]; exact True.intro
set_option maxHeartbeats 8000000 in
theorem ok5 (s : ByteArray) (l : List Th) (hl : ∀ t ∈ l, t.ok) : Go.Am.Pure Tryd.prog 5 [.d (sD s), slF thC l] (bI true) := by
  refine CallOk.of tysOk mixed od5 Tryd.func5 rfl rfl code5 ?_
  refine W.pure (ok16 s 1000) rfl rfl ?_
  have hsz := cut_size s 1000
  generalize cut s 1000 = t at hsz
  refine W.callF [] [.var [.d (sD t), .d (nI 0), .d (.lit .nilIface)]] (x2 := .ptr 0 0) (ok11 t) (by decide) rfl rfl rfl rfl rfl rfl ?_
  refine W.pure (ok20 t) rfl rfl ?_
  refine W.pure ok10 rfl rfl ?_
  repeat (first | refine W.ite_t rfl ?_ | refine W.ite_f rfl ?_)
  refine W.pure (ok7 l 40 (by decide)) rfl rfl ?_
  have hT := fewTh_ok (m := 40) hl
  have hL := fewTh_len l 40
  generalize fewTh l 40 = L at hT hL
  refine W.loop (fun k fr σ => ∃ (i a : Nat) (e : Err), fr = [(5, .ptr 0 0), (6, .ptr 1 0), (31, slF thC L), (32, .d (nI L.length)), (33, .d (nI i))] ∧ σ = [.var [.d (sD t), .d (nI a), .d (errD e)], .var [.d (sD t), .d (nI a), .d (nI (errC e))]] ∧ okE e ∧ a ≤ t.size ∧ i ≤ L.length ∧ k = L.length - i) L.length
    (Start.of [5, 6, 31, 32, 33] [] (by simp)) ⟨0, 0, none, rfl, rfl, True.intro, by omega, by omega, rfl⟩ ?_
  rintro k fr σ ⟨i, a, e, rfl, rfl, hE, hle, hi, rfl⟩
  refine W.ite (fun c1 => ?_) (fun c1 => ?_)
  · have hil : i < L.length := by have := of_decide_eq_true c1; omega
    obtain ⟨y, hy⟩ : ∃ y, L[i]? = some y := ⟨_, List.getElem?_eq_getElem hil⟩
    have hyo := hT y (List.mem_of_getElem? hy)
    have g1 : IntKind.i64.wrap ((i : Int) + 1) = ((i + 1 : Nat) : Int) := by rw [wrap64 (by omega) (by omega)]; rfl
    refine W.need (ix_ok thC_len (by decide) hil) ?_
    refine W.ld (thE hy) ?_
    cases h1 : (y.k == 1) with
    | true =>
      repeat (first | refine W.ite_t h1 ?_ | refine W.ite_f rfl ?_ | refine W.ite_t rfl ?_)
      refine W.pure (ok21 t a e hE (by omega)) rfl rfl ?_
      have kN := ok12 t a e (by omega)
      have hE' := readN_okE (s := t) (a := a) hE
      have hle' := readN_le t a e hle
      generalize readN t a e = N at kN hE' hle' ⊢
      obtain ⟨n, a', e'⟩ := N
      have hv : (!((n : Int) == (n : Int))) = false := by rw [beq_self_eq_true]; rfl
      have haa : ((a' : Int) != (a' : Int)) = false := by simp
      have hee : (errC e' != errC e') = false := by simp
      refine W.callF [0] [.var [.d (sD t), .d (nI a'), .d (errD e')], .var [.d (sD t), .d (nI a'), .d (nI (errC e'))], .var [.d (nI y.k), .d (nI y.n), .d (uI y.u), .d (sD y.s)], .var [.d (sD t), .d (nI a'), .d (nI (errC e'))]] (x2 := .d (uI n)) kN (by decide) rfl rfl rfl rfl rfl rfl ?_
      repeat (first | refine W.ite_f hv ?_ | refine W.ite_f rfl ?_ | refine W.ite_t rfl ?_)
      refine W.callF [0] [.var [.d (sD t), .d (nI a'), .d (errD e')], .var [.d (sD t), .d (nI a'), .d (nI (errC e'))], .var [.d (nI y.k), .d (nI y.n), .d (uI y.u), .d (sD y.s)], .var [.d (sD t), .d (nI a'), .d (nI (errC e'))]] (x2 := .d (nI a')) (ok18 t a' e') (by decide) rfl rfl rfl rfl rfl rfl ?_
      repeat (first | refine W.ite_f hv ?_ | refine W.ite_f haa ?_ | refine W.ite_f rfl ?_ | refine W.ite_t rfl ?_)
      cases e' with
      | none =>
        refine W.callF [0] [.var [.d (sD t), .d (nI a'), .d (errD none)], .var [.d (sD t), .d (nI a'), .d (nI (errC none))], .var [.d (nI y.k), .d (nI y.n), .d (uI y.u), .d (sD y.s)], .var [.d (sD t), .d (nI a'), .d (nI (errC none))]] (x2 := .d (.lit .nilIface)) (ok19 t a' none) (by decide) rfl rfl rfl rfl rfl rfl ?_
        repeat (first | refine W.ite_f hv ?_ | refine W.ite_f haa ?_ | refine W.ite_f rfl ?_ | refine W.ite_t rfl ?_)
        refine W.pure As.okOfNil rfl rfl ?_
        repeat (first | refine W.ite_f hv ?_ | refine W.ite_f haa ?_ | refine W.ite_f hee ?_ | refine W.ite_f rfl ?_ | refine W.ite_t rfl ?_)
        refine W.ret ⟨_, _, _, ?_, Trim.of [5, 6, 31, 32, 33] [0, 1] (by decide) (by simp) (fun j hj => by have hj : j < 2 := hj; have : j = 0 ∨ j = 1 := (by omega); rcases this with rfl | rfl <;> rfl), i + 1, a', none, ?_, rfl, hE', hle', by omega, rfl⟩
        · omega
        · rw [← g1]; rfl
      | some x =>
        have hee : (x.2 != x.2) = false := by simp
        refine W.callF [0] [.var [.d (sD t), .d (nI a'), .d (errD (some x))], .var [.d (sD t), .d (nI a'), .d (nI (errC (some x)))], .var [.d (nI y.k), .d (nI y.n), .d (uI y.u), .d (sD y.s)], .var [.d (sD t), .d (nI a'), .d (nI (errC (some x)))]] (x2 := .d (ftD codeW x.1 x.2)) (ok19 t a' (some x)) (by decide) rfl rfl rfl rfl rfl rfl ?_
        repeat (first | refine W.ite_f hv ?_ | refine W.ite_f haa ?_ | refine W.ite_f rfl ?_ | refine W.ite_t rfl ?_)
        refine W.pure (As.okOf codeW x.1 x.2) rfl rfl ?_
        repeat (first | refine W.ite_f hv ?_ | refine W.ite_f haa ?_ | refine W.ite_f hee ?_ | refine W.ite_f rfl ?_ | refine W.ite_t rfl ?_)
        refine W.ret ⟨_, _, _, ?_, Trim.of [5, 6, 31, 32, 33] [0, 1] (by decide) (by simp) (fun j hj => by have hj : j < 2 := hj; have : j = 0 ∨ j = 1 := (by omega); rcases this with rfl | rfl <;> rfl), i + 1, a', (some x), ?_, rfl, hE', hle', by omega, rfl⟩
        · omega
        · rw [← g1]; rfl
    | false =>
    cases h2 : (y.k == 2) with
    | true =>
      repeat (first | refine W.ite_f h1 ?_ | refine W.ite_t h2 ?_ | refine W.ite_f rfl ?_ | refine W.ite_t rfl ?_)
      refine W.pure (ok22 t a e hE (by omega)) rfl rfl ?_
      have kN := ok23 t a e (by omega)
      have hE' := readI_okE (s := t) (a := a) hE
      have hle' : (readI t a e).2.1 ≤ t.size := readN_le t a e hle
      generalize readI t a e = N at kN hE' hle' ⊢
      obtain ⟨n, a', e'⟩ := N
      have hv : (!(n == n)) = false := by rw [beq_self_eq_true]; rfl
      have haa : ((a' : Int) != (a' : Int)) = false := by simp
      have hee : (errC e' != errC e') = false := by simp
      refine W.callF [0] [.var [.d (sD t), .d (nI a'), .d (errD e')], .var [.d (sD t), .d (nI a'), .d (nI (errC e'))], .var [.d (nI y.k), .d (nI y.n), .d (uI y.u), .d (sD y.s)], .var [.d (sD t), .d (nI a'), .d (nI (errC e'))]] (x2 := .d (nI n)) kN (by decide) rfl rfl rfl rfl rfl rfl ?_
      repeat (first | refine W.ite_f hv ?_ | refine W.ite_f rfl ?_ | refine W.ite_t rfl ?_)
      refine W.callF [0] [.var [.d (sD t), .d (nI a'), .d (errD e')], .var [.d (sD t), .d (nI a'), .d (nI (errC e'))], .var [.d (nI y.k), .d (nI y.n), .d (uI y.u), .d (sD y.s)], .var [.d (sD t), .d (nI a'), .d (nI (errC e'))]] (x2 := .d (nI a')) (ok18 t a' e') (by decide) rfl rfl rfl rfl rfl rfl ?_
      repeat (first | refine W.ite_f hv ?_ | refine W.ite_f haa ?_ | refine W.ite_f rfl ?_ | refine W.ite_t rfl ?_)
      cases e' with
      | none =>
        refine W.callF [0] [.var [.d (sD t), .d (nI a'), .d (errD none)], .var [.d (sD t), .d (nI a'), .d (nI (errC none))], .var [.d (nI y.k), .d (nI y.n), .d (uI y.u), .d (sD y.s)], .var [.d (sD t), .d (nI a'), .d (nI (errC none))]] (x2 := .d (.lit .nilIface)) (ok19 t a' none) (by decide) rfl rfl rfl rfl rfl rfl ?_
        repeat (first | refine W.ite_f hv ?_ | refine W.ite_f haa ?_ | refine W.ite_f rfl ?_ | refine W.ite_t rfl ?_)
        refine W.pure As.okOfNil rfl rfl ?_
        repeat (first | refine W.ite_f hv ?_ | refine W.ite_f haa ?_ | refine W.ite_f hee ?_ | refine W.ite_f rfl ?_ | refine W.ite_t rfl ?_)
        refine W.ret ⟨_, _, _, ?_, Trim.of [5, 6, 31, 32, 33] [0, 1] (by decide) (by simp) (fun j hj => by have hj : j < 2 := hj; have : j = 0 ∨ j = 1 := (by omega); rcases this with rfl | rfl <;> rfl), i + 1, a', none, ?_, rfl, hE', hle', by omega, rfl⟩
        · omega
        · rw [← g1]; rfl
      | some x =>
        have hee : (x.2 != x.2) = false := by simp
        refine W.callF [0] [.var [.d (sD t), .d (nI a'), .d (errD (some x))], .var [.d (sD t), .d (nI a'), .d (nI (errC (some x)))], .var [.d (nI y.k), .d (nI y.n), .d (uI y.u), .d (sD y.s)], .var [.d (sD t), .d (nI a'), .d (nI (errC (some x)))]] (x2 := .d (ftD codeW x.1 x.2)) (ok19 t a' (some x)) (by decide) rfl rfl rfl rfl rfl rfl ?_
        repeat (first | refine W.ite_f hv ?_ | refine W.ite_f haa ?_ | refine W.ite_f rfl ?_ | refine W.ite_t rfl ?_)
        refine W.pure (As.okOf codeW x.1 x.2) rfl rfl ?_
        repeat (first | refine W.ite_f hv ?_ | refine W.ite_f haa ?_ | refine W.ite_f hee ?_ | refine W.ite_f rfl ?_ | refine W.ite_t rfl ?_)
        refine W.ret ⟨_, _, _, ?_, Trim.of [5, 6, 31, 32, 33] [0, 1] (by decide) (by simp) (fun j hj => by have hj : j < 2 := hj; have : j = 0 ∨ j = 1 := (by omega); rcases this with rfl | rfl <;> rfl), i + 1, a', (some x), ?_, rfl, hE', hle', by omega, rfl⟩
        · omega
        · rw [← g1]; rfl
    | false =>
    cases h3 : (y.k == 3) with
    | true =>
      repeat (first | refine W.ite_f h1 ?_ | refine W.ite_f h2 ?_ | refine W.ite_t h3 ?_ | refine W.ite_f rfl ?_ | refine W.ite_t rfl ?_)
      refine W.pure (ok24 t a e y.n hE hyo.1.1 hyo.1.2.1 hle (by omega)) rfl rfl ?_
      have kN := ok13 t a e y.n hyo.1.2.1 hle (by omega)
      have hE' := readT_okE (s := t) (a := a) (most := y.n) hE
      have hle' := readT_le (e := e) (most := y.n) hle
      generalize readT t a e y.n = N at kN hE' hle' ⊢
      obtain ⟨n, a', e'⟩ := N
      have hv : (!(n.toList == n.toList)) = false := by rw [beq_self_eq_true]; rfl
      have haa : ((a' : Int) != (a' : Int)) = false := by simp
      have hee : (errC e' != errC e') = false := by simp
      refine W.callF [0] [.var [.d (sD t), .d (nI a'), .d (errD e')], .var [.d (sD t), .d (nI a'), .d (nI (errC e'))], .var [.d (nI y.k), .d (nI y.n), .d (uI y.u), .d (sD y.s)], .var [.d (sD t), .d (nI a'), .d (nI (errC e'))]] (x2 := .d (sD n)) kN (by decide) rfl rfl rfl rfl rfl rfl ?_
      repeat (first | refine W.ite_f hv ?_ | refine W.ite_f rfl ?_ | refine W.ite_t rfl ?_)
      refine W.callF [0] [.var [.d (sD t), .d (nI a'), .d (errD e')], .var [.d (sD t), .d (nI a'), .d (nI (errC e'))], .var [.d (nI y.k), .d (nI y.n), .d (uI y.u), .d (sD y.s)], .var [.d (sD t), .d (nI a'), .d (nI (errC e'))]] (x2 := .d (nI a')) (ok18 t a' e') (by decide) rfl rfl rfl rfl rfl rfl ?_
      repeat (first | refine W.ite_f hv ?_ | refine W.ite_f haa ?_ | refine W.ite_f rfl ?_ | refine W.ite_t rfl ?_)
      cases e' with
      | none =>
        refine W.callF [0] [.var [.d (sD t), .d (nI a'), .d (errD none)], .var [.d (sD t), .d (nI a'), .d (nI (errC none))], .var [.d (nI y.k), .d (nI y.n), .d (uI y.u), .d (sD y.s)], .var [.d (sD t), .d (nI a'), .d (nI (errC none))]] (x2 := .d (.lit .nilIface)) (ok19 t a' none) (by decide) rfl rfl rfl rfl rfl rfl ?_
        repeat (first | refine W.ite_f hv ?_ | refine W.ite_f haa ?_ | refine W.ite_f rfl ?_ | refine W.ite_t rfl ?_)
        refine W.pure As.okOfNil rfl rfl ?_
        repeat (first | refine W.ite_f hv ?_ | refine W.ite_f haa ?_ | refine W.ite_f hee ?_ | refine W.ite_f rfl ?_ | refine W.ite_t rfl ?_)
        refine W.ret ⟨_, _, _, ?_, Trim.of [5, 6, 31, 32, 33] [0, 1] (by decide) (by simp) (fun j hj => by have hj : j < 2 := hj; have : j = 0 ∨ j = 1 := (by omega); rcases this with rfl | rfl <;> rfl), i + 1, a', none, ?_, rfl, hE', hle', by omega, rfl⟩
        · omega
        · rw [← g1]; rfl
      | some x =>
        have hee : (x.2 != x.2) = false := by simp
        refine W.callF [0] [.var [.d (sD t), .d (nI a'), .d (errD (some x))], .var [.d (sD t), .d (nI a'), .d (nI (errC (some x)))], .var [.d (nI y.k), .d (nI y.n), .d (uI y.u), .d (sD y.s)], .var [.d (sD t), .d (nI a'), .d (nI (errC (some x)))]] (x2 := .d (ftD codeW x.1 x.2)) (ok19 t a' (some x)) (by decide) rfl rfl rfl rfl rfl rfl ?_
        repeat (first | refine W.ite_f hv ?_ | refine W.ite_f haa ?_ | refine W.ite_f rfl ?_ | refine W.ite_t rfl ?_)
        refine W.pure (As.okOf codeW x.1 x.2) rfl rfl ?_
        repeat (first | refine W.ite_f hv ?_ | refine W.ite_f haa ?_ | refine W.ite_f hee ?_ | refine W.ite_f rfl ?_ | refine W.ite_t rfl ?_)
        refine W.ret ⟨_, _, _, ?_, Trim.of [5, 6, 31, 32, 33] [0, 1] (by decide) (by simp) (fun j hj => by have hj : j < 2 := hj; have : j = 0 ∨ j = 1 := (by omega); rcases this with rfl | rfl <;> rfl), i + 1, a', (some x), ?_, rfl, hE', hle', by omega, rfl⟩
        · omega
        · rw [← g1]; rfl
    | false =>
    cases h4 : (y.k == 4) with
    | true =>
      repeat (first | refine W.ite_f h1 ?_ | refine W.ite_f h2 ?_ | refine W.ite_f h3 ?_ | refine W.ite_t h4 ?_ | refine W.ite_f rfl ?_ | refine W.ite_t rfl ?_)
      refine W.pure (ok25 t a e y.n hE (by omega)) rfl rfl ?_
      have kN := ok26 t a e y.n (by omega)
      have hE' := readB_okE (s := t) (a := a) (most := y.n) hE
      have hle' := readB_le (e := e) (most := y.n) hle
      generalize readB t a e y.n = N at kN hE' hle' ⊢
      obtain ⟨n, a', e'⟩ := N
      have hv : (!(n == n)) = false := by rw [beq_self_eq_true]; rfl
      have haa : ((a' : Int) != (a' : Int)) = false := by simp
      have hee : (errC e' != errC e') = false := by simp
      refine W.callF [0] [.var [.d (sD t), .d (nI a'), .d (errD e')], .var [.d (sD t), .d (nI a'), .d (nI (errC e'))], .var [.d (nI y.k), .d (nI y.n), .d (uI y.u), .d (sD y.s)], .var [.d (sD t), .d (nI a'), .d (nI (errC e'))]] (x2 := .d (nI n)) kN (by decide) rfl rfl rfl rfl rfl rfl ?_
      repeat (first | refine W.ite_f hv ?_ | refine W.ite_f rfl ?_ | refine W.ite_t rfl ?_)
      refine W.callF [0] [.var [.d (sD t), .d (nI a'), .d (errD e')], .var [.d (sD t), .d (nI a'), .d (nI (errC e'))], .var [.d (nI y.k), .d (nI y.n), .d (uI y.u), .d (sD y.s)], .var [.d (sD t), .d (nI a'), .d (nI (errC e'))]] (x2 := .d (nI a')) (ok18 t a' e') (by decide) rfl rfl rfl rfl rfl rfl ?_
      repeat (first | refine W.ite_f hv ?_ | refine W.ite_f haa ?_ | refine W.ite_f rfl ?_ | refine W.ite_t rfl ?_)
      cases e' with
      | none =>
        refine W.callF [0] [.var [.d (sD t), .d (nI a'), .d (errD none)], .var [.d (sD t), .d (nI a'), .d (nI (errC none))], .var [.d (nI y.k), .d (nI y.n), .d (uI y.u), .d (sD y.s)], .var [.d (sD t), .d (nI a'), .d (nI (errC none))]] (x2 := .d (.lit .nilIface)) (ok19 t a' none) (by decide) rfl rfl rfl rfl rfl rfl ?_
        repeat (first | refine W.ite_f hv ?_ | refine W.ite_f haa ?_ | refine W.ite_f rfl ?_ | refine W.ite_t rfl ?_)
        refine W.pure As.okOfNil rfl rfl ?_
        repeat (first | refine W.ite_f hv ?_ | refine W.ite_f haa ?_ | refine W.ite_f hee ?_ | refine W.ite_f rfl ?_ | refine W.ite_t rfl ?_)
        refine W.ret ⟨_, _, _, ?_, Trim.of [5, 6, 31, 32, 33] [0, 1] (by decide) (by simp) (fun j hj => by have hj : j < 2 := hj; have : j = 0 ∨ j = 1 := (by omega); rcases this with rfl | rfl <;> rfl), i + 1, a', none, ?_, rfl, hE', hle', by omega, rfl⟩
        · omega
        · rw [← g1]; rfl
      | some x =>
        have hee : (x.2 != x.2) = false := by simp
        refine W.callF [0] [.var [.d (sD t), .d (nI a'), .d (errD (some x))], .var [.d (sD t), .d (nI a'), .d (nI (errC (some x)))], .var [.d (nI y.k), .d (nI y.n), .d (uI y.u), .d (sD y.s)], .var [.d (sD t), .d (nI a'), .d (nI (errC (some x)))]] (x2 := .d (ftD codeW x.1 x.2)) (ok19 t a' (some x)) (by decide) rfl rfl rfl rfl rfl rfl ?_
        repeat (first | refine W.ite_f hv ?_ | refine W.ite_f haa ?_ | refine W.ite_f rfl ?_ | refine W.ite_t rfl ?_)
        refine W.pure (As.okOf codeW x.1 x.2) rfl rfl ?_
        repeat (first | refine W.ite_f hv ?_ | refine W.ite_f haa ?_ | refine W.ite_f hee ?_ | refine W.ite_f rfl ?_ | refine W.ite_t rfl ?_)
        refine W.ret ⟨_, _, _, ?_, Trim.of [5, 6, 31, 32, 33] [0, 1] (by decide) (by simp) (fun j hj => by have hj : j < 2 := hj; have : j = 0 ∨ j = 1 := (by omega); rcases this with rfl | rfl <;> rfl), i + 1, a', (some x), ?_, rfl, hE', hle', by omega, rfl⟩
        · omega
        · rw [← g1]; rfl
    | false =>
      obtain ⟨a', ha'⟩ : ∃ a', a' = a := ⟨_, rfl⟩
      obtain ⟨e', he'⟩ : ∃ e', e' = e := ⟨_, rfl⟩
      subst ha' he'
      have hE' := hE
      have hle' := hle
      have hv : (!true) = false := rfl
      have haa : ((a' : Int) != (a' : Int)) = false := by simp
      have hee : (errC e' != errC e') = false := by simp
      repeat (first | refine W.ite_f h1 ?_ | refine W.ite_f h2 ?_ | refine W.ite_f h3 ?_ | refine W.ite_f h4 ?_ | refine W.ite_f rfl ?_ | refine W.ite_t rfl ?_)
      refine W.callF [0] [.var [.d (sD t), .d (nI a'), .d (errD e')], .var [.d (sD t), .d (nI a'), .d (nI (errC e'))], .var [.d (nI y.k), .d (nI y.n), .d (uI y.u), .d (sD y.s)]] (x2 := .d (nI a')) (ok18 t a' e') (by decide) rfl rfl rfl rfl rfl rfl ?_
      repeat (first | refine W.ite_f hv ?_ | refine W.ite_f haa ?_ | refine W.ite_f rfl ?_ | refine W.ite_t rfl ?_)
      cases e' with
      | none =>
        refine W.callF [0] [.var [.d (sD t), .d (nI a'), .d (errD none)], .var [.d (sD t), .d (nI a'), .d (nI (errC none))], .var [.d (nI y.k), .d (nI y.n), .d (uI y.u), .d (sD y.s)]] (x2 := .d (.lit .nilIface)) (ok19 t a' none) (by decide) rfl rfl rfl rfl rfl rfl ?_
        repeat (first | refine W.ite_f hv ?_ | refine W.ite_f haa ?_ | refine W.ite_f rfl ?_ | refine W.ite_t rfl ?_)
        refine W.pure As.okOfNil rfl rfl ?_
        repeat (first | refine W.ite_f hv ?_ | refine W.ite_f haa ?_ | refine W.ite_f hee ?_ | refine W.ite_f rfl ?_ | refine W.ite_t rfl ?_)
        refine W.ret ⟨_, _, _, ?_, Trim.of [5, 6, 31, 32, 33] [0, 1] (by decide) (by simp) (fun j hj => by have hj : j < 2 := hj; have : j = 0 ∨ j = 1 := (by omega); rcases this with rfl | rfl <;> rfl), i + 1, a', none, ?_, rfl, hE', hle', by omega, rfl⟩
        · omega
        · rw [← g1]; rfl
      | some x =>
        have hee : (x.2 != x.2) = false := by simp
        refine W.callF [0] [.var [.d (sD t), .d (nI a'), .d (errD (some x))], .var [.d (sD t), .d (nI a'), .d (nI (errC (some x)))], .var [.d (nI y.k), .d (nI y.n), .d (uI y.u), .d (sD y.s)]] (x2 := .d (ftD codeW x.1 x.2)) (ok19 t a' (some x)) (by decide) rfl rfl rfl rfl rfl rfl ?_
        repeat (first | refine W.ite_f hv ?_ | refine W.ite_f haa ?_ | refine W.ite_f rfl ?_ | refine W.ite_t rfl ?_)
        refine W.pure (As.okOf codeW x.1 x.2) rfl rfl ?_
        repeat (first | refine W.ite_f hv ?_ | refine W.ite_f haa ?_ | refine W.ite_f hee ?_ | refine W.ite_f rfl ?_ | refine W.ite_t rfl ?_)
        refine W.ret ⟨_, _, _, ?_, Trim.of [5, 6, 31, 32, 33] [0, 1] (by decide) (by simp) (fun j hj => by have hj : j < 2 := hj; have : j = 0 ∨ j = 1 := (by omega); rcases this with rfl | rfl <;> rfl), i + 1, a', (some x), ?_, rfl, hE', hle', by omega, rfl⟩
        · omega
        · rw [← g1]; rfl
  · have hlast : i = L.length := by have := of_decide_eq_false c1; omega
    subst hlast
    refine W.ret ?_
    refine W.pure (ok27 t a e hE) rfl rfl ?_
    have kD := ok15 t a e
    generalize doneE t a e = e' at kD ⊢
    cases e' with
    | none =>
      refine W.callF [0] [.var [.d (sD t), .d (nI a), .d (errD none)], .var [.d (sD t), .d (nI a), .d (nI 0)]] (x2 := .d (.lit .nilIface)) kD (by decide) rfl rfl rfl rfl rfl rfl ?_
      refine W.pure As.okOfNil rfl rfl ?_
      repeat (first | refine W.ite_f rfl ?_ | refine W.ite_t rfl ?_)
      refine W.callF [0] [.var [.d (sD t), .d (nI a), .d (errD none)], .var [.d (sD t), .d (nI a), .d (nI 0)]] (x2 := .d (.lit .nilIface)) (ok19 t a none) (by decide) rfl rfl rfl rfl rfl rfl ?_
      repeat (first | refine W.ite_f rfl ?_ | refine W.ite_t rfl ?_)
      refine W.pure As.okOfNil rfl rfl ?_
      repeat (first | refine W.ite_f rfl ?_ | refine W.ite_t rfl ?_)
      exact W.ret (RetQ.pure rfl rfl)
    | some x =>
      have hee : (x.2 == x.2) = true := beq_self_eq_true _
      refine W.callF [0] [.var [.d (sD t), .d (nI a), .d (errD (some x))], .var [.d (sD t), .d (nI a), .d (nI x.2)]] (x2 := .d (ftD codeW x.1 x.2)) kD (by decide) rfl rfl rfl rfl rfl rfl ?_
      refine W.pure (As.okOf codeW x.1 x.2) rfl rfl ?_
      repeat (first | refine W.ite_t hee ?_ | refine W.ite_f rfl ?_ | refine W.ite_t rfl ?_)
      refine W.callF [0] [.var [.d (sD t), .d (nI a), .d (errD (some x))], .var [.d (sD t), .d (nI a), .d (nI x.2)]] (x2 := .d (ftD codeW x.1 x.2)) (ok19 t a (some x)) (by decide) rfl rfl rfl rfl rfl rfl ?_
      repeat (first | refine W.ite_t hee ?_ | refine W.ite_f rfl ?_ | refine W.ite_t rfl ?_)
      refine W.pure (As.okOf codeW x.1 x.2) rfl rfl ?_
      repeat (first | refine W.ite_t hee ?_ | refine W.ite_f rfl ?_ | refine W.ite_t rfl ?_)
      exact W.ret (RetQ.pure rfl (ret_bI hee))
end Go.Proofs.YtgbhfnbehmlohaaDoor.Co
