import Derived.Test.YtkdibdlbigmkcaaDoorMG
import Derived.Test.YtkdibdlbigmkcaaDoorCG0
set_option maxRecDepth 100000
set_option linter.unusedVariables false
set_option linter.unusedSimpArgs false
/- Layer 15: the reference reads. -/
namespace Go.Proofs.YtkdibdlbigmkcaaDoor.Ms
open Go Go.Am Co
def od15 : Ords := []
theorem code15 : codeB Tryd.f15.ntmps od15 (match Tryd.f15.body with | some c => c | none => .skip) = true := by kernel_rfl
/-- The code of what a reading says. -/
def codeM (s : ByteArray) : Int :=
  if s.size > 1970 then 4
  else match rawM s with
    | none => 11
    | some (m, a, e) => match doneE s a e with
      | some x => x.2
      | none => checkB m
theorem codeM_big {s : ByteArray} (h : s.size > 1970) : codeM s = 4 := if_pos h
theorem codeM_none {s : ByteArray} (h : ¬ s.size > 1970) (hr : rawM s = none) : codeM s = 11 := by unfold codeM; rw [if_neg h, hr]
theorem codeM_bad {s : ByteArray} (h : ¬ s.size > 1970) {m : Mg} {a : Nat} {e : Err} {x : Nat × Int} (hr : rawM s = some (m, a, e)) (hE : doneE s a e = some x) : codeM s = x.2 := by
  unfold codeM; rw [if_neg h, hr]; dsimp only; rw [hE]
theorem codeM_good {s : ByteArray} (h : ¬ s.size > 1970) {m : Mg} {a : Nat} {e : Err} (hr : rawM s = some (m, a, e)) (hE : doneE s a e = none) : codeM s = checkB m := by
  unfold codeM; rw [if_neg h, hr]; dsimp only; rw [hE]
theorem doneE_okE {s : ByteArray} {a : Nat} {e : Err} (h : okE e) : okE (doneE s a e) := by
  unfold doneE
  split
  · cases e with
    | none => show (11 : Int) ≠ 0; decide
    | some x => exact h
  · exact h
theorem readT_okE {s : ByteArray} {a : Nat} {e : Err} {m : Int} (h : okE e) : okE (readT s a e m).2.2 := by
  have := readN_okE (s := s) (a := a) h
  unfold readT
  generalize readN s a e = N at *
  obtain ⟨n, a', e'⟩ := N
  cases e' with
  | some x => exact this
  | none =>
    dsimp only
    generalize (if 0 > m then 0 else m) = M
    split
    · show (1 : Int) ≠ 0; decide
    · split
      · show (10 : Int) ≠ 0; decide
      · exact True.intro
theorem readB_okE {s : ByteArray} {a : Nat} {e : Err} {m : Int} (h : okE e) : okE (readB s a e m).2.2 := by
  have := readI_okE (s := s) (a := a) h
  unfold readB
  generalize readI s a e = N at *
  obtain ⟨n, a', e'⟩ := N
  cases e' with
  | some x => exact this
  | none =>
    dsimp only
    split
    · show (1 : Int) ≠ 0; decide
    · exact this
theorem rdF_okE {s : ByteArray} {a : Nat} {e : Err} (h : okE e) : ∀ n, okE (rdF s n a e).2.2
  | 0 => h
  | n + 1 => readT_okE (rdF_okE h n)
theorem rdV_okE {s : ByteArray} {a : Nat} {e : Err} (h : okE e) : ∀ n, okE (rdV s n a e).2.2
  | 0 => h
  | n + 1 => readT_okE (readI_okE (rdV_okE h n))
theorem tr5 {T : List Nat} {n : Nat} (h : n = 5) : ∀ i, i < n → (0 :: 1 :: 2 :: 3 :: 4 :: T)[i]? = some i := fun i hi => by
  have : i = 0 ∨ i = 1 ∨ i = 2 ∨ i = 3 ∨ i = 4 := by omega
  rcases this with rfl | rfl | rfl | rfl | rfl <;> rfl
theorem tr7 {T : List Nat} {n : Nat} (h : n = 7) : ∀ i, i < n → (0 :: 1 :: 2 :: 3 :: 4 :: 5 :: 6 :: T)[i]? = some i := fun i hi => by
  have : i = 0 ∨ i = 1 ∨ i = 2 ∨ i = 3 ∨ i = 4 ∨ i = 5 ∨ i = 6 := by omega
  rcases this with rfl | rfl | rfl | rfl | rfl | rfl | rfl <;> rfl
abbrev rrA (s : ByteArray) : AV := .tuple [mgG (readM s).1, .d (nI (codeM s))]
set_option maxHeartbeats 16000000 in
theorem ok15 (s : ByteArray) (hs : s.size ≤ 1000000) : Go.Am.Pure Tryd.prog 15 [.d (sD s)] (rrA s) := by
  refine CallOk.softG (R := fun v σ => v = rrA s ∧ σ = []) ?_
  refine CallOk.of tysOk mixed od15 Tryd.func15 rfl rfl code15 ?_
  refine W.ite (fun c1 => ?_) (fun c1 => ?_)
  · have h1 : s.size > 1970 := by have := of_decide_eq_true c1; omega
    refine W.ret (RetQ.part [] (by decide) (by simp) (by simp) ⟨?_, rfl⟩)
    unfold rrA
    rw [readM_big h1, codeM_big h1]
    rfl
  have h1 : ¬ s.size > 1970 := by have := of_decide_eq_false c1; omega
  unfold rrA
  refine W.pure (ok32 s) rfl rfl ?_
  have hraw : rawM s = rawB s (readI s 0 none).1 (readT s (readI s 0 none).2.1 (readI s 0 none).2.2 40).1 (readT s (readI s 0 none).2.1 (readI s 0 none).2.2 40).2.1 (readT s (readI s 0 none).2.1 (readI s 0 none).2.2 40).2.2 := rfl
  have o0 : okE none := True.intro
  have kI := ok31 s 0 none o0 (by omega)
  have l1 := readI_le (s := s) (a := 0) (e := none) (by omega)
  have o1 := readI_okE (s := s) (a := 0) o0
  generalize readI s 0 none = K at *
  obtain ⟨k, a1, e1⟩ := K
  have kT := ok33 s a1 e1 40 o1 (by decide) (by decide) l1 (by omega)
  have l2 := readT_le (s := s) (a := a1) (e := e1) (most := 40) l1
  have o2 := readT_okE (s := s) (a := a1) (m := 40) o1
  dsimp only at hraw
  generalize readT s a1 e1 40 = G at *
  obtain ⟨g, a, e⟩ := G
  dsimp only at hraw l2 o2
  refine W.pure kI rfl rfl ?_
  refine W.pure kT rfl rfl ?_
  unfold rawB at hraw
  by_cases k1 : k = 1
  · subst k1
    rw [if_pos rfl] at hraw
    unfold raw1 at hraw
    have kN := ok31 s a e o2 (by omega)
    have l3 := readI_le (s := s) (a := a) (e := e) l2
    have o3 := readI_okE (s := s) (a := a) o2
    have rN := readI_r s a e
    have eN := fun {n : Int} {a' : Nat} {x : Nat × Int} => @readI_err s a a' e n x
    generalize readI s a e = N at *
    obtain ⟨n, a3, e3⟩ := N
    dsimp only at hraw l3 rN o3
    repeat (first | refine W.ite_t rfl ?_ | refine W.ite_f rfl ?_)
    refine W.pure kN rfl rfl ?_
    cases e3 with
    | some x =>
      have n0 := eN rfl
      subst n0
      have hx := okE_some o3
      rw [if_neg (by rintro ⟨h, _⟩; exact absurd h (by simp))] at hraw
      repeat (first | refine W.ite_f hx ?_ | refine W.ite_t rfl ?_ | refine W.ite_f rfl ?_)
      refine W.loop (fun K fr σ => ∃ i : Nat, fr = [(2, .ptr 0 0), (4, .ptr 1 0), (5, .d (nI 1)), (7, .ptr 2 0), (8, .d (nI 0)), (9, .d (nI i))] ∧ σ = [.var zC, .var [.d (sD s), .d (nI (rdF s i a3 (some x)).2.1), .d (nI (Co.errC (rdF s i a3 (some x)).2.2))], .var [.d (nI 1), .d (sD g), .d (.lit (.bool (0 == -1))), .vec 3 i, .d (nI 0), .d (nI 0), .d (nI 0), nilA, .d (sD mt)], .vec 1 i (flat sC (rdF s i a3 (some x)).1)] ∧ i ≤ 0 ∧ K = 0 - i) 0
        (Start.trans (Start.nil 2 3 1 rfl rfl) (Start.of [2, 4, 5, 7, 8, 9] [] (by simp))) ?_ ?_
      · exact ⟨0, rfl, rfl, by omega, rfl⟩
      rintro K fr σ ⟨i, rfl, rfl, hi, rfl⟩
      have hq := rdF_le (e := (some x)) l3 i
      refine W.ite (fun c1 => ?_) (fun c1 => ?_)
      · have hil : i < 0 := by have := of_decide_eq_true c1; omega
        omega
      · have hil : 0 = i := by have := of_decide_eq_false c1; omega
        subst hil
        refine W.ret ?_
        have oF := rdF_okE (s := s) (a := a3) o3 0
        have hr : rawM s = some (⟨1, g, (0 == -1), (rdF s 0 a3 (some x)).1, 0, 0, 0, [], mt⟩, (rdF s 0 a3 (some x)).2) := hraw
        generalize rdF s 0 a3 (some x) = F at *
        obtain ⟨f, b, e⟩ := F
        dsimp only at hr hq oF
        have hfl : f.length = 0 := hq.2
        repeat (first | refine W.ite_t rfl ?_ | refine W.ite_f rfl ?_)
        have kD := ok35 s b e oF
        have hdE := doneE_okE (s := s) (a := b) oF
        generalize hE : doneE s b e = E at *
        refine W.pure kD rfl rfl ?_
        cases E with
        | some x =>
          have hx : (x.2 != 0) = true := by have h : x.2 ≠ 0 := hdE; simpa using h
          refine W.ite_t hx ?_
          repeat (first | refine W.ite_t rfl ?_ | refine W.ite_f rfl ?_)
          refine W.ret (RetQ.part [] (by decide) (by simp) (by simp) ⟨?_, rfl⟩)
          rw [readM_bad h1 hr hE, codeM_bad h1 hr hE]
          rfl
        | none =>
          repeat (first | refine W.ite_t rfl ?_ | refine W.ite_f rfl ?_)
          have kC : Go.Am.Pure Tryd.prog 12 [.d (.agg [nI 1, sD g, .lit (.bool (0 == -1)), .sl 0 ((flat sC f).take (0 * 1)), nI 0, nI 0, nI 0, .sl 0 [], sD mt])] (.d (nI (checkB ⟨1, g, (0 == -1), f, 0, 0, 0, [], mt⟩))) := by rw [slCut hfl]; exact ok12 ⟨1, g, (0 == -1), f, 0, 0, 0, [], mt⟩
          rcases checkB_cases ⟨1, g, (0 == -1), f, 0, 0, 0, [], mt⟩ with hc | hc | hc
          · rw [hc] at kC
            refine W.callF [] [.var zC, .var [.d (sD s), .d (nI b), .d (nI (Co.errC e))], .var [.d (nI 1), .d (sD g), .d (.lit (.bool (0 == -1))), .vec 3 0, .d (nI 0), .d (nI 0), .d (nI 0), nilA, .d (sD mt)], .vec 1 0 (flat sC f)] (x2 := .d (nI 0)) (CallOk.softA (args := [.d (.agg [nI 1, sD g, .lit (.bool (0 == -1)), .sl 0 ((flat sC f).take (0 * 1)), nI 0, nI 0, nI 0, nilD, sD mt])]) kC) (by decide) rfl rfl rfl rfl rfl rfl ?_
            repeat (first | refine W.ite_t rfl ?_ | refine W.ite_f rfl ?_)
            refine W.ret (RetQ.part [] (by decide) (by simp) (by simp) ⟨?_, rfl⟩)
            rw [codeM_good h1 hr hE, hc]
            rw [readM_good h1 hr hE hc]
            show AV.tuple [.d (.agg [nI 1, sD g, .lit (.bool (0 == -1)), .sl 0 ((flat sC f).take (0 * 1)), nI 0, nI 0, nI 0, .sl 0 [], sD mt]), .d (nI 0)] = _
            rw [slCut hfl]; rfl
          · rw [hc] at kC
            refine W.callF [] [.var zC, .var [.d (sD s), .d (nI b), .d (nI (Co.errC e))], .var [.d (nI 1), .d (sD g), .d (.lit (.bool (0 == -1))), .vec 3 0, .d (nI 0), .d (nI 0), .d (nI 0), nilA, .d (sD mt)], .vec 1 0 (flat sC f)] (x2 := .d (nI 1)) (CallOk.softA (args := [.d (.agg [nI 1, sD g, .lit (.bool (0 == -1)), .sl 0 ((flat sC f).take (0 * 1)), nI 0, nI 0, nI 0, nilD, sD mt])]) kC) (by decide) rfl rfl rfl rfl rfl rfl ?_
            repeat (first | refine W.ite_t rfl ?_ | refine W.ite_f rfl ?_)
            refine W.ret (RetQ.part [] (by decide) (by simp) (by simp) ⟨?_, rfl⟩)
            rw [codeM_good h1 hr hE, hc]
            rw [readM_check h1 hr hE hc (by decide)]
            rfl
          · rw [hc] at kC
            refine W.callF [] [.var zC, .var [.d (sD s), .d (nI b), .d (nI (Co.errC e))], .var [.d (nI 1), .d (sD g), .d (.lit (.bool (0 == -1))), .vec 3 0, .d (nI 0), .d (nI 0), .d (nI 0), nilA, .d (sD mt)], .vec 1 0 (flat sC f)] (x2 := .d (nI 11)) (CallOk.softA (args := [.d (.agg [nI 1, sD g, .lit (.bool (0 == -1)), .sl 0 ((flat sC f).take (0 * 1)), nI 0, nI 0, nI 0, nilD, sD mt])]) kC) (by decide) rfl rfl rfl rfl rfl rfl ?_
            repeat (first | refine W.ite_t rfl ?_ | refine W.ite_f rfl ?_)
            refine W.ret (RetQ.part [] (by decide) (by simp) (by simp) ⟨?_, rfl⟩)
            rw [codeM_good h1 hr hE, hc]
            rw [readM_check h1 hr hE hc (by decide)]
            rfl
    | none =>
      cases b1 : decide (n < -1) with
      | true =>
        repeat (first | refine W.ite_t b1 ?_ | refine W.ite_t rfl ?_ | refine W.ite_f rfl ?_)
        rw [if_pos ⟨rfl, .inl (of_decide_eq_true b1)⟩] at hraw
        refine W.ret (RetQ.part [] (by decide) (by simp) (by simp) ⟨?_, rfl⟩)
        rw [readM_none h1 hraw, codeM_none h1 hraw]
        rfl
      | false =>
      cases b2 : decide (n > 16) with
      | true =>
        repeat (first | refine W.ite_f b1 ?_ | refine W.ite_t b2 ?_ | refine W.ite_t rfl ?_ | refine W.ite_f rfl ?_)
        rw [if_pos ⟨rfl, .inr (of_decide_eq_true b2)⟩] at hraw
        refine W.ret (RetQ.part [] (by decide) (by simp) (by simp) ⟨?_, rfl⟩)
        rw [readM_none h1 hraw, codeM_none h1 hraw]
        rfl
      | false =>
        repeat (first | refine W.ite_f b1 ?_ | refine W.ite_f b2 ?_ | refine W.ite_t rfl ?_ | refine W.ite_f rfl ?_)
        have q1 := of_decide_eq_false b1
        have q2 := of_decide_eq_false b2
        rw [if_neg (fun ⟨_, h⟩ => h.elim q1 q2)] at hraw
        obtain ⟨N, hN2⟩ : ∃ N : Nat, n.toNat = N := ⟨n.toNat, rfl⟩
        have hN16 : N ≤ 16 := by omega
        rw [hN2] at hraw
        refine W.loop (fun K fr σ => ∃ i : Nat, fr = [(2, .ptr 0 0), (4, .ptr 1 0), (5, .d (nI 1)), (7, .ptr 2 0), (8, .d (nI n)), (9, .d (nI i))] ∧ σ = [.var zC, .var [.d (sD s), .d (nI (rdF s i a3 none).2.1), .d (nI (Co.errC (rdF s i a3 none).2.2))], .var [.d (nI 1), .d (sD g), .d (.lit (.bool (n == -1))), .vec 3 i, .d (nI 0), .d (nI 0), .d (nI 0), nilA, .d (sD mt)], .vec 1 i (flat sC (rdF s i a3 none).1)] ∧ i ≤ N ∧ K = N - i) N
          (Start.trans (Start.nil 2 3 1 rfl rfl) (Start.of [2, 4, 5, 7, 8, 9] [] (by simp))) ?_ ?_
        · exact ⟨0, rfl, rfl, by omega, rfl⟩
        rintro K fr σ ⟨i, rfl, rfl, hi, rfl⟩
        have hq := rdF_le (e := none) l3 i
        refine W.ite (fun c1 => ?_) (fun c1 => ?_)
        · have hil : i < N := by have := of_decide_eq_true c1; omega
          have kT2 := ok33 s (rdF s i a3 none).2.1 (rdF s i a3 none).2.2 1970 (rdF_okE o3 i) (by decide) (by decide) hq.1 (by omega)
          refine W.pure kT2 rfl rfl ?_
          refine W.alt_l ?_
          refine W.need ⟨rfl, rfl, rfl, by (try simp only [List.length_nil] at *); omega, by (try simp only [List.length_nil] at *); omega, by intro c hc; rw [List.mem_singleton] at hc; subst hc; rfl⟩ ?_
          refine W.ret ⟨_, _, _, ?_, Trim.of [2, 4, 5, 7, 8, 9] [0, 1, 2, 3] (by decide) (by simp) (tr3 rfl), i + 1, ?_, ?_, by omega, rfl⟩
          · omega
          · rw [← wrapS (by omega)]; rfl
          · rw [show (rdF s (i + 1) a3 none).1 = (rdF s i a3 none).1 ++ [(readT s (rdF s i a3 none).2.1 (rdF s i a3 none).2.2 1970).1] from rfl, flat_append]; rfl
        · have hil : N = i := by have := of_decide_eq_false c1; omega
          subst hil
          refine W.ret ?_
          have oF := rdF_okE (s := s) (a := a3) o3 N
          have hr : rawM s = some (⟨1, g, (n == -1), (rdF s N a3 none).1, 0, 0, 0, [], mt⟩, (rdF s N a3 none).2) := hraw
          generalize rdF s N a3 none = F at *
          obtain ⟨f, b, e⟩ := F
          dsimp only at hr hq oF
          have hfl : f.length = N := hq.2
          repeat (first | refine W.ite_t rfl ?_ | refine W.ite_f rfl ?_)
          have kD := ok35 s b e oF
          have hdE := doneE_okE (s := s) (a := b) oF
          generalize hE : doneE s b e = E at *
          refine W.pure kD rfl rfl ?_
          cases E with
          | some x =>
            have hx : (x.2 != 0) = true := by have h : x.2 ≠ 0 := hdE; simpa using h
            refine W.ite_t hx ?_
            repeat (first | refine W.ite_t rfl ?_ | refine W.ite_f rfl ?_)
            refine W.ret (RetQ.part [] (by decide) (by simp) (by simp) ⟨?_, rfl⟩)
            rw [readM_bad h1 hr hE, codeM_bad h1 hr hE]
            rfl
          | none =>
            repeat (first | refine W.ite_t rfl ?_ | refine W.ite_f rfl ?_)
            have kC : Go.Am.Pure Tryd.prog 12 [.d (.agg [nI 1, sD g, .lit (.bool (n == -1)), .sl N ((flat sC f).take (N * 1)), nI 0, nI 0, nI 0, .sl 0 [], sD mt])] (.d (nI (checkB ⟨1, g, (n == -1), f, 0, 0, 0, [], mt⟩))) := by rw [slCut hfl]; exact ok12 ⟨1, g, (n == -1), f, 0, 0, 0, [], mt⟩
            rcases checkB_cases ⟨1, g, (n == -1), f, 0, 0, 0, [], mt⟩ with hc | hc | hc
            · rw [hc] at kC
              refine W.callF [] [.var zC, .var [.d (sD s), .d (nI b), .d (nI (Co.errC e))], .var [.d (nI 1), .d (sD g), .d (.lit (.bool (n == -1))), .vec 3 N, .d (nI 0), .d (nI 0), .d (nI 0), nilA, .d (sD mt)], .vec 1 N (flat sC f)] (x2 := .d (nI 0)) (CallOk.softA (args := [.d (.agg [nI 1, sD g, .lit (.bool (n == -1)), .sl N ((flat sC f).take (N * 1)), nI 0, nI 0, nI 0, nilD, sD mt])]) kC) (by decide) rfl rfl rfl rfl rfl rfl ?_
              repeat (first | refine W.ite_t rfl ?_ | refine W.ite_f rfl ?_)
              refine W.ret (RetQ.part [] (by decide) (by simp) (by simp) ⟨?_, rfl⟩)
              rw [codeM_good h1 hr hE, hc]
              rw [readM_good h1 hr hE hc]
              show AV.tuple [.d (.agg [nI 1, sD g, .lit (.bool (n == -1)), .sl N ((flat sC f).take (N * 1)), nI 0, nI 0, nI 0, .sl 0 [], sD mt]), .d (nI 0)] = _
              rw [slCut hfl]; rfl
            · rw [hc] at kC
              refine W.callF [] [.var zC, .var [.d (sD s), .d (nI b), .d (nI (Co.errC e))], .var [.d (nI 1), .d (sD g), .d (.lit (.bool (n == -1))), .vec 3 N, .d (nI 0), .d (nI 0), .d (nI 0), nilA, .d (sD mt)], .vec 1 N (flat sC f)] (x2 := .d (nI 1)) (CallOk.softA (args := [.d (.agg [nI 1, sD g, .lit (.bool (n == -1)), .sl N ((flat sC f).take (N * 1)), nI 0, nI 0, nI 0, nilD, sD mt])]) kC) (by decide) rfl rfl rfl rfl rfl rfl ?_
              repeat (first | refine W.ite_t rfl ?_ | refine W.ite_f rfl ?_)
              refine W.ret (RetQ.part [] (by decide) (by simp) (by simp) ⟨?_, rfl⟩)
              rw [codeM_good h1 hr hE, hc]
              rw [readM_check h1 hr hE hc (by decide)]
              rfl
            · rw [hc] at kC
              refine W.callF [] [.var zC, .var [.d (sD s), .d (nI b), .d (nI (Co.errC e))], .var [.d (nI 1), .d (sD g), .d (.lit (.bool (n == -1))), .vec 3 N, .d (nI 0), .d (nI 0), .d (nI 0), nilA, .d (sD mt)], .vec 1 N (flat sC f)] (x2 := .d (nI 11)) (CallOk.softA (args := [.d (.agg [nI 1, sD g, .lit (.bool (n == -1)), .sl N ((flat sC f).take (N * 1)), nI 0, nI 0, nI 0, nilD, sD mt])]) kC) (by decide) rfl rfl rfl rfl rfl rfl ?_
              repeat (first | refine W.ite_t rfl ?_ | refine W.ite_f rfl ?_)
              refine W.ret (RetQ.part [] (by decide) (by simp) (by simp) ⟨?_, rfl⟩)
              rw [codeM_good h1 hr hE, hc]
              rw [readM_check h1 hr hE hc (by decide)]
              rfl
  have f1 : (k == 1) = false := by simpa using k1
  rw [if_neg k1] at hraw
  refine W.ite_f f1 ?_
  by_cases k5 : k = 5
  · subst k5
    rw [if_pos rfl] at hraw
    unfold raw5 at hraw
    have k6 := ok31 s a e o2 (by omega)
    have l6 := readI_le (s := s) (a := a) (e := e) l2
    have o6 := readI_okE (s := s) (a := a) o2
    generalize readI s a e = X at *
    obtain ⟨p, a6, e6⟩ := X
    dsimp only at hraw l6 o6
    have k7 := ok31 s a6 e6 o6 (by omega)
    have l7 := readI_le (s := s) (a := a6) (e := e6) l6
    have o7 := readI_okE (s := s) (a := a6) o6
    generalize readI s a6 e6 = X at *
    obtain ⟨q, a7, e7⟩ := X
    dsimp only at hraw l7 o7
    repeat (first | refine W.ite_t rfl ?_ | refine W.ite_f rfl ?_)
    refine W.pure k6 rfl rfl ?_
    refine W.pure k7 rfl rfl ?_
    repeat (first | refine W.ite_t rfl ?_ | refine W.ite_f rfl ?_)
    have kD := ok35 s a7 e7 o7
    have hdE := doneE_okE (s := s) (a := a7) o7
    generalize hE : doneE s a7 e7 = E at *
    refine W.pure kD rfl rfl ?_
    cases E with
    | some x =>
      have hx : (x.2 != 0) = true := by have h : x.2 ≠ 0 := hdE; simpa using h
      refine W.ite_t hx ?_
      repeat (first | refine W.ite_t rfl ?_ | refine W.ite_f rfl ?_)
      refine W.ret (RetQ.part [] (by decide) (by simp) (by simp) ⟨?_, rfl⟩)
      rw [readM_bad h1 hraw hE, codeM_bad h1 hraw hE]
      rfl
    | none =>
      repeat (first | refine W.ite_t rfl ?_ | refine W.ite_f rfl ?_)
      have kC : Go.Am.Pure Tryd.prog 12 [.d (.agg [nI 5, sD g, .lit (.bool false), .sl 0 [], nI p, nI q, nI 0, .sl 0 [], sD mt])] (.d (nI (checkB ⟨5, g, false, [], p, q, 0, [], mt⟩))) := by exact ok12 ⟨5, g, false, [], p, q, 0, [], mt⟩
      rcases checkB_cases ⟨5, g, false, [], p, q, 0, [], mt⟩ with hc | hc | hc
      · rw [hc] at kC
        refine W.pure (CallOk.softA (args := [.d (.agg [nI 5, sD g, .lit (.bool false), nilD, nI p, nI q, nI 0, nilD, sD mt])]) kC) rfl rfl ?_
        repeat (first | refine W.ite_t rfl ?_ | refine W.ite_f rfl ?_)
        refine W.ret (RetQ.part [] (by decide) (by simp) (by simp) ⟨?_, rfl⟩)
        rw [codeM_good h1 hraw hE, hc]
        rw [readM_good h1 hraw hE hc]
        show AV.tuple [.d (.agg [nI 5, sD g, .lit (.bool false), .sl 0 [], nI p, nI q, nI 0, .sl 0 [], sD mt]), .d (nI 0)] = _
        rfl
      · rw [hc] at kC
        refine W.pure (CallOk.softA (args := [.d (.agg [nI 5, sD g, .lit (.bool false), nilD, nI p, nI q, nI 0, nilD, sD mt])]) kC) rfl rfl ?_
        repeat (first | refine W.ite_t rfl ?_ | refine W.ite_f rfl ?_)
        refine W.ret (RetQ.part [] (by decide) (by simp) (by simp) ⟨?_, rfl⟩)
        rw [codeM_good h1 hraw hE, hc]
        rw [readM_check h1 hraw hE hc (by decide)]
        rfl
      · rw [hc] at kC
        refine W.pure (CallOk.softA (args := [.d (.agg [nI 5, sD g, .lit (.bool false), nilD, nI p, nI q, nI 0, nilD, sD mt])]) kC) rfl rfl ?_
        repeat (first | refine W.ite_t rfl ?_ | refine W.ite_f rfl ?_)
        refine W.ret (RetQ.part [] (by decide) (by simp) (by simp) ⟨?_, rfl⟩)
        rw [codeM_good h1 hraw hE, hc]
        rw [readM_check h1 hraw hE hc (by decide)]
        rfl
  rw [if_neg k5] at hraw
  have f5 : (k == 5) = false := by simpa using k5
  by_cases k34 : k = 3 ∨ k = 4
  · rw [if_pos k34] at hraw
    unfold raw34 at hraw
    have k6 := ok31 s a e o2 (by omega)
    have l6 := readI_le (s := s) (a := a) (e := e) l2
    have o6 := readI_okE (s := s) (a := a) o2
    generalize readI s a e = X at *
    obtain ⟨p, a6, e6⟩ := X
    dsimp only at hraw l6 o6
    have k7 := ok31 s a6 e6 o6 (by omega)
    have l7 := readI_le (s := s) (a := a6) (e := e6) l6
    have o7 := readI_okE (s := s) (a := a6) o6
    generalize readI s a6 e6 = X at *
    obtain ⟨q, a7, e7⟩ := X
    dsimp only at hraw l7 o7
    have k8 := ok31 s a7 e7 o7 (by omega)
    have l8 := readI_le (s := s) (a := a7) (e := e7) l7
    have o8 := readI_okE (s := s) (a := a7) o7
    generalize readI s a7 e7 = X at *
    obtain ⟨h, a8, e8⟩ := X
    dsimp only at hraw l8 o8
    have k9 := ok34 s a8 e8 5 o8 (by omega)
    have l9 := readB_le (s := s) (a := a8) (e := e8) (most := 5) l8
    have o9 := readB_okE (s := s) (a := a8) (m := 5) o8
    have r9 := @readB_r s a8 e8
    generalize readB s a8 e8 5 = X at *
    obtain ⟨n, a9, e9⟩ := X
    dsimp only at hraw l9 r9 o9
    obtain ⟨N, rfl⟩ : ∃ N : Nat, n = (N : Int) := ⟨n.toNat, by omega⟩
    rw [Int.toNat_natCast] at hraw
    rcases k34 with rfl | rfl
    · skip
      repeat (first | refine W.ite_t rfl ?_ | refine W.ite_f rfl ?_)
      refine W.pure k6 rfl rfl ?_
      refine W.pure k7 rfl rfl ?_
      repeat (first | refine W.ite_t rfl ?_ | refine W.ite_f rfl ?_)
      refine W.pure k8 rfl rfl ?_
      refine W.pure k9 rfl rfl ?_
      refine W.loop (fun K fr σ => ∃ i : Nat, fr = [(2, .ptr 0 0), (4, .ptr 1 0), (7, .ptr 2 0), (19, .d (nI N)), (20, .d (nI i))] ∧ σ = [.var zC, .var [.d (sD s), .d (nI (rdV s i a9 e9).2.1), .d (nI (Co.errC (rdV s i a9 e9).2.2))], .var [.d (nI 3), .d (sD g), .d (.lit (.bool false)), nilA, .d (nI p), .d (nI q), .d (nI h), .vec 7 i, .d (sD mt)], .var [.d (sD s), .d (nI a6), .d (nI (Co.errC e6))], .var [.d (sD s), .d (nI a7), .d (nI (Co.errC e7))], .var [.d (sD s), .d (nI a8), .d (nI (Co.errC e8))], .var [.d (sD s), .d (nI a9), .d (nI (Co.errC e9))], .vec 2 i (flat vC (rdV s i a9 e9).1)] ∧ i ≤ N ∧ K = N - i) N
        (Start.trans (Start.nil 2 7 2 rfl rfl) (Start.of [2, 4, 7, 19, 20] [] (by simp))) ?_ ?_
      · exact ⟨0, rfl, rfl, by omega, rfl⟩
      rintro K fr σ ⟨i, rfl, rfl, hi, rfl⟩
      have hq := rdV_le (e := e9) l9 i
      have oV := rdV_okE (s := s) (a := a9) o9 i
      refine W.ite (fun c1 => ?_) (fun c1 => ?_)
      · have hil : i < N := by have := of_decide_eq_true c1; omega
        have kA := ok31 s (rdV s i a9 e9).2.1 (rdV s i a9 e9).2.2 oV (by omega)
        have lA := readI_le (s := s) (a := (rdV s i a9 e9).2.1) (e := (rdV s i a9 e9).2.2) hq.1
        have oA := readI_okE (s := s) (a := (rdV s i a9 e9).2.1) oV
        have hst : rdV s (i + 1) a9 e9 = ((rdV s i a9 e9).1 ++ [((readI s (rdV s i a9 e9).2.1 (rdV s i a9 e9).2.2).1, (readT s (readI s (rdV s i a9 e9).2.1 (rdV s i a9 e9).2.2).2.1 (readI s (rdV s i a9 e9).2.1 (rdV s i a9 e9).2.2).2.2 1970).1)],
            (readT s (readI s (rdV s i a9 e9).2.1 (rdV s i a9 e9).2.2).2.1 (readI s (rdV s i a9 e9).2.1 (rdV s i a9 e9).2.2).2.2 1970).2) := rfl
        generalize readI s (rdV s i a9 e9).2.1 (rdV s i a9 e9).2.2 = A at *
        obtain ⟨x, aA, eA⟩ := A
        dsimp only at hst lA oA
        have kB := ok33 s aA eA 1970 oA (by decide) (by decide) lA (by omega)
        generalize readT s aA eA 1970 = B at *
        obtain ⟨t, aB, eB⟩ := B
        dsimp only at hst
        refine W.pure kA rfl rfl ?_
        refine W.pure kB rfl rfl ?_
        refine W.alt_l ?_
        refine W.need ⟨rfl, rfl, rfl, by (try simp only [List.length_nil] at *); omega, by (try simp only [List.length_nil] at *); omega, by intro c hc; simp only [List.mem_cons, List.not_mem_nil, or_false] at hc; rcases hc with rfl | rfl <;> rfl⟩ ?_
        refine W.ret ⟨_, _, _, ?_, Trim.of [2, 4, 7, 19, 20] [0, 1, 2, 3, 4, 5, 6, 7] (by decide) (by simp) (tr7 rfl), i + 1, ?_, ?_, by omega, rfl⟩
        · omega
        · rw [← wrapS (by omega)]; rfl
        · rw [hst]; dsimp only; rw [flat_append]; rfl
      · have hil : N = i := by have := of_decide_eq_false c1; omega
        subst hil
        refine W.ret ?_
        have kT9 := ok33 s (rdV s N a9 e9).2.1 (rdV s N a9 e9).2.2 1970 oV (by decide) (by decide) hq.1 (by omega)
        have oT := readT_okE (s := s) (a := (rdV s N a9 e9).2.1) (m := 1970) oV
        generalize rdV s N a9 e9 = V at *
        obtain ⟨v, aV, eV⟩ := V
        dsimp only at hraw hq oT
        have hvl : v.length = N := hq.2
        generalize readT s aV eV 1970 = B at *
        obtain ⟨t, b, e⟩ := B
        dsimp only at hraw oT
        refine W.pure kT9 rfl rfl ?_
        repeat (first | refine W.ite_t rfl ?_ | refine W.ite_f rfl ?_)
        have kD := ok35 s b e oT
        have hdE := doneE_okE (s := s) (a := b) oT
        generalize hE : doneE s b e = E at *
        refine W.pure kD rfl rfl ?_
        cases E with
        | some x =>
          have hx : (x.2 != 0) = true := by have h : x.2 ≠ 0 := hdE; simpa using h
          refine W.ite_t hx ?_
          repeat (first | refine W.ite_t rfl ?_ | refine W.ite_f rfl ?_)
          refine W.ret (RetQ.part [] (by decide) (by simp) (by simp) ⟨?_, rfl⟩)
          rw [readM_bad h1 hraw hE, codeM_bad h1 hraw hE]
          rfl
        | none =>
          repeat (first | refine W.ite_t rfl ?_ | refine W.ite_f rfl ?_)
          have kC : Go.Am.Pure Tryd.prog 12 [.d (.agg [nI 3, sD g, .lit (.bool false), .sl 0 [], nI p, nI q, nI h, .sl N ((flat vC v).take (N * 2)), sD t])] (.d (nI (checkB ⟨3, g, false, [], p, q, h, v, t⟩))) := by rw [slvCut hvl]; exact ok12 ⟨3, g, false, [], p, q, h, v, t⟩
          rcases checkB_cases ⟨3, g, false, [], p, q, h, v, t⟩ with hc | hc | hc
          · rw [hc] at kC
            refine W.callF [] [.var zC, .var [.d (sD s), .d (nI b), .d (nI (Co.errC e))], .var [.d (nI 3), .d (sD g), .d (.lit (.bool false)), nilA, .d (nI p), .d (nI q), .d (nI h), .vec 7 N, .d (sD t)], .var [.d (sD s), .d (nI a6), .d (nI (Co.errC e6))], .var [.d (sD s), .d (nI a7), .d (nI (Co.errC e7))], .var [.d (sD s), .d (nI a8), .d (nI (Co.errC e8))], .var [.d (sD s), .d (nI a9), .d (nI (Co.errC e9))], .vec 2 N (flat vC v), .var [.d (sD s), .d (nI b), .d (nI (Co.errC e))]] (x2 := .d (nI 0)) (CallOk.softA (args := [.d (.agg [nI 3, sD g, .lit (.bool false), nilD, nI p, nI q, nI h, .sl N ((flat vC v).take (N * 2)), sD t])]) kC) (by decide) rfl rfl rfl rfl rfl rfl ?_
            repeat (first | refine W.ite_t rfl ?_ | refine W.ite_f rfl ?_)
            refine W.ret (RetQ.part [] (by decide) (by simp) (by simp) ⟨?_, rfl⟩)
            rw [codeM_good h1 hraw hE, hc]
            rw [readM_good h1 hraw hE hc]
            show AV.tuple [.d (.agg [nI 3, sD g, .lit (.bool false), .sl 0 [], nI p, nI q, nI h, .sl N ((flat vC v).take (N * 2)), sD t]), .d (nI 0)] = _
            rw [slvCut hvl]; rfl
          · rw [hc] at kC
            refine W.callF [] [.var zC, .var [.d (sD s), .d (nI b), .d (nI (Co.errC e))], .var [.d (nI 3), .d (sD g), .d (.lit (.bool false)), nilA, .d (nI p), .d (nI q), .d (nI h), .vec 7 N, .d (sD t)], .var [.d (sD s), .d (nI a6), .d (nI (Co.errC e6))], .var [.d (sD s), .d (nI a7), .d (nI (Co.errC e7))], .var [.d (sD s), .d (nI a8), .d (nI (Co.errC e8))], .var [.d (sD s), .d (nI a9), .d (nI (Co.errC e9))], .vec 2 N (flat vC v), .var [.d (sD s), .d (nI b), .d (nI (Co.errC e))]] (x2 := .d (nI 1)) (CallOk.softA (args := [.d (.agg [nI 3, sD g, .lit (.bool false), nilD, nI p, nI q, nI h, .sl N ((flat vC v).take (N * 2)), sD t])]) kC) (by decide) rfl rfl rfl rfl rfl rfl ?_
            repeat (first | refine W.ite_t rfl ?_ | refine W.ite_f rfl ?_)
            refine W.ret (RetQ.part [] (by decide) (by simp) (by simp) ⟨?_, rfl⟩)
            rw [codeM_good h1 hraw hE, hc]
            rw [readM_check h1 hraw hE hc (by decide)]
            rfl
          · rw [hc] at kC
            refine W.callF [] [.var zC, .var [.d (sD s), .d (nI b), .d (nI (Co.errC e))], .var [.d (nI 3), .d (sD g), .d (.lit (.bool false)), nilA, .d (nI p), .d (nI q), .d (nI h), .vec 7 N, .d (sD t)], .var [.d (sD s), .d (nI a6), .d (nI (Co.errC e6))], .var [.d (sD s), .d (nI a7), .d (nI (Co.errC e7))], .var [.d (sD s), .d (nI a8), .d (nI (Co.errC e8))], .var [.d (sD s), .d (nI a9), .d (nI (Co.errC e9))], .vec 2 N (flat vC v), .var [.d (sD s), .d (nI b), .d (nI (Co.errC e))]] (x2 := .d (nI 11)) (CallOk.softA (args := [.d (.agg [nI 3, sD g, .lit (.bool false), nilD, nI p, nI q, nI h, .sl N ((flat vC v).take (N * 2)), sD t])]) kC) (by decide) rfl rfl rfl rfl rfl rfl ?_
            repeat (first | refine W.ite_t rfl ?_ | refine W.ite_f rfl ?_)
            refine W.ret (RetQ.part [] (by decide) (by simp) (by simp) ⟨?_, rfl⟩)
            rw [codeM_good h1 hraw hE, hc]
            rw [readM_check h1 hraw hE hc (by decide)]
            rfl
    · skip
      repeat (first | refine W.ite_t rfl ?_ | refine W.ite_f rfl ?_)
      refine W.pure k6 rfl rfl ?_
      refine W.pure k7 rfl rfl ?_
      repeat (first | refine W.ite_t rfl ?_ | refine W.ite_f rfl ?_)
      refine W.pure k8 rfl rfl ?_
      refine W.pure k9 rfl rfl ?_
      refine W.loop (fun K fr σ => ∃ i : Nat, fr = [(2, .ptr 0 0), (4, .ptr 1 0), (7, .ptr 2 0), (19, .d (nI N)), (20, .d (nI i))] ∧ σ = [.var zC, .var [.d (sD s), .d (nI (rdV s i a9 e9).2.1), .d (nI (Co.errC (rdV s i a9 e9).2.2))], .var [.d (nI 4), .d (sD g), .d (.lit (.bool false)), nilA, .d (nI p), .d (nI q), .d (nI h), .vec 7 i, .d (sD mt)], .var [.d (sD s), .d (nI a6), .d (nI (Co.errC e6))], .var [.d (sD s), .d (nI a7), .d (nI (Co.errC e7))], .var [.d (sD s), .d (nI a8), .d (nI (Co.errC e8))], .var [.d (sD s), .d (nI a9), .d (nI (Co.errC e9))], .vec 2 i (flat vC (rdV s i a9 e9).1)] ∧ i ≤ N ∧ K = N - i) N
        (Start.trans (Start.nil 2 7 2 rfl rfl) (Start.of [2, 4, 7, 19, 20] [] (by simp))) ?_ ?_
      · exact ⟨0, rfl, rfl, by omega, rfl⟩
      rintro K fr σ ⟨i, rfl, rfl, hi, rfl⟩
      have hq := rdV_le (e := e9) l9 i
      have oV := rdV_okE (s := s) (a := a9) o9 i
      refine W.ite (fun c1 => ?_) (fun c1 => ?_)
      · have hil : i < N := by have := of_decide_eq_true c1; omega
        have kA := ok31 s (rdV s i a9 e9).2.1 (rdV s i a9 e9).2.2 oV (by omega)
        have lA := readI_le (s := s) (a := (rdV s i a9 e9).2.1) (e := (rdV s i a9 e9).2.2) hq.1
        have oA := readI_okE (s := s) (a := (rdV s i a9 e9).2.1) oV
        have hst : rdV s (i + 1) a9 e9 = ((rdV s i a9 e9).1 ++ [((readI s (rdV s i a9 e9).2.1 (rdV s i a9 e9).2.2).1, (readT s (readI s (rdV s i a9 e9).2.1 (rdV s i a9 e9).2.2).2.1 (readI s (rdV s i a9 e9).2.1 (rdV s i a9 e9).2.2).2.2 1970).1)],
            (readT s (readI s (rdV s i a9 e9).2.1 (rdV s i a9 e9).2.2).2.1 (readI s (rdV s i a9 e9).2.1 (rdV s i a9 e9).2.2).2.2 1970).2) := rfl
        generalize readI s (rdV s i a9 e9).2.1 (rdV s i a9 e9).2.2 = A at *
        obtain ⟨x, aA, eA⟩ := A
        dsimp only at hst lA oA
        have kB := ok33 s aA eA 1970 oA (by decide) (by decide) lA (by omega)
        generalize readT s aA eA 1970 = B at *
        obtain ⟨t, aB, eB⟩ := B
        dsimp only at hst
        refine W.pure kA rfl rfl ?_
        refine W.pure kB rfl rfl ?_
        refine W.alt_l ?_
        refine W.need ⟨rfl, rfl, rfl, by (try simp only [List.length_nil] at *); omega, by (try simp only [List.length_nil] at *); omega, by intro c hc; simp only [List.mem_cons, List.not_mem_nil, or_false] at hc; rcases hc with rfl | rfl <;> rfl⟩ ?_
        refine W.ret ⟨_, _, _, ?_, Trim.of [2, 4, 7, 19, 20] [0, 1, 2, 3, 4, 5, 6, 7] (by decide) (by simp) (tr7 rfl), i + 1, ?_, ?_, by omega, rfl⟩
        · omega
        · rw [← wrapS (by omega)]; rfl
        · rw [hst]; dsimp only; rw [flat_append]; rfl
      · have hil : N = i := by have := of_decide_eq_false c1; omega
        subst hil
        refine W.ret ?_
        have kT9 := ok33 s (rdV s N a9 e9).2.1 (rdV s N a9 e9).2.2 1970 oV (by decide) (by decide) hq.1 (by omega)
        have oT := readT_okE (s := s) (a := (rdV s N a9 e9).2.1) (m := 1970) oV
        generalize rdV s N a9 e9 = V at *
        obtain ⟨v, aV, eV⟩ := V
        dsimp only at hraw hq oT
        have hvl : v.length = N := hq.2
        generalize readT s aV eV 1970 = B at *
        obtain ⟨t, b, e⟩ := B
        dsimp only at hraw oT
        refine W.pure kT9 rfl rfl ?_
        repeat (first | refine W.ite_t rfl ?_ | refine W.ite_f rfl ?_)
        have kD := ok35 s b e oT
        have hdE := doneE_okE (s := s) (a := b) oT
        generalize hE : doneE s b e = E at *
        refine W.pure kD rfl rfl ?_
        cases E with
        | some x =>
          have hx : (x.2 != 0) = true := by have h : x.2 ≠ 0 := hdE; simpa using h
          refine W.ite_t hx ?_
          repeat (first | refine W.ite_t rfl ?_ | refine W.ite_f rfl ?_)
          refine W.ret (RetQ.part [] (by decide) (by simp) (by simp) ⟨?_, rfl⟩)
          rw [readM_bad h1 hraw hE, codeM_bad h1 hraw hE]
          rfl
        | none =>
          repeat (first | refine W.ite_t rfl ?_ | refine W.ite_f rfl ?_)
          have kC : Go.Am.Pure Tryd.prog 12 [.d (.agg [nI 4, sD g, .lit (.bool false), .sl 0 [], nI p, nI q, nI h, .sl N ((flat vC v).take (N * 2)), sD t])] (.d (nI (checkB ⟨4, g, false, [], p, q, h, v, t⟩))) := by rw [slvCut hvl]; exact ok12 ⟨4, g, false, [], p, q, h, v, t⟩
          rcases checkB_cases ⟨4, g, false, [], p, q, h, v, t⟩ with hc | hc | hc
          · rw [hc] at kC
            refine W.callF [] [.var zC, .var [.d (sD s), .d (nI b), .d (nI (Co.errC e))], .var [.d (nI 4), .d (sD g), .d (.lit (.bool false)), nilA, .d (nI p), .d (nI q), .d (nI h), .vec 7 N, .d (sD t)], .var [.d (sD s), .d (nI a6), .d (nI (Co.errC e6))], .var [.d (sD s), .d (nI a7), .d (nI (Co.errC e7))], .var [.d (sD s), .d (nI a8), .d (nI (Co.errC e8))], .var [.d (sD s), .d (nI a9), .d (nI (Co.errC e9))], .vec 2 N (flat vC v), .var [.d (sD s), .d (nI b), .d (nI (Co.errC e))]] (x2 := .d (nI 0)) (CallOk.softA (args := [.d (.agg [nI 4, sD g, .lit (.bool false), nilD, nI p, nI q, nI h, .sl N ((flat vC v).take (N * 2)), sD t])]) kC) (by decide) rfl rfl rfl rfl rfl rfl ?_
            repeat (first | refine W.ite_t rfl ?_ | refine W.ite_f rfl ?_)
            refine W.ret (RetQ.part [] (by decide) (by simp) (by simp) ⟨?_, rfl⟩)
            rw [codeM_good h1 hraw hE, hc]
            rw [readM_good h1 hraw hE hc]
            show AV.tuple [.d (.agg [nI 4, sD g, .lit (.bool false), .sl 0 [], nI p, nI q, nI h, .sl N ((flat vC v).take (N * 2)), sD t]), .d (nI 0)] = _
            rw [slvCut hvl]; rfl
          · rw [hc] at kC
            refine W.callF [] [.var zC, .var [.d (sD s), .d (nI b), .d (nI (Co.errC e))], .var [.d (nI 4), .d (sD g), .d (.lit (.bool false)), nilA, .d (nI p), .d (nI q), .d (nI h), .vec 7 N, .d (sD t)], .var [.d (sD s), .d (nI a6), .d (nI (Co.errC e6))], .var [.d (sD s), .d (nI a7), .d (nI (Co.errC e7))], .var [.d (sD s), .d (nI a8), .d (nI (Co.errC e8))], .var [.d (sD s), .d (nI a9), .d (nI (Co.errC e9))], .vec 2 N (flat vC v), .var [.d (sD s), .d (nI b), .d (nI (Co.errC e))]] (x2 := .d (nI 1)) (CallOk.softA (args := [.d (.agg [nI 4, sD g, .lit (.bool false), nilD, nI p, nI q, nI h, .sl N ((flat vC v).take (N * 2)), sD t])]) kC) (by decide) rfl rfl rfl rfl rfl rfl ?_
            repeat (first | refine W.ite_t rfl ?_ | refine W.ite_f rfl ?_)
            refine W.ret (RetQ.part [] (by decide) (by simp) (by simp) ⟨?_, rfl⟩)
            rw [codeM_good h1 hraw hE, hc]
            rw [readM_check h1 hraw hE hc (by decide)]
            rfl
          · rw [hc] at kC
            refine W.callF [] [.var zC, .var [.d (sD s), .d (nI b), .d (nI (Co.errC e))], .var [.d (nI 4), .d (sD g), .d (.lit (.bool false)), nilA, .d (nI p), .d (nI q), .d (nI h), .vec 7 N, .d (sD t)], .var [.d (sD s), .d (nI a6), .d (nI (Co.errC e6))], .var [.d (sD s), .d (nI a7), .d (nI (Co.errC e7))], .var [.d (sD s), .d (nI a8), .d (nI (Co.errC e8))], .var [.d (sD s), .d (nI a9), .d (nI (Co.errC e9))], .vec 2 N (flat vC v), .var [.d (sD s), .d (nI b), .d (nI (Co.errC e))]] (x2 := .d (nI 11)) (CallOk.softA (args := [.d (.agg [nI 4, sD g, .lit (.bool false), nilD, nI p, nI q, nI h, .sl N ((flat vC v).take (N * 2)), sD t])]) kC) (by decide) rfl rfl rfl rfl rfl rfl ?_
            repeat (first | refine W.ite_t rfl ?_ | refine W.ite_f rfl ?_)
            refine W.ret (RetQ.part [] (by decide) (by simp) (by simp) ⟨?_, rfl⟩)
            rw [codeM_good h1 hraw hE, hc]
            rw [readM_check h1 hraw hE hc (by decide)]
            rfl
  rw [if_neg k34] at hraw
  by_cases k3 : k < 3
  · have f3 : decide (k ≥ 3) = false := decide_eq_false (by omega)
    have f4 : (k == 3) = false := by simp; omega
    have f6 : (k == 4) = false := by simp; omega
    repeat (first | refine W.ite_f f3 ?_ | refine W.ite_f f4 ?_ | refine W.ite_f f6 ?_ | refine W.ite_t rfl ?_ | refine W.ite_f rfl ?_)
    have kD := ok35 s a e o2
    have hdE := doneE_okE (s := s) (a := a) o2
    generalize hE : doneE s a e = E at *
    refine W.pure kD rfl rfl ?_
    cases E with
    | some x =>
      have hx : (x.2 != 0) = true := by have h : x.2 ≠ 0 := hdE; simpa using h
      refine W.ite_t hx ?_
      repeat (first | refine W.ite_t rfl ?_ | refine W.ite_f rfl ?_)
      refine W.ret (RetQ.part [] (by decide) (by simp) (by simp) ⟨?_, rfl⟩)
      rw [readM_bad h1 hraw hE, codeM_bad h1 hraw hE]
      rfl
    | none =>
      repeat (first | refine W.ite_t rfl ?_ | refine W.ite_f rfl ?_)
      have kC : Go.Am.Pure Tryd.prog 12 [.d (.agg [nI k, sD g, .lit (.bool false), .sl 0 [], nI 0, nI 0, nI 0, .sl 0 [], sD mt])] (.d (nI (checkB ⟨k, g, false, [], 0, 0, 0, [], mt⟩))) := by exact ok12 ⟨k, g, false, [], 0, 0, 0, [], mt⟩
      rcases checkB_cases ⟨k, g, false, [], 0, 0, 0, [], mt⟩ with hc | hc | hc
      · rw [hc] at kC
        refine W.pure (CallOk.softA (args := [.d (.agg [nI k, sD g, .lit (.bool false), nilD, nI 0, nI 0, nI 0, nilD, sD mt])]) kC) rfl rfl ?_
        repeat (first | refine W.ite_t rfl ?_ | refine W.ite_f rfl ?_)
        refine W.ret (RetQ.part [] (by decide) (by simp) (by simp) ⟨?_, rfl⟩)
        rw [codeM_good h1 hraw hE, hc]
        rw [readM_good h1 hraw hE hc]
        show AV.tuple [.d (.agg [nI k, sD g, .lit (.bool false), .sl 0 [], nI 0, nI 0, nI 0, .sl 0 [], sD mt]), .d (nI 0)] = _
        rfl
      · rw [hc] at kC
        refine W.pure (CallOk.softA (args := [.d (.agg [nI k, sD g, .lit (.bool false), nilD, nI 0, nI 0, nI 0, nilD, sD mt])]) kC) rfl rfl ?_
        repeat (first | refine W.ite_t rfl ?_ | refine W.ite_f rfl ?_)
        refine W.ret (RetQ.part [] (by decide) (by simp) (by simp) ⟨?_, rfl⟩)
        rw [codeM_good h1 hraw hE, hc]
        rw [readM_check h1 hraw hE hc (by decide)]
        rfl
      · rw [hc] at kC
        refine W.pure (CallOk.softA (args := [.d (.agg [nI k, sD g, .lit (.bool false), nilD, nI 0, nI 0, nI 0, nilD, sD mt])]) kC) rfl rfl ?_
        repeat (first | refine W.ite_t rfl ?_ | refine W.ite_f rfl ?_)
        refine W.ret (RetQ.part [] (by decide) (by simp) (by simp) ⟨?_, rfl⟩)
        rw [codeM_good h1 hraw hE, hc]
        rw [readM_check h1 hraw hE hc (by decide)]
        rfl
  · have f3 : decide (k ≥ 3) = true := decide_eq_true (by omega)
    have f7 : decide (k ≤ 5) = false := decide_eq_false (by omega)
    have f4 : (k == 3) = false := by simp; omega
    have f6 : (k == 4) = false := by simp; omega
    repeat (first | refine W.ite_t f3 ?_ | refine W.ite_f f7 ?_ | refine W.ite_f f4 ?_ | refine W.ite_f f6 ?_ | refine W.ite_t rfl ?_ | refine W.ite_f rfl ?_)
    have kD := ok35 s a e o2
    have hdE := doneE_okE (s := s) (a := a) o2
    generalize hE : doneE s a e = E at *
    refine W.pure kD rfl rfl ?_
    cases E with
    | some x =>
      have hx : (x.2 != 0) = true := by have h : x.2 ≠ 0 := hdE; simpa using h
      refine W.ite_t hx ?_
      repeat (first | refine W.ite_t rfl ?_ | refine W.ite_f rfl ?_)
      refine W.ret (RetQ.part [] (by decide) (by simp) (by simp) ⟨?_, rfl⟩)
      rw [readM_bad h1 hraw hE, codeM_bad h1 hraw hE]
      rfl
    | none =>
      repeat (first | refine W.ite_t rfl ?_ | refine W.ite_f rfl ?_)
      have kC : Go.Am.Pure Tryd.prog 12 [.d (.agg [nI k, sD g, .lit (.bool false), .sl 0 [], nI 0, nI 0, nI 0, .sl 0 [], sD mt])] (.d (nI (checkB ⟨k, g, false, [], 0, 0, 0, [], mt⟩))) := by exact ok12 ⟨k, g, false, [], 0, 0, 0, [], mt⟩
      rcases checkB_cases ⟨k, g, false, [], 0, 0, 0, [], mt⟩ with hc | hc | hc
      · rw [hc] at kC
        refine W.pure (CallOk.softA (args := [.d (.agg [nI k, sD g, .lit (.bool false), nilD, nI 0, nI 0, nI 0, nilD, sD mt])]) kC) rfl rfl ?_
        repeat (first | refine W.ite_t rfl ?_ | refine W.ite_f rfl ?_)
        refine W.ret (RetQ.part [] (by decide) (by simp) (by simp) ⟨?_, rfl⟩)
        rw [codeM_good h1 hraw hE, hc]
        rw [readM_good h1 hraw hE hc]
        show AV.tuple [.d (.agg [nI k, sD g, .lit (.bool false), .sl 0 [], nI 0, nI 0, nI 0, .sl 0 [], sD mt]), .d (nI 0)] = _
        rfl
      · rw [hc] at kC
        refine W.pure (CallOk.softA (args := [.d (.agg [nI k, sD g, .lit (.bool false), nilD, nI 0, nI 0, nI 0, nilD, sD mt])]) kC) rfl rfl ?_
        repeat (first | refine W.ite_t rfl ?_ | refine W.ite_f rfl ?_)
        refine W.ret (RetQ.part [] (by decide) (by simp) (by simp) ⟨?_, rfl⟩)
        rw [codeM_good h1 hraw hE, hc]
        rw [readM_check h1 hraw hE hc (by decide)]
        rfl
      · rw [hc] at kC
        refine W.pure (CallOk.softA (args := [.d (.agg [nI k, sD g, .lit (.bool false), nilD, nI 0, nI 0, nI 0, nilD, sD mt])]) kC) rfl rfl ?_
        repeat (first | refine W.ite_t rfl ?_ | refine W.ite_f rfl ?_)
        refine W.ret (RetQ.part [] (by decide) (by simp) (by simp) ⟨?_, rfl⟩)
        rw [codeM_good h1 hraw hE, hc]
        rw [readM_check h1 hraw hE hc (by decide)]
        rfl
end Go.Proofs.YtkdibdlbigmkcaaDoor.Ms
