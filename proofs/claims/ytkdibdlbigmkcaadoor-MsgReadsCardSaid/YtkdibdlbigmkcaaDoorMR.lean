import Derived.Test.YtkdibdlbigmkcaaDoorMB
set_option maxRecDepth 100000
set_option linter.unusedVariables false
set_option linter.unusedSimpArgs false
/- Layer 15: messages are read. -/
namespace Go.Proofs.YtkdibdlbigmkcaaDoor.Ms
open Go Go.Am Co
def od14 : Ords := [(13, [0, 1, 2, 3, 4, 1005, 6, 1007]), (23, [0, 1, 2, 3, 5, 4, 6, 7, 8, 1009, 10, 11, 1012])]
theorem code14 : codeB Tryd.f14.ntmps od14 (match Tryd.f14.body with | some c => c | none => .skip) = true := by kernel_rfl
theorem CallOk.softA {P : Program} {f : FuncId} {args : List AV} {σ : Store} {R : AV → Store → Prop} (h : CallOk P f (args.map AV.softS) σ R) : CallOk P f args σ R :=
  fun g w vs hw hv => h g w vs hw hv.softS
def rdF (s : ByteArray) : Nat → Nat → Err → List ByteArray × Nat × Err
  | 0, a, e => ([], a, e)
  | n + 1, a, e => ((rdF s n a e).1 ++ [(readT s (rdF s n a e).2.1 (rdF s n a e).2.2 1970).1], (readT s (rdF s n a e).2.1 (rdF s n a e).2.2 1970).2)
def rdV (s : ByteArray) : Nat → Nat → Err → List Vl × Nat × Err
  | 0, a, e => ([], a, e)
  | n + 1, a, e => ((rdV s n a e).1 ++ [((readI s (rdV s n a e).2.1 (rdV s n a e).2.2).1, (readT s (readI s (rdV s n a e).2.1 (rdV s n a e).2.2).2.1 (readI s (rdV s n a e).2.1 (rdV s n a e).2.2).2.2 1970).1)],
      (readT s (readI s (rdV s n a e).2.1 (rdV s n a e).2.2).2.1 (readI s (rdV s n a e).2.1 (rdV s n a e).2.2).2.2 1970).2)
theorem readI_le {s : ByteArray} {a : Nat} {e : Err} (h : a ≤ s.size) : (readI s a e).2.1 ≤ s.size := readN_le s a e h
theorem readT_le {s : ByteArray} {a : Nat} {e : Err} {most : Int} (h : a ≤ s.size) : (readT s a e most).2.1 ≤ s.size := by
  have := readN_le s a e h
  unfold readT
  generalize readN s a e = N at *
  obtain ⟨n, a', e'⟩ := N
  cases e' with
  | some x => exact this
  | none =>
    simp only at this ⊢
    generalize (if 0 > most then 0 else most) = M
    by_cases h1 : (n : Int) > M
    · rw [if_pos h1]; exact h
    · rw [if_neg h1]
      by_cases h2 : n > s.size - a'
      · rw [if_pos h2]; exact this
      · rw [if_neg h2]
        show a' + n ≤ s.size; omega
theorem readB_le {s : ByteArray} {a : Nat} {e : Err} {most : Int} (h : a ≤ s.size) : (readB s a e most).2.1 ≤ s.size := by
  have := readI_le (s := s) (a := a) (e := e) h
  unfold readB
  generalize readI s a e = N at *
  obtain ⟨n, a', e'⟩ := N
  cases e' with
  | some x => exact this
  | none => dsimp only; split <;> first | exact h | exact this
theorem rdF_le {s : ByteArray} {a : Nat} {e : Err} (h : a ≤ s.size) : ∀ n, (rdF s n a e).2.1 ≤ s.size ∧ (rdF s n a e).1.length = n
  | 0 => ⟨h, rfl⟩
  | n + 1 => ⟨readT_le (rdF_le h n).1, by simp [rdF, (rdF_le h n).2]⟩
theorem rdV_le {s : ByteArray} {a : Nat} {e : Err} (h : a ≤ s.size) : ∀ n, (rdV s n a e).2.1 ≤ s.size ∧ (rdV s n a e).1.length = n
  | 0 => ⟨h, rfl⟩
  | n + 1 => ⟨readT_le (readI_le (rdV_le h n).1), by simp [rdV, (rdV_le h n).2]⟩
theorem readI_r (s : ByteArray) (a : Nat) (e : Err) : R64 (readI s a e).1 := unzz_range (readN_lt s a e)
theorem readI_err {s : ByteArray} {a a' : Nat} {e : Err} {n : Int} {x : Nat × Int} (h : readI s a e = (n, a', some x)) : n = 0 := by
  unfold readI at h
  generalize hN : readN s a e = N at h
  obtain ⟨m, b, e'⟩ := N
  simp only [Prod.mk.injEq] at h
  obtain ⟨h1, h2, h3⟩ := h
  subst h3
  have := readN_err hN
  subst this
  rw [← h1]; rfl
theorem readB_r {s : ByteArray} {a : Nat} {e : Err} : 0 ≤ (readB s a e 5).1 ∧ (readB s a e 5).1 < 5 := by
  unfold readB
  generalize readI s a e = N
  obtain ⟨n, a', e'⟩ := N
  cases e' with
  | some x => dsimp only; omega
  | none =>
    dsimp only
    split
    · dsimp only; omega
    · dsimp only; omega
def zeroM : Mg := ⟨0, mt, false, [], 0, 0, 0, [], mt⟩
/-- What the bytes come to, and how far they were read. -/
def raw1 (s : ByteArray) (k : Int) (g : ByteArray) (a : Nat) (e : Err) : Option (Mg × Nat × Err) :=
  if (readI s a e).2.2 = none ∧ ((readI s a e).1 < -1 ∨ (readI s a e).1 > 16) then none
  else some (⟨k, g, (readI s a e).1 == -1, (rdF s (readI s a e).1.toNat (readI s a e).2.1 (readI s a e).2.2).1, 0, 0, 0, [], mt⟩, (rdF s (readI s a e).1.toNat (readI s a e).2.1 (readI s a e).2.2).2)
def raw5 (s : ByteArray) (k : Int) (g : ByteArray) (a : Nat) (e : Err) : Option (Mg × Nat × Err) :=
  some (⟨k, g, false, [], (readI s a e).1, (readI s (readI s a e).2.1 (readI s a e).2.2).1, 0, [], mt⟩, (readI s (readI s a e).2.1 (readI s a e).2.2).2)
def raw34 (s : ByteArray) (k : Int) (g : ByteArray) (p q : Int) (a : Nat) (e : Err) : Option (Mg × Nat × Err) :=
  let H := readI s a e
  let N := readB s H.2.1 H.2.2 5
  let V := rdV s N.1.toNat N.2.1 N.2.2
  let T := readT s V.2.1 V.2.2 1970
  some (⟨k, g, false, [], p, q, H.1, V.1, T.1⟩, T.2)
def rawB (s : ByteArray) (k : Int) (g : ByteArray) (a : Nat) (e : Err) : Option (Mg × Nat × Err) :=
  if k = 1 then raw1 s k g a e
  else if k = 5 then raw5 s k g a e
  else if k = 3 ∨ k = 4 then raw34 s k g (readI s a e).1 (readI s (readI s a e).2.1 (readI s a e).2.2).1 (readI s (readI s a e).2.1 (readI s a e).2.2).2.1 (readI s (readI s a e).2.1 (readI s a e).2.2).2.2
  else some (⟨k, g, false, [], 0, 0, 0, [], mt⟩, a, e)
def rawM (s : ByteArray) : Option (Mg × Nat × Err) :=
  let K := readI s 0 none
  let G := readT s K.2.1 K.2.2 40
  rawB s K.1 G.1 G.2.1 G.2.2
def readM (s : ByteArray) : Mg × D :=
  if s.size > 1970 then (zeroM, ftD msgW 0 4)
  else match rawM s with
    | none => (zeroM, ftD msgW 0 11)
    | some (m, a, e) => match doneE s a e with
      | some x => (zeroM, errD (some x))
      | none => if checkB m ≠ 0 then (zeroM, errC (checkB m)) else (m, .lit .nilIface)
theorem readM_big {s : ByteArray} (h : s.size > 1970) : readM s = (zeroM, ftD msgW 0 4) := if_pos h
theorem readM_none {s : ByteArray} (h : ¬ s.size > 1970) (hr : rawM s = none) : readM s = (zeroM, ftD msgW 0 11) := by
  unfold readM; rw [if_neg h, hr]
theorem readM_bad {s : ByteArray} (h : ¬ s.size > 1970) {m : Mg} {a : Nat} {e : Err} {x : Nat × Int} (hr : rawM s = some (m, a, e)) (hE : doneE s a e = some x) : readM s = (zeroM, errD (some x)) := by
  unfold readM; rw [if_neg h, hr]; dsimp only; rw [hE]
theorem readM_good {s : ByteArray} (h : ¬ s.size > 1970) {m : Mg} {a : Nat} {e : Err} (hr : rawM s = some (m, a, e)) (hE : doneE s a e = none) (hc : checkB m = 0) : readM s = (m, .lit .nilIface) := by
  unfold readM; rw [if_neg h, hr]; dsimp only; rw [hE]; dsimp only; rw [if_neg (by omega)]
theorem readM_check {s : ByteArray} (h : ¬ s.size > 1970) {m : Mg} {a : Nat} {e : Err} {c : Int} (hr : rawM s = some (m, a, e)) (hE : doneE s a e = none) (hc : checkB m = c) (h0 : c ≠ 0) : readM s = (zeroM, errC c) := by
  unfold readM; rw [if_neg h, hr]; dsimp only; rw [hE]; dsimp only; rw [if_pos (by omega), hc]
abbrev nilA : AV := .d (.lit (.slice none 0 0))
abbrev nilD : D := .lit (.slice none 0 0)
abbrev zC : List AV := [.d (nI 0), .d (sD mt), .d (.lit (.bool false)), nilA, .d (nI 0), .d (nI 0), .d (nI 0), nilA, .d (sD mt)]
abbrev rdA (r : Mg × D) : AV := .tuple [mgG r.1, .d r.2]
theorem slCut {l : List ByteArray} {n : Nat} (h : l.length = n) : D.sl n ((flat sC l).take (n * 1)) = .sl l.length (flat sC l) := by subst h; rw [flat_all sC_len]
theorem slvCut {l : List Vl} {n : Nat} (h : l.length = n) : D.sl n ((flat vC l).take (n * 2)) = .sl l.length (flat vC l) := by subst h; rw [flat_all vC_len]
theorem sl_all (l : List ByteArray) : D.sl l.length ((flat sC l).take (l.length * 1)) = .sl l.length (flat sC l) := by rw [flat_all sC_len]
theorem slv_all (l : List Vl) : D.sl l.length ((flat vC l).take (l.length * 2)) = .sl l.length (flat vC l) := by rw [flat_all vC_len]
theorem tr4 {T : List Nat} {n : Nat} (h : n = 4) : ∀ i, i < n → (0 :: 1 :: 2 :: 3 :: T)[i]? = some i := fun i hi => by
  have : i = 0 ∨ i = 1 ∨ i = 2 ∨ i = 3 := by omega
  rcases this with rfl | rfl | rfl | rfl <;> rfl
set_option maxHeartbeats 16000000 in
theorem ok14 (s : ByteArray) (hs : s.size ≤ 1000000) : Go.Am.Pure Tryd.prog 14 [.d (sD s)] (rdA (readM s)) := by
  refine CallOk.softG (R := fun v σ => v = rdA (readM s) ∧ σ = []) ?_
  refine CallOk.of tysOk mixed od14 Tryd.func14 rfl rfl code14 ?_
  refine W.ite (fun c1 => ?_) (fun c1 => ?_)
  · have h1 : s.size > 1970 := by have := of_decide_eq_true c1; omega
    refine W.pure (ok21 4) rfl rfl ?_
    refine W.ret (RetQ.part [] (by decide) (by simp) (by simp) ⟨?_, rfl⟩)
    rw [readM_big h1]
    rfl
  have h1 : ¬ s.size > 1970 := by have := of_decide_eq_false c1; omega
  refine W.callF [] [.var zC, .var [.d (sD s), .d (nI 0), .d (.lit .nilIface)]] (x2 := .ptr 1 0) (ok25 s) (by decide) rfl rfl rfl rfl rfl rfl ?_
  have hraw : rawM s = rawB s (readI s 0 none).1 (readT s (readI s 0 none).2.1 (readI s 0 none).2.2 40).1 (readT s (readI s 0 none).2.1 (readI s 0 none).2.2 40).2.1 (readT s (readI s 0 none).2.1 (readI s 0 none).2.2 40).2.2 := rfl
  have kI := ok26 s 0 none (by omega)
  have l1 := readI_le (s := s) (a := 0) (e := none) (by omega)
  generalize readI s 0 none = K at *
  obtain ⟨k, a1, e1⟩ := K
  have kT := ok27 s a1 e1 40 (by decide) l1 (by omega)
  have l2 := readT_le (s := s) (a := a1) (e := e1) (most := 40) l1
  dsimp only at hraw
  generalize readT s a1 e1 40 = G at *
  obtain ⟨g, a, e⟩ := G
  dsimp only at hraw l2
  refine W.callF [1] [.var zC, .var [.d (sD s), .d (nI a1), .d (errD e1)]] (x2 := .d (nI k)) kI (by decide) rfl rfl rfl rfl rfl rfl ?_
  refine W.callF [1] [.var zC, .var [.d (sD s), .d (nI a), .d (errD e)]] (x2 := .d (sD g)) kT (by decide) rfl rfl rfl rfl rfl rfl ?_
  unfold rawB at hraw
  by_cases k1 : k = 1
  · have f1 : (k == 1) = true := by simpa using k1
    rw [if_pos k1] at hraw
    unfold raw1 at hraw
    have kN := ok26 s a e (by omega)
    have l3 := readI_le (s := s) (a := a) (e := e) l2
    have rN := readI_r s a e
    have eN := fun {n : Int} {a' : Nat} {x : Nat × Int} => @readI_err s a a' e n x
    generalize readI s a e = N at *
    obtain ⟨n, a3, e3⟩ := N
    dsimp only at hraw l3 rN
    refine W.ite_t f1 ?_
    refine W.callF [1] [.var zC, .var [.d (sD s), .d (nI a3), .d (errD e3)], .var [.d (nI k), .d (sD g), .d (.lit (.bool false)), nilA, .d (nI 0), .d (nI 0), .d (nI 0), nilA, .d (sD mt)]] (x2 := .d (nI n)) kN (by decide) rfl rfl rfl rfl rfl rfl ?_
    refine W.callF [1] [.var zC, .var [.d (sD s), .d (nI a3), .d (errD e3)], .var [.d (nI k), .d (sD g), .d (.lit (.bool (n == -1))), nilA, .d (nI 0), .d (nI 0), .d (nI 0), nilA, .d (sD mt)]] (x2 := .d (errD e3)) (ok28 s a3 e3) (by decide) rfl rfl rfl rfl rfl rfl ?_
    --K1
    cases e3 with
    | some x =>
      have n0 := eN rfl
      subst n0
      rw [if_neg (by rintro ⟨h, _⟩; exact absurd h (by simp))] at hraw
      repeat (first | refine W.ite_t rfl ?_ | refine W.ite_f rfl ?_)
      refine W.loop (fun K fr σ => ∃ i : Nat, fr = [(2, .ptr 0 0), (4, .ptr 1 0), (5, .ptr 2 0), (44, .d (nI (0 : Nat))), (45, .d (nI i))] ∧ σ = [.var zC, .var [.d (sD s), .d (nI (rdF s i a3 (some x)).2.1), .d (errD (rdF s i a3 (some x)).2.2)], .var [.d (nI k), .d (sD g), .d (.lit (.bool (0 == -1))), .vec 3 i, .d (nI 0), .d (nI 0), .d (nI 0), nilA, .d (sD mt)], .vec 1 i (flat sC (rdF s i a3 (some x)).1)] ∧ i ≤ 0 ∧ K = 0 - i) 0
        (Start.trans (Start.nil 2 3 1 rfl rfl) (Start.of [2, 4, 5, 44, 45] [] (by simp))) ?_ ?_
      · exact ⟨0, rfl, rfl, by omega, rfl⟩
      rintro K fr σ ⟨i, rfl, rfl, hi, rfl⟩
      have hq := rdF_le (e := (some x)) l3 i
      refine W.ite (fun c1 => ?_) (fun c1 => ?_)
      · have hil : i < 0 := by have := of_decide_eq_true c1; omega
        omega
      · have hil : 0 = i := by have := of_decide_eq_false c1; omega
        subst hil
        refine W.ret ?_
        have hr : rawM s = some (⟨k, g, (0 == -1), (rdF s 0 a3 (some x)).1, 0, 0, 0, [], mt⟩, (rdF s 0 a3 (some x)).2) := hraw
        have hq := rdF_le (e := (some x)) l3 0
        generalize rdF s 0 a3 (some x) = F at *
        obtain ⟨f, b, e⟩ := F
        dsimp only at hr hq
        have hfl : f.length = 0 := hq.2
        have kD := ok30 s b e
        generalize hE : doneE s b e = E at *
        refine W.callF [1] [.var zC, .var [.d (sD s), .d (nI b), .d (errD E)], .var [.d (nI k), .d (sD g), .d (.lit (.bool (0 == -1))), .vec 3 0, .d (nI 0), .d (nI 0), .d (nI 0), nilA, .d (sD mt)], .vec 1 0 (flat sC f)] (x2 := .d (errD E)) kD (by decide) rfl rfl rfl rfl rfl rfl ?_
        cases E with
        | some x =>
          repeat (first | refine W.ite_t rfl ?_ | refine W.ite_f rfl ?_)
          refine W.ret (RetQ.part [] (by decide) (by simp) (by simp) ⟨?_, rfl⟩)
          rw [readM_bad h1 hr hE]
          rfl
        | none =>
          repeat (first | refine W.ite_t rfl ?_ | refine W.ite_f rfl ?_)
          have kC : Go.Am.Pure Tryd.prog 11 [.d (.agg [nI k, sD g, .lit (.bool (0 == -1)), .sl 0 ((flat sC f).take (0 * 1)), nI 0, nI 0, nI 0, .sl 0 [], sD mt])] (.d (errC (checkB ⟨k, g, (0 == -1), f, 0, 0, 0, [], mt⟩))) := by rw [slCut hfl]; exact ok11 ⟨k, g, (0 == -1), f, 0, 0, 0, [], mt⟩
          rcases checkB_cases ⟨k, g, (0 == -1), f, 0, 0, 0, [], mt⟩ with hc | hc | hc
          · rw [hc] at kC
            refine W.callF [] [.var zC, .var [.d (sD s), .d (nI b), .d (errD none)], .var [.d (nI k), .d (sD g), .d (.lit (.bool (0 == -1))), .vec 3 0, .d (nI 0), .d (nI 0), .d (nI 0), nilA, .d (sD mt)], .vec 1 0 (flat sC f)] (x2 := .d (errC 0)) (CallOk.softA (args := [.d (.agg [nI k, sD g, .lit (.bool (0 == -1)), .sl 0 ((flat sC f).take (0 * 1)), nI 0, nI 0, nI 0, nilD, sD mt])]) kC) (by decide) rfl rfl rfl rfl rfl rfl ?_
            repeat (first | refine W.ite_t rfl ?_ | refine W.ite_f rfl ?_)
            refine W.ret (RetQ.part [] (by decide) (by simp) (by simp) ⟨?_, rfl⟩)
            rw [readM_good h1 hr hE hc]
            show AV.tuple [.d (.agg [nI k, sD g, .lit (.bool (0 == -1)), .sl 0 ((flat sC f).take (0 * 1)), nI 0, nI 0, nI 0, .sl 0 [], sD mt]), .d (.lit .nilIface)] = _
            rw [slCut hfl]; rfl
          · rw [hc] at kC
            refine W.callF [] [.var zC, .var [.d (sD s), .d (nI b), .d (errD none)], .var [.d (nI k), .d (sD g), .d (.lit (.bool (0 == -1))), .vec 3 0, .d (nI 0), .d (nI 0), .d (nI 0), nilA, .d (sD mt)], .vec 1 0 (flat sC f)] (x2 := .d (errC 1)) (CallOk.softA (args := [.d (.agg [nI k, sD g, .lit (.bool (0 == -1)), .sl 0 ((flat sC f).take (0 * 1)), nI 0, nI 0, nI 0, nilD, sD mt])]) kC) (by decide) rfl rfl rfl rfl rfl rfl ?_
            repeat (first | refine W.ite_t rfl ?_ | refine W.ite_f rfl ?_)
            refine W.ret (RetQ.part [] (by decide) (by simp) (by simp) ⟨?_, rfl⟩)
            rw [readM_check h1 hr hE hc (by decide)]
            rfl
          · rw [hc] at kC
            refine W.callF [] [.var zC, .var [.d (sD s), .d (nI b), .d (errD none)], .var [.d (nI k), .d (sD g), .d (.lit (.bool (0 == -1))), .vec 3 0, .d (nI 0), .d (nI 0), .d (nI 0), nilA, .d (sD mt)], .vec 1 0 (flat sC f)] (x2 := .d (errC 11)) (CallOk.softA (args := [.d (.agg [nI k, sD g, .lit (.bool (0 == -1)), .sl 0 ((flat sC f).take (0 * 1)), nI 0, nI 0, nI 0, nilD, sD mt])]) kC) (by decide) rfl rfl rfl rfl rfl rfl ?_
            repeat (first | refine W.ite_t rfl ?_ | refine W.ite_f rfl ?_)
            refine W.ret (RetQ.part [] (by decide) (by simp) (by simp) ⟨?_, rfl⟩)
            rw [readM_check h1 hr hE hc (by decide)]
            rfl
    | none =>
      cases b1 : decide (n < -1) with
      | true =>
        repeat (first | refine W.ite_t b1 ?_ | refine W.ite_t rfl ?_ | refine W.ite_f rfl ?_)
        rw [if_pos ⟨rfl, .inl (of_decide_eq_true b1)⟩] at hraw
        refine W.pure (ok21 11) rfl rfl ?_
        refine W.ret (RetQ.part [] (by decide) (by simp) (by simp) ⟨?_, rfl⟩)
        rw [readM_none h1 hraw]
        rfl
      | false =>
      cases b2 : decide (n > 16) with
      | true =>
        repeat (first | refine W.ite_f b1 ?_ | refine W.ite_t b2 ?_ | refine W.ite_t rfl ?_ | refine W.ite_f rfl ?_)
        rw [if_pos ⟨rfl, .inr (of_decide_eq_true b2)⟩] at hraw
        refine W.pure (ok21 11) rfl rfl ?_
        refine W.ret (RetQ.part [] (by decide) (by simp) (by simp) ⟨?_, rfl⟩)
        rw [readM_none h1 hraw]
        rfl
      | false =>
        repeat (first | refine W.ite_f b1 ?_ | refine W.ite_f b2 ?_ | refine W.ite_t rfl ?_ | refine W.ite_f rfl ?_)
        have q1 := of_decide_eq_false b1
        have q2 := of_decide_eq_false b2
        rw [if_neg (fun ⟨_, h⟩ => h.elim q1 q2)] at hraw
        obtain ⟨N, hN, hN2⟩ : ∃ N : Nat, (if 0 > n then 0 else n) = (N : Int) ∧ n.toNat = N := ⟨n.toNat, by split <;> omega, rfl⟩
        have hN16 : N ≤ 16 := by omega
        rw [hN2] at hraw
        refine W.loop (fun K fr σ => ∃ i : Nat, fr = [(2, .ptr 0 0), (4, .ptr 1 0), (5, .ptr 2 0), (44, .d (nI (if 0 > n then 0 else n))), (45, .d (nI i))] ∧ σ = [.var zC, .var [.d (sD s), .d (nI (rdF s i a3 none).2.1), .d (errD (rdF s i a3 none).2.2)], .var [.d (nI k), .d (sD g), .d (.lit (.bool (n == -1))), .vec 3 i, .d (nI 0), .d (nI 0), .d (nI 0), nilA, .d (sD mt)], .vec 1 i (flat sC (rdF s i a3 none).1)] ∧ i ≤ N ∧ K = N - i) N
          (Start.trans (Start.nil 2 3 1 rfl rfl) (Start.of [2, 4, 5, 44, 45] [] (by simp))) ?_ ?_
        · exact ⟨0, rfl, rfl, by omega, rfl⟩
        rintro K fr σ ⟨i, rfl, rfl, hi, rfl⟩
        have hq := rdF_le (e := none) l3 i
        refine W.ite (fun c1 => ?_) (fun c1 => ?_)
        · have hil : i < N := by have := of_decide_eq_true c1; rw [hN] at this; omega
          have kT2 := ok27 s (rdF s i a3 none).2.1 (rdF s i a3 none).2.2 1970 (by decide) hq.1 (by omega)
          refine W.callF [1] [.var zC, .var [.d (sD s), .d (nI (rdF s (i + 1) a3 none).2.1), .d (errD (rdF s (i + 1) a3 none).2.2)], .var [.d (nI k), .d (sD g), .d (.lit (.bool (n == -1))), .vec 3 i, .d (nI 0), .d (nI 0), .d (nI 0), nilA, .d (sD mt)], .vec 1 i (flat sC (rdF s i a3 none).1)] (x2 := .d (sD (readT s (rdF s i a3 none).2.1 (rdF s i a3 none).2.2 1970).1)) kT2 (by decide) rfl rfl rfl rfl rfl rfl ?_
          refine W.alt_l ?_
          refine W.need ⟨rfl, rfl, rfl, by (try simp only [List.length_nil] at *); omega, by (try simp only [List.length_nil] at *); omega, by intro c hc; rw [List.mem_singleton] at hc; subst hc; rfl⟩ ?_
          refine W.ret ⟨_, _, _, ?_, Trim.of [2, 4, 5, 44, 45] [0, 1, 2, 3] (by decide) (by simp) (tr3 rfl), i + 1, ?_, ?_, by omega, rfl⟩
          · omega
          · rw [← wrapS (by omega)]; rfl
          · rw [show (rdF s (i + 1) a3 none).1 = (rdF s i a3 none).1 ++ [(readT s (rdF s i a3 none).2.1 (rdF s i a3 none).2.2 1970).1] from rfl, flat_append]; rfl
        · have hil : N = i := by have := of_decide_eq_false c1; rw [hN] at this; omega
          subst hil
          refine W.ret ?_
          have hr : rawM s = some (⟨k, g, (n == -1), (rdF s N a3 none).1, 0, 0, 0, [], mt⟩, (rdF s N a3 none).2) := hraw
          have hq := rdF_le (e := none) l3 N
          generalize rdF s N a3 none = F at *
          obtain ⟨f, b, e⟩ := F
          dsimp only at hr hq
          have hfl : f.length = N := hq.2
          have kD := ok30 s b e
          generalize hE : doneE s b e = E at *
          refine W.callF [1] [.var zC, .var [.d (sD s), .d (nI b), .d (errD E)], .var [.d (nI k), .d (sD g), .d (.lit (.bool (n == -1))), .vec 3 N, .d (nI 0), .d (nI 0), .d (nI 0), nilA, .d (sD mt)], .vec 1 N (flat sC f)] (x2 := .d (errD E)) kD (by decide) rfl rfl rfl rfl rfl rfl ?_
          cases E with
          | some x =>
            repeat (first | refine W.ite_t rfl ?_ | refine W.ite_f rfl ?_)
            refine W.ret (RetQ.part [] (by decide) (by simp) (by simp) ⟨?_, rfl⟩)
            rw [readM_bad h1 hr hE]
            rfl
          | none =>
            repeat (first | refine W.ite_t rfl ?_ | refine W.ite_f rfl ?_)
            have kC : Go.Am.Pure Tryd.prog 11 [.d (.agg [nI k, sD g, .lit (.bool (n == -1)), .sl N ((flat sC f).take (N * 1)), nI 0, nI 0, nI 0, .sl 0 [], sD mt])] (.d (errC (checkB ⟨k, g, (n == -1), f, 0, 0, 0, [], mt⟩))) := by rw [slCut hfl]; exact ok11 ⟨k, g, (n == -1), f, 0, 0, 0, [], mt⟩
            rcases checkB_cases ⟨k, g, (n == -1), f, 0, 0, 0, [], mt⟩ with hc | hc | hc
            · rw [hc] at kC
              refine W.callF [] [.var zC, .var [.d (sD s), .d (nI b), .d (errD none)], .var [.d (nI k), .d (sD g), .d (.lit (.bool (n == -1))), .vec 3 N, .d (nI 0), .d (nI 0), .d (nI 0), nilA, .d (sD mt)], .vec 1 N (flat sC f)] (x2 := .d (errC 0)) (CallOk.softA (args := [.d (.agg [nI k, sD g, .lit (.bool (n == -1)), .sl N ((flat sC f).take (N * 1)), nI 0, nI 0, nI 0, nilD, sD mt])]) kC) (by decide) rfl rfl rfl rfl rfl rfl ?_
              repeat (first | refine W.ite_t rfl ?_ | refine W.ite_f rfl ?_)
              refine W.ret (RetQ.part [] (by decide) (by simp) (by simp) ⟨?_, rfl⟩)
              rw [readM_good h1 hr hE hc]
              show AV.tuple [.d (.agg [nI k, sD g, .lit (.bool (n == -1)), .sl N ((flat sC f).take (N * 1)), nI 0, nI 0, nI 0, .sl 0 [], sD mt]), .d (.lit .nilIface)] = _
              rw [slCut hfl]; rfl
            · rw [hc] at kC
              refine W.callF [] [.var zC, .var [.d (sD s), .d (nI b), .d (errD none)], .var [.d (nI k), .d (sD g), .d (.lit (.bool (n == -1))), .vec 3 N, .d (nI 0), .d (nI 0), .d (nI 0), nilA, .d (sD mt)], .vec 1 N (flat sC f)] (x2 := .d (errC 1)) (CallOk.softA (args := [.d (.agg [nI k, sD g, .lit (.bool (n == -1)), .sl N ((flat sC f).take (N * 1)), nI 0, nI 0, nI 0, nilD, sD mt])]) kC) (by decide) rfl rfl rfl rfl rfl rfl ?_
              repeat (first | refine W.ite_t rfl ?_ | refine W.ite_f rfl ?_)
              refine W.ret (RetQ.part [] (by decide) (by simp) (by simp) ⟨?_, rfl⟩)
              rw [readM_check h1 hr hE hc (by decide)]
              rfl
            · rw [hc] at kC
              refine W.callF [] [.var zC, .var [.d (sD s), .d (nI b), .d (errD none)], .var [.d (nI k), .d (sD g), .d (.lit (.bool (n == -1))), .vec 3 N, .d (nI 0), .d (nI 0), .d (nI 0), nilA, .d (sD mt)], .vec 1 N (flat sC f)] (x2 := .d (errC 11)) (CallOk.softA (args := [.d (.agg [nI k, sD g, .lit (.bool (n == -1)), .sl N ((flat sC f).take (N * 1)), nI 0, nI 0, nI 0, nilD, sD mt])]) kC) (by decide) rfl rfl rfl rfl rfl rfl ?_
              repeat (first | refine W.ite_t rfl ?_ | refine W.ite_f rfl ?_)
              refine W.ret (RetQ.part [] (by decide) (by simp) (by simp) ⟨?_, rfl⟩)
              rw [readM_check h1 hr hE hc (by decide)]
              rfl
  have f1 : (k == 1) = false := by simpa using k1
  rw [if_neg k1] at hraw
  by_cases k5 : k = 5
  · have f5 : (k == 5) = true := by simpa using k5
    have f3 : (k == 3) = false := by rw [k5]; rfl
    have f4 : (k == 4) = false := by rw [k5]; rfl
    rw [if_pos k5] at hraw
    unfold raw5 at hraw
    have k6 := ok26 s a e (by omega)
    have l6 := readI_le (s := s) (a := a) (e := e) l2
    generalize readI s a e = X at *
    obtain ⟨p, a6, e6⟩ := X
    dsimp only at hraw l6
    have k7 := ok26 s a6 e6 (by omega)
    have l7 := readI_le (s := s) (a := a6) (e := e6) l6
    generalize readI s a6 e6 = X at *
    obtain ⟨q, a7, e7⟩ := X
    dsimp only at hraw l7
    repeat (first | refine W.ite_f f1 ?_ | refine W.ite_f f3 ?_ | refine W.ite_f f4 ?_ | refine W.ite_t f5 ?_ | refine W.ite_t rfl ?_ | refine W.ite_f rfl ?_)
    refine W.callF [1] [.var zC, .var [.d (sD s), .d (nI a6), .d (errD e6)], .var [.d (nI k), .d (sD g), .d (.lit (.bool false)), nilA, .d (nI 0), .d (nI 0), .d (nI 0), nilA, .d (sD mt)]] (x2 := .d (nI p)) k6 (by decide) rfl rfl rfl rfl rfl rfl ?_
    refine W.callF [1] [.var zC, .var [.d (sD s), .d (nI a7), .d (errD e7)], .var [.d (nI k), .d (sD g), .d (.lit (.bool false)), nilA, .d (nI 0), .d (nI 0), .d (nI 0), nilA, .d (sD mt)]] (x2 := .d (nI q)) k7 (by decide) rfl rfl rfl rfl rfl rfl ?_
    repeat (first | refine W.ite_f f1 ?_ | refine W.ite_f f3 ?_ | refine W.ite_f f4 ?_ | refine W.ite_t f5 ?_ | refine W.ite_t rfl ?_ | refine W.ite_f rfl ?_)
    have kD := ok30 s a7 e7
    generalize hE : doneE s a7 e7 = E at *
    refine W.callF [1] [.var zC, .var [.d (sD s), .d (nI a7), .d (errD E)], .var [.d (nI k), .d (sD g), .d (.lit (.bool false)), nilA, .d (nI p), .d (nI q), .d (nI 0), nilA, .d (sD mt)]] (x2 := .d (errD E)) kD (by decide) rfl rfl rfl rfl rfl rfl ?_
    cases E with
    | some x =>
      repeat (first | refine W.ite_t rfl ?_ | refine W.ite_f rfl ?_)
      refine W.ret (RetQ.part [] (by decide) (by simp) (by simp) ⟨?_, rfl⟩)
      rw [readM_bad h1 hraw hE]
      rfl
    | none =>
      repeat (first | refine W.ite_t rfl ?_ | refine W.ite_f rfl ?_)
      have kC : Go.Am.Pure Tryd.prog 11 [.d (.agg [nI k, sD g, .lit (.bool false), .sl 0 [], nI p, nI q, nI 0, .sl 0 [], sD mt])] (.d (errC (checkB ⟨k, g, false, [], p, q, 0, [], mt⟩))) := by exact ok11 ⟨k, g, false, [], p, q, 0, [], mt⟩
      rcases checkB_cases ⟨k, g, false, [], p, q, 0, [], mt⟩ with hc | hc | hc
      · rw [hc] at kC
        refine W.callF [] [.var zC, .var [.d (sD s), .d (nI a7), .d (errD none)], .var [.d (nI k), .d (sD g), .d (.lit (.bool false)), nilA, .d (nI p), .d (nI q), .d (nI 0), nilA, .d (sD mt)]] (x2 := .d (errC 0)) (CallOk.softA (args := [.d (.agg [nI k, sD g, .lit (.bool false), nilD, nI p, nI q, nI 0, nilD, sD mt])]) kC) (by decide) rfl rfl rfl rfl rfl rfl ?_
        repeat (first | refine W.ite_t rfl ?_ | refine W.ite_f rfl ?_)
        refine W.ret (RetQ.part [] (by decide) (by simp) (by simp) ⟨?_, rfl⟩)
        rw [readM_good h1 hraw hE hc]
        show AV.tuple [.d (.agg [nI k, sD g, .lit (.bool false), .sl 0 [], nI p, nI q, nI 0, .sl 0 [], sD mt]), .d (.lit .nilIface)] = _
        rfl
      · rw [hc] at kC
        refine W.callF [] [.var zC, .var [.d (sD s), .d (nI a7), .d (errD none)], .var [.d (nI k), .d (sD g), .d (.lit (.bool false)), nilA, .d (nI p), .d (nI q), .d (nI 0), nilA, .d (sD mt)]] (x2 := .d (errC 1)) (CallOk.softA (args := [.d (.agg [nI k, sD g, .lit (.bool false), nilD, nI p, nI q, nI 0, nilD, sD mt])]) kC) (by decide) rfl rfl rfl rfl rfl rfl ?_
        repeat (first | refine W.ite_t rfl ?_ | refine W.ite_f rfl ?_)
        refine W.ret (RetQ.part [] (by decide) (by simp) (by simp) ⟨?_, rfl⟩)
        rw [readM_check h1 hraw hE hc (by decide)]
        rfl
      · rw [hc] at kC
        refine W.callF [] [.var zC, .var [.d (sD s), .d (nI a7), .d (errD none)], .var [.d (nI k), .d (sD g), .d (.lit (.bool false)), nilA, .d (nI p), .d (nI q), .d (nI 0), nilA, .d (sD mt)]] (x2 := .d (errC 11)) (CallOk.softA (args := [.d (.agg [nI k, sD g, .lit (.bool false), nilD, nI p, nI q, nI 0, nilD, sD mt])]) kC) (by decide) rfl rfl rfl rfl rfl rfl ?_
        repeat (first | refine W.ite_t rfl ?_ | refine W.ite_f rfl ?_)
        refine W.ret (RetQ.part [] (by decide) (by simp) (by simp) ⟨?_, rfl⟩)
        rw [readM_check h1 hraw hE hc (by decide)]
        rfl
  rw [if_neg k5] at hraw
  have f5 : (k == 5) = false := by simpa using k5
  by_cases k34 : k = 3 ∨ k = 4
  · rw [if_pos k34] at hraw
    unfold raw34 at hraw
    have k6 := ok26 s a e (by omega)
    have l6 := readI_le (s := s) (a := a) (e := e) l2
    generalize readI s a e = X at *
    obtain ⟨p, a6, e6⟩ := X
    dsimp only at hraw l6
    have k7 := ok26 s a6 e6 (by omega)
    have l7 := readI_le (s := s) (a := a6) (e := e6) l6
    generalize readI s a6 e6 = X at *
    obtain ⟨q, a7, e7⟩ := X
    dsimp only at hraw l7
    have k8 := ok26 s a7 e7 (by omega)
    have l8 := readI_le (s := s) (a := a7) (e := e7) l7
    generalize readI s a7 e7 = X at *
    obtain ⟨h, a8, e8⟩ := X
    dsimp only at hraw l8
    have k9 := ok29 s a8 e8 5 (by omega)
    have l9 := readB_le (s := s) (a := a8) (e := e8) (most := 5) l8
    have r9 := @readB_r s a8 e8
    generalize readB s a8 e8 5 = X at *
    obtain ⟨n, a9, e9⟩ := X
    dsimp only at hraw l9 r9
    obtain ⟨N, rfl⟩ : ∃ N : Nat, n = (N : Int) := ⟨n.toNat, by omega⟩
    rw [Int.toNat_natCast] at hraw
    have hk34 : ((k == 3) = true) ∨ ((k == 3) = false ∧ (k == 4) = true) := by
      rcases k34 with h | h
      · left; rw [h]; rfl
      · right; rw [h]; exact ⟨rfl, rfl⟩
    rcases hk34 with f3 | ⟨f3, f4⟩
    all_goals
      repeat (first | refine W.ite_f f1 ?_ | refine W.ite_t f3 ?_ | refine W.ite_f f3 ?_ | refine W.ite_t f4 ?_ | refine W.ite_t rfl ?_ | refine W.ite_f rfl ?_)
      refine W.callF [1] [.var zC, .var [.d (sD s), .d (nI a6), .d (errD e6)], .var [.d (nI k), .d (sD g), .d (.lit (.bool false)), nilA, .d (nI 0), .d (nI 0), .d (nI 0), nilA, .d (sD mt)]] (x2 := .d (nI p)) k6 (by decide) rfl rfl rfl rfl rfl rfl ?_
      refine W.callF [1] [.var zC, .var [.d (sD s), .d (nI a7), .d (errD e7)], .var [.d (nI k), .d (sD g), .d (.lit (.bool false)), nilA, .d (nI 0), .d (nI 0), .d (nI 0), nilA, .d (sD mt)]] (x2 := .d (nI q)) k7 (by decide) rfl rfl rfl rfl rfl rfl ?_
      repeat (first | refine W.ite_f f5 ?_ | refine W.ite_t rfl ?_ | refine W.ite_f rfl ?_)
      refine W.callF [1] [.var zC, .var [.d (sD s), .d (nI a8), .d (errD e8)], .var [.d (nI k), .d (sD g), .d (.lit (.bool false)), nilA, .d (nI p), .d (nI q), .d (nI 0), nilA, .d (sD mt)]] (x2 := .d (nI h)) k8 (by decide) rfl rfl rfl rfl rfl rfl ?_
      refine W.callF [1] [.var zC, .var [.d (sD s), .d (nI a9), .d (errD e9)], .var [.d (nI k), .d (sD g), .d (.lit (.bool false)), nilA, .d (nI p), .d (nI q), .d (nI h), nilA, .d (sD mt)]] (x2 := .d (nI N)) k9 (by decide) rfl rfl rfl rfl rfl rfl ?_
      refine W.loop (fun K fr σ => ∃ i : Nat, fr = [(2, .ptr 0 0), (4, .ptr 1 0), (5, .ptr 2 0), (72, .d (nI N)), (73, .d (nI i))] ∧ σ = [.var zC, .var [.d (sD s), .d (nI (rdV s i a9 e9).2.1), .d (errD (rdV s i a9 e9).2.2)], .var [.d (nI k), .d (sD g), .d (.lit (.bool false)), nilA, .d (nI p), .d (nI q), .d (nI h), .vec 3 i, .d (sD mt)], .vec 2 i (flat vC (rdV s i a9 e9).1)] ∧ i ≤ N ∧ K = N - i) N
        (Start.trans (Start.nil 2 7 2 rfl rfl) (Start.of [2, 4, 5, 72, 73] [] (by simp))) ?_ ?_
      · exact ⟨0, rfl, rfl, by omega, rfl⟩
      rintro K fr σ ⟨i, rfl, rfl, hi, rfl⟩
      have hq := rdV_le (e := e9) l9 i
      refine W.ite (fun c1 => ?_) (fun c1 => ?_)
      · have hil : i < N := by have := of_decide_eq_true c1; omega
        have kA := ok26 s (rdV s i a9 e9).2.1 (rdV s i a9 e9).2.2 (by omega)
        have lA := readI_le (s := s) (a := (rdV s i a9 e9).2.1) (e := (rdV s i a9 e9).2.2) hq.1
        have hst : rdV s (i + 1) a9 e9 = ((rdV s i a9 e9).1 ++ [((readI s (rdV s i a9 e9).2.1 (rdV s i a9 e9).2.2).1, (readT s (readI s (rdV s i a9 e9).2.1 (rdV s i a9 e9).2.2).2.1 (readI s (rdV s i a9 e9).2.1 (rdV s i a9 e9).2.2).2.2 1970).1)],
            (readT s (readI s (rdV s i a9 e9).2.1 (rdV s i a9 e9).2.2).2.1 (readI s (rdV s i a9 e9).2.1 (rdV s i a9 e9).2.2).2.2 1970).2) := rfl
        generalize readI s (rdV s i a9 e9).2.1 (rdV s i a9 e9).2.2 = A at *
        obtain ⟨x, aA, eA⟩ := A
        dsimp only at hst lA
        have kB := ok27 s aA eA 1970 (by decide) lA (by omega)
        generalize readT s aA eA 1970 = B at *
        obtain ⟨t, aB, eB⟩ := B
        dsimp only at hst
        refine W.callF [1] [.var zC, .var [.d (sD s), .d (nI aA), .d (errD eA)], .var [.d (nI k), .d (sD g), .d (.lit (.bool false)), nilA, .d (nI p), .d (nI q), .d (nI h), .vec 3 i, .d (sD mt)], .vec 2 i (flat vC (rdV s i a9 e9).1)] (x2 := .d (nI x)) kA (by decide) rfl rfl rfl rfl rfl rfl ?_
        refine W.callF [1] [.var zC, .var [.d (sD s), .d (nI aB), .d (errD eB)], .var [.d (nI k), .d (sD g), .d (.lit (.bool false)), nilA, .d (nI p), .d (nI q), .d (nI h), .vec 3 i, .d (sD mt)], .vec 2 i (flat vC (rdV s i a9 e9).1)] (x2 := .d (sD t)) kB (by decide) rfl rfl rfl rfl rfl rfl ?_
        refine W.alt_l ?_
        refine W.need ⟨rfl, rfl, rfl, by (try simp only [List.length_nil] at *); omega, by (try simp only [List.length_nil] at *); omega, by intro c hc; simp only [List.mem_cons, List.not_mem_nil, or_false] at hc; rcases hc with rfl | rfl <;> rfl⟩ ?_
        refine W.ret ⟨_, _, _, ?_, Trim.of [2, 4, 5, 72, 73] [0, 1, 2, 3] (by decide) (by simp) (tr3 rfl), i + 1, ?_, ?_, by omega, rfl⟩
        · omega
        · rw [← wrapS (by omega)]; rfl
        · rw [hst]; dsimp only; rw [flat_append]; rfl
      · have hil : N = i := by have := of_decide_eq_false c1; omega
        subst hil
        refine W.ret ?_
        have kT9 := ok27 s (rdV s N a9 e9).2.1 (rdV s N a9 e9).2.2 1970 (by decide) hq.1 (by omega)
        generalize rdV s N a9 e9 = V at *
        obtain ⟨v, aV, eV⟩ := V
        dsimp only at hraw hq
        have hvl : v.length = N := hq.2
        generalize readT s aV eV 1970 = B at *
        obtain ⟨t, b, e⟩ := B
        dsimp only at hraw
        refine W.callF [1] [.var zC, .var [.d (sD s), .d (nI b), .d (errD e)], .var [.d (nI k), .d (sD g), .d (.lit (.bool false)), nilA, .d (nI p), .d (nI q), .d (nI h), .vec 3 N, .d (sD mt)], .vec 2 N (flat vC v)] (x2 := .d (sD t)) kT9 (by decide) rfl rfl rfl rfl rfl rfl ?_
        repeat (first | refine W.ite_t rfl ?_ | refine W.ite_f rfl ?_)
        have kD := ok30 s b e
        generalize hE : doneE s b e = E at *
        refine W.callF [1] [.var zC, .var [.d (sD s), .d (nI b), .d (errD E)], .var [.d (nI k), .d (sD g), .d (.lit (.bool false)), nilA, .d (nI p), .d (nI q), .d (nI h), .vec 3 N, .d (sD t)], .vec 2 N (flat vC v)] (x2 := .d (errD E)) kD (by decide) rfl rfl rfl rfl rfl rfl ?_
        cases E with
        | some x =>
          repeat (first | refine W.ite_t rfl ?_ | refine W.ite_f rfl ?_)
          refine W.ret (RetQ.part [] (by decide) (by simp) (by simp) ⟨?_, rfl⟩)
          rw [readM_bad h1 hraw hE]
          rfl
        | none =>
          repeat (first | refine W.ite_t rfl ?_ | refine W.ite_f rfl ?_)
          have kC : Go.Am.Pure Tryd.prog 11 [.d (.agg [nI k, sD g, .lit (.bool false), .sl 0 [], nI p, nI q, nI h, .sl N ((flat vC v).take (N * 2)), sD t])] (.d (errC (checkB ⟨k, g, false, [], p, q, h, v, t⟩))) := by rw [slvCut hvl]; exact ok11 ⟨k, g, false, [], p, q, h, v, t⟩
          rcases checkB_cases ⟨k, g, false, [], p, q, h, v, t⟩ with hc | hc | hc
          · rw [hc] at kC
            refine W.callF [] [.var zC, .var [.d (sD s), .d (nI b), .d (errD none)], .var [.d (nI k), .d (sD g), .d (.lit (.bool false)), nilA, .d (nI p), .d (nI q), .d (nI h), .vec 3 N, .d (sD t)], .vec 2 N (flat vC v)] (x2 := .d (errC 0)) (CallOk.softA (args := [.d (.agg [nI k, sD g, .lit (.bool false), nilD, nI p, nI q, nI h, .sl N ((flat vC v).take (N * 2)), sD t])]) kC) (by decide) rfl rfl rfl rfl rfl rfl ?_
            repeat (first | refine W.ite_t rfl ?_ | refine W.ite_f rfl ?_)
            refine W.ret (RetQ.part [] (by decide) (by simp) (by simp) ⟨?_, rfl⟩)
            rw [readM_good h1 hraw hE hc]
            show AV.tuple [.d (.agg [nI k, sD g, .lit (.bool false), .sl 0 [], nI p, nI q, nI h, .sl N ((flat vC v).take (N * 2)), sD t]), .d (.lit .nilIface)] = _
            rw [slvCut hvl]; rfl
          · rw [hc] at kC
            refine W.callF [] [.var zC, .var [.d (sD s), .d (nI b), .d (errD none)], .var [.d (nI k), .d (sD g), .d (.lit (.bool false)), nilA, .d (nI p), .d (nI q), .d (nI h), .vec 3 N, .d (sD t)], .vec 2 N (flat vC v)] (x2 := .d (errC 1)) (CallOk.softA (args := [.d (.agg [nI k, sD g, .lit (.bool false), nilD, nI p, nI q, nI h, .sl N ((flat vC v).take (N * 2)), sD t])]) kC) (by decide) rfl rfl rfl rfl rfl rfl ?_
            repeat (first | refine W.ite_t rfl ?_ | refine W.ite_f rfl ?_)
            refine W.ret (RetQ.part [] (by decide) (by simp) (by simp) ⟨?_, rfl⟩)
            rw [readM_check h1 hraw hE hc (by decide)]
            rfl
          · rw [hc] at kC
            refine W.callF [] [.var zC, .var [.d (sD s), .d (nI b), .d (errD none)], .var [.d (nI k), .d (sD g), .d (.lit (.bool false)), nilA, .d (nI p), .d (nI q), .d (nI h), .vec 3 N, .d (sD t)], .vec 2 N (flat vC v)] (x2 := .d (errC 11)) (CallOk.softA (args := [.d (.agg [nI k, sD g, .lit (.bool false), nilD, nI p, nI q, nI h, .sl N ((flat vC v).take (N * 2)), sD t])]) kC) (by decide) rfl rfl rfl rfl rfl rfl ?_
            repeat (first | refine W.ite_t rfl ?_ | refine W.ite_f rfl ?_)
            refine W.ret (RetQ.part [] (by decide) (by simp) (by simp) ⟨?_, rfl⟩)
            rw [readM_check h1 hraw hE hc (by decide)]
            rfl
  rw [if_neg k34] at hraw
  have f3 : (k == 3) = false := by simp; omega
  have f4 : (k == 4) = false := by simp; omega
  repeat (first | refine W.ite_f f1 ?_ | refine W.ite_f f3 ?_ | refine W.ite_f f4 ?_ | refine W.ite_f f5 ?_ | refine W.ite_t rfl ?_ | refine W.ite_f rfl ?_)
  have kD := ok30 s a e
  generalize hE : doneE s a e = E at *
  refine W.callF [1] [.var zC, .var [.d (sD s), .d (nI a), .d (errD E)], .var [.d (nI k), .d (sD g), .d (.lit (.bool false)), nilA, .d (nI 0), .d (nI 0), .d (nI 0), nilA, .d (sD mt)]] (x2 := .d (errD E)) kD (by decide) rfl rfl rfl rfl rfl rfl ?_
  cases E with
  | some x =>
    repeat (first | refine W.ite_t rfl ?_ | refine W.ite_f rfl ?_)
    refine W.ret (RetQ.part [] (by decide) (by simp) (by simp) ⟨?_, rfl⟩)
    rw [readM_bad h1 hraw hE]
    rfl
  | none =>
    repeat (first | refine W.ite_t rfl ?_ | refine W.ite_f rfl ?_)
    have kC : Go.Am.Pure Tryd.prog 11 [.d (.agg [nI k, sD g, .lit (.bool false), .sl 0 [], nI 0, nI 0, nI 0, .sl 0 [], sD mt])] (.d (errC (checkB ⟨k, g, false, [], 0, 0, 0, [], mt⟩))) := by exact ok11 ⟨k, g, false, [], 0, 0, 0, [], mt⟩
    rcases checkB_cases ⟨k, g, false, [], 0, 0, 0, [], mt⟩ with hc | hc | hc
    · rw [hc] at kC
      refine W.callF [] [.var zC, .var [.d (sD s), .d (nI a), .d (errD none)], .var [.d (nI k), .d (sD g), .d (.lit (.bool false)), nilA, .d (nI 0), .d (nI 0), .d (nI 0), nilA, .d (sD mt)]] (x2 := .d (errC 0)) (CallOk.softA (args := [.d (.agg [nI k, sD g, .lit (.bool false), nilD, nI 0, nI 0, nI 0, nilD, sD mt])]) kC) (by decide) rfl rfl rfl rfl rfl rfl ?_
      repeat (first | refine W.ite_t rfl ?_ | refine W.ite_f rfl ?_)
      refine W.ret (RetQ.part [] (by decide) (by simp) (by simp) ⟨?_, rfl⟩)
      rw [readM_good h1 hraw hE hc]
      show AV.tuple [.d (.agg [nI k, sD g, .lit (.bool false), .sl 0 [], nI 0, nI 0, nI 0, .sl 0 [], sD mt]), .d (.lit .nilIface)] = _
      rfl
    · rw [hc] at kC
      refine W.callF [] [.var zC, .var [.d (sD s), .d (nI a), .d (errD none)], .var [.d (nI k), .d (sD g), .d (.lit (.bool false)), nilA, .d (nI 0), .d (nI 0), .d (nI 0), nilA, .d (sD mt)]] (x2 := .d (errC 1)) (CallOk.softA (args := [.d (.agg [nI k, sD g, .lit (.bool false), nilD, nI 0, nI 0, nI 0, nilD, sD mt])]) kC) (by decide) rfl rfl rfl rfl rfl rfl ?_
      repeat (first | refine W.ite_t rfl ?_ | refine W.ite_f rfl ?_)
      refine W.ret (RetQ.part [] (by decide) (by simp) (by simp) ⟨?_, rfl⟩)
      rw [readM_check h1 hraw hE hc (by decide)]
      rfl
    · rw [hc] at kC
      refine W.callF [] [.var zC, .var [.d (sD s), .d (nI a), .d (errD none)], .var [.d (nI k), .d (sD g), .d (.lit (.bool false)), nilA, .d (nI 0), .d (nI 0), .d (nI 0), nilA, .d (sD mt)]] (x2 := .d (errC 11)) (CallOk.softA (args := [.d (.agg [nI k, sD g, .lit (.bool false), nilD, nI 0, nI 0, nI 0, nilD, sD mt])]) kC) (by decide) rfl rfl rfl rfl rfl rfl ?_
      repeat (first | refine W.ite_t rfl ?_ | refine W.ite_f rfl ?_)
      refine W.ret (RetQ.part [] (by decide) (by simp) (by simp) ⟨?_, rfl⟩)
      rw [readM_check h1 hraw hE hc (by decide)]
      rfl
end Go.Proofs.YtkdibdlbigmkcaaDoor.Ms
