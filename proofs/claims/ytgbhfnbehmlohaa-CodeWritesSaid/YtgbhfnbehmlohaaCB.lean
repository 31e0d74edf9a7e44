import Derived.Test.YtgbhfnbehmlohaaCT
set_option maxRecDepth 100000
set_option linter.unusedVariables false
set_option linter.unusedSimpArgs false
namespace Go.Proofs.Ytgbhfnbehmlohaa.Co
open Go Go.Am
def od6 : Ords := [(15, [0, 2, 3, 1, 4, 5]), (17, [0, 2, 3, 1, 4, 5]), (19, [0, 2, 3, 1, 4, 5]), (22, [0, 2, 3, 1, 4, 5]), (23, [0, 1, 2, 3, 5, 6, 4, 7, 8])]
theorem code6 : codeB Try.f6.ntmps od6 (match Try.f6.body with | some c => c | none => .skip) = true := by kernel_rfl
set_option maxHeartbeats 8000000 in
theorem ok6 (l : List Th) (hl : ∀ t ∈ l, t.ok) : Go.Am.Pure Try.prog 6 [slF thC l] (bI true) := by
  refine CallOk.of tysOk mixed od6 Try.func6 rfl rfl code6 ?_
  refine W.pure (ok7 l 40 (by decide)) rfl rfl ?_
  have hT := fewTh_ok (m := 40) hl
  have hL := fewTh_len l 40
  generalize fewTh l 40 = L at hT hL
  have hlen := encL_len hT
  refine W.loop (fun k fr σ => ∃ i : Nat, fr = [(0, slF thC L), (3, .ptr 0 0), (12, slF thC L), (13, .d (nI L.length)), (14, .d (nI i))] ∧ σ = wS (encL (L.take i)) ∧ i ≤ L.length ∧ k = L.length - i) L.length
    (Start.of [0, 3, 12, 13, 14] [] (by simp)) ⟨0, rfl, rfl, by omega, rfl⟩ ?_
  rintro k fr σ ⟨i, rfl, rfl, hi, rfl⟩
  refine W.ite (fun c1 => ?_) (fun c1 => ?_)
  · have hil : i < L.length := by have := of_decide_eq_true c1; omega
    obtain ⟨t, ht⟩ : ∃ t, L[i]? = some t := ⟨_, List.getElem?_eq_getElem hil⟩
    have hto := hT t (List.mem_of_getElem? ht)
    have hpre : (encL (L.take i)).length ≤ 210 * (L.take i).length := encL_len fun x hx => hT x (List.mem_of_mem_take hx)
    have hti : (L.take i).length = i := by simp; omega
    have kp := ok8 (encL (L.take i)) t hto.1 (by omega)
    rw [← encL_take ht] at kp
    have hmono : encL (L.take (i + 1)) = [] → encL (L.take i) = [] := fun h => by
      rw [encL_take ht] at h
      exact (List.append_eq_nil_iff.1 h).1
    have g1 : IntKind.i64.wrap ((i : Int) + 1) = ((i + 1 : Nat) : Int) := by rw [wrap64 (by omega) (by omega)]; rfl
    refine W.need (ix_ok thC_len (by decide) hil) ?_
    refine W.ld (thE ht) ?_
    generalize hA : encL (L.take i) = A at *
    generalize hB : encL (L.take (i + 1)) = B at *
    cases A with
    | nil =>
      cases B with
      | nil =>
        refine W.callF [0] [.var [.d (.lit (.slice none 0 0))], .var [.d (nI t.k), .d (nI t.n), .d (uI t.u), .d (sD t.s)]] (x2 := .tuple []) kp (by decide) rfl rfl rfl rfl rfl rfl ?_
        refine W.ret ⟨_, _, _, ?_, Trim.of [0, 3, 12, 13, 14] [0] (by decide) (by simp) (by intro j hj; have : j = 0 := (by simp at hj; omega); subst this; rfl), i + 1, ?_, ?_, by omega, rfl⟩
        · omega
        · rw [← g1]; rfl
        · rw [hB]; rfl
      | cons b r =>
        refine W.callF [0] [.var [.vec 2 (r.length + 1)], .var [.d (nI t.k), .d (nI t.n), .d (uI t.u), .d (sD t.s)], .vec 1 (r.length + 1) (bc (b :: r))] (x2 := .tuple []) kp (by decide) rfl rfl rfl rfl rfl rfl ?_
        refine W.ret ⟨_, _, _, ?_, Trim.of [0, 3, 12, 13, 14] [0, 2] (by decide) (by simp) (by intro j hj; have : j = 0 := (by simp at hj; omega); subst this; rfl), i + 1, ?_, ?_, by omega, rfl⟩
        · omega
        · rw [← g1]; rfl
        · rw [hB]; rfl
    | cons b' r' =>
      cases B with
      | nil => exact absurd (hmono rfl) (by simp)
      | cons b r =>
        refine W.callF [0, 1] [.var [.vec 1 (r.length + 1)], .vec 1 (r.length + 1) (bc (b :: r)), .var [.d (nI t.k), .d (nI t.n), .d (uI t.u), .d (sD t.s)]] (x2 := .tuple []) kp (by decide) rfl rfl rfl rfl rfl rfl ?_
        refine W.ret ⟨_, _, _, ?_, Trim.of [0, 3, 12, 13, 14] [0, 1] (by decide) (by simp) (by intro j hj; have : j = 0 := (by simp at hj; omega); subst this; rfl), i + 1, ?_, ?_, by omega, rfl⟩
        · omega
        · rw [← g1]; rfl
        · rw [hB]; rfl
  · have hlast : i = L.length := by have := of_decide_eq_false c1; omega
    subst hlast
    rw [List.take_length]
    refine W.ret ?_
    have kB := ok11 (encL L)
    obtain ⟨s, hs⟩ : ∃ s : ByteArray, s = ⟨(encL L).toArray⟩ := ⟨_, rfl⟩
    have hsB : s.data.toList = encL L := by rw [hs]
    have hsz : s.size = (encL L).length := by rw [hs]; rfl
    rw [← hs] at kB
    clear hs
    generalize hW : wS (encL L) = ω at *
    by_cases hB : encL L = []
    · rw [hB] at hW
      subst hW
      refine W.callF [0] [.var [.d (.lit (.slice none 0 0))]] (x2 := .d (sD s)) kB (by decide) rfl rfl rfl rfl rfl rfl ?_
      refine W.callF [] [.var [.d (.lit (.slice none 0 0))], .var [.d (sD s), .d (nI 0), .d (.lit .nilIface)]] (x2 := .ptr 1 0) (ok13 s) (by decide) rfl rfl rfl rfl rfl rfl ?_
      refine W.loop (fun k fr σ => ∃ i : Nat, fr = [(6, .ptr 1 0), (23, slF thC L), (24, .d (nI L.length)), (25, .d (nI i))] ∧ σ = [.var [.d (.lit (.slice none 0 0))], .var [.d (sD s), .d (nI ((encL (L.take i)).length : Nat)), .d (.lit .nilIface)]] ∧ i ≤ L.length ∧ k = L.length - i) L.length
        (Start.of [6, 23, 24, 25] [] (by simp)) ⟨0, rfl, rfl, by omega, rfl⟩ ?_
      rintro k fr σ ⟨i, rfl, rfl, hi, rfl⟩
      refine W.ite (fun c1 => ?_) (fun c1 => ?_)
      · have hil : i < L.length := by have := of_decide_eq_true c1; omega
        obtain ⟨t, ht⟩ : ∃ t, L[i]? = some t := ⟨_, List.getElem?_eq_getElem hil⟩
        have hto := hT t (List.mem_of_getElem? ht)
        have hd := encL_drop ht
        have hnx : (encL (L.take (i + 1))).length = (encL (L.take i)).length + (encTh t).length := by rw [encL_take ht, List.length_append]
        have hale : (encL (L.take i)).length ≤ (encL L).length := by
          have := congrArg List.length hd
          by_cases h0 : (encL (L.take i)).length ≤ (encL L).length
          · exact h0
          · have h1 : encL L = encL (L.take i) ++ encL (L.drop i) := by rw [encL, encL, encL, ← List.flatMap_append, List.take_append_drop]
            rw [h1, List.length_append]; omega
        have hds : s.data.toList.drop (encL (L.take i)).length = encTh t ++ encL (L.drop (i + 1)) := by rw [← hd, ← hsB]
        have g1 : IntKind.i64.wrap ((i : Int) + 1) = ((i + 1 : Nat) : Int) := by rw [wrap64 (by omega) (by omega)]; rfl
        have hu : (!((t.u : Int) == (t.u : Int))) = false := by rw [beq_self_eq_true]; rfl
        have hn : (!(t.n == t.n)) = false := by rw [beq_self_eq_true]; rfl
        have hs' : (!(t.s.toList == t.s.toList)) = false := by rw [beq_self_eq_true]; rfl
        refine W.need (ix_ok thC_len (by decide) hil) ?_
        refine W.ld (thE ht) ?_
        generalize (encL (L.take i)).length = a at *
        generalize hA' : (encL (L.take (i + 1))).length = a' at *
        have kN : encTh t = enc t.u → CallOk Try.prog 14 [.ptr 0 0] (rS s a none) (fun v σ => v = .d (uI t.u) ∧ σ = rS s a' none) := fun he => by
          have := ok14 s a none (by omega)
          rw [he] at hds hnx
          rw [readN_enc hds hto.1.2.2, ← hnx] at this
          exact this
        have kI : encTh t = enc (zz t.n) → CallOk Try.prog 19 [.ptr 0 0] (rS s a none) (fun v σ => v = .d (nI t.n) ∧ σ = rS s a' none) := fun he => by
          have := ok19 s a none (by omega)
          rw [he] at hds hnx
          rw [readI_enc' hds hto.1.1 hto.1.2.1, ← hnx] at this
          exact this
        have kT : encTh t = encT t.s → CallOk Try.prog 20 [.ptr 0 0, .d (nI 200)] (rS s a none) (fun v σ => v = .d (sD t.s) ∧ σ = rS s a' none) := fun he => by
          have := ok20 s a none 200 (by decide) (by omega) (by omega)
          rw [he] at hds hnx
          rw [readT_enc hds (by rw [if_neg (by decide)]; omega) (by omega), ← hnx] at this
          exact this
        have kL : encTh t = enc (zz t.n) → 0 ≤ t.n → t.n < 9223372036854775807 → CallOk Try.prog 21 [.ptr 0 0, .d (nI (IntKind.i64.wrap (t.n + 1)))] (rS s a none) (fun v σ => v = .d (nI t.n) ∧ σ = rS s a' none) := fun he h0 h9 => by
          have := ok21 s a none (t.n + 1) (by omega)
          rw [he] at hds hnx
          rw [readB_enc hds h0 (by omega) (by omega), ← hnx] at this
          rw [wrap64 (by omega) (by omega)]
          exact this
        unfold encTh at kN kI kT kL hnx
        cases h1 : (t.k == 1) with
        | true =>
          have p1 : t.k = 1 := by simpa using h1
          repeat (first | refine W.ite_t h1 ?_ | refine W.ite_f rfl ?_ | refine W.ite_t rfl ?_)
          refine W.callF [1] [.var [.d (.lit (.slice none 0 0))], .var [.d (sD s), .d (nI a'), .d (.lit .nilIface)], .var [.d (nI t.k), .d (nI t.n), .d (uI t.u), .d (sD t.s)]] (x2 := .d (uI t.u)) (kN (if_pos p1)) (by decide) rfl rfl rfl rfl rfl rfl ?_
          repeat (first | refine W.ite_f hu ?_ | refine W.ite_f rfl ?_ | refine W.ite_t rfl ?_)
          refine W.ret ⟨_, _, _, ?_, Trim.of [6, 23, 24, 25] [0, 1] (by decide) (by simp) ?_, i + 1, ?_, ?_, by omega, rfl⟩
          · omega
          · intro j hj
            have hj : j < 2 := hj
            have : j = 0 ∨ j = 1 := by omega
            rcases this with rfl | rfl <;> rfl
          · rw [← g1]; rfl
          · rw [hA']; rfl
        | false =>
        have p1 : ¬ t.k = 1 := by simpa using h1
        cases h2 : (t.k == 2) with
        | true =>
          have p2 : t.k = 2 := by simpa using h2
          repeat (first | refine W.ite_f h1 ?_ | refine W.ite_t h2 ?_ | refine W.ite_f rfl ?_ | refine W.ite_t rfl ?_)
          refine W.callF [1] [.var [.d (.lit (.slice none 0 0))], .var [.d (sD s), .d (nI a'), .d (.lit .nilIface)], .var [.d (nI t.k), .d (nI t.n), .d (uI t.u), .d (sD t.s)]] (x2 := .d (nI t.n)) (kI (by rw [if_neg p1, if_pos (.inl p2)])) (by decide) rfl rfl rfl rfl rfl rfl ?_
          repeat (first | refine W.ite_f hn ?_ | refine W.ite_f rfl ?_ | refine W.ite_t rfl ?_)
          refine W.ret ⟨_, _, _, ?_, Trim.of [6, 23, 24, 25] [0, 1] (by decide) (by simp) ?_, i + 1, ?_, ?_, by omega, rfl⟩
          · omega
          · intro j hj
            have hj : j < 2 := hj
            have : j = 0 ∨ j = 1 := by omega
            rcases this with rfl | rfl <;> rfl
          · rw [← g1]; rfl
          · rw [hA']; rfl
        | false =>
        have p2 : ¬ t.k = 2 := by simpa using h2
        cases h3 : (t.k == 3) with
        | true =>
          have p3 : t.k = 3 := by simpa using h3
          repeat (first | refine W.ite_f h1 ?_ | refine W.ite_f h2 ?_ | refine W.ite_t h3 ?_ | refine W.ite_f rfl ?_ | refine W.ite_t rfl ?_)
          refine W.callF [1] [.var [.d (.lit (.slice none 0 0))], .var [.d (sD s), .d (nI a'), .d (.lit .nilIface)], .var [.d (nI t.k), .d (nI t.n), .d (uI t.u), .d (sD t.s)]] (x2 := .d (sD t.s)) (kT (by rw [if_neg p1, if_neg (by omega), if_pos p3])) (by decide) rfl rfl rfl rfl rfl rfl ?_
          repeat (first | refine W.ite_f hs' ?_ | refine W.ite_f rfl ?_ | refine W.ite_t rfl ?_)
          refine W.ret ⟨_, _, _, ?_, Trim.of [6, 23, 24, 25] [0, 1] (by decide) (by simp) ?_, i + 1, ?_, ?_, by omega, rfl⟩
          · omega
          · intro j hj
            have hj : j < 2 := hj
            have : j = 0 ∨ j = 1 := by omega
            rcases this with rfl | rfl <;> rfl
          · rw [← g1]; rfl
          · rw [hA']; rfl
        | false =>
        have p3 : ¬ t.k = 3 := by simpa using h3
        cases h4 : (t.k == 4) with
        | true =>
          have p4 : t.k = 4 := by simpa using h4
          cases h5 : decide (t.n < 0) with
          | true =>
            repeat (first | refine W.ite_f h1 ?_ | refine W.ite_f h2 ?_ | refine W.ite_f h3 ?_ | refine W.ite_t h4 ?_ | refine W.ite_t h5 ?_ | refine W.ite_f rfl ?_ | refine W.ite_t rfl ?_)
            refine W.callF [1] [.var [.d (.lit (.slice none 0 0))], .var [.d (sD s), .d (nI a'), .d (.lit .nilIface)], .var [.d (nI t.k), .d (nI t.n), .d (uI t.u), .d (sD t.s)]] (x2 := .d (nI t.n)) (kI (by rw [if_neg p1, if_pos (.inr p4)])) (by decide) rfl rfl rfl rfl rfl rfl ?_
            repeat (first | refine W.ite_f hn ?_ | refine W.ite_f rfl ?_ | refine W.ite_t rfl ?_)
            refine W.ret ⟨_, _, _, ?_, Trim.of [6, 23, 24, 25] [0, 1] (by decide) (by simp) ?_, i + 1, ?_, ?_, by omega, rfl⟩
            · omega
            · intro j hj
              have hj : j < 2 := hj
              have : j = 0 ∨ j = 1 := by omega
              rcases this with rfl | rfl <;> rfl
            · rw [← g1]; rfl
            · rw [hA']; rfl
          | false =>
          cases h6 : (t.n == 9223372036854775807) with
          | true =>
            repeat (first | refine W.ite_f h1 ?_ | refine W.ite_f h2 ?_ | refine W.ite_f h3 ?_ | refine W.ite_t h4 ?_ | refine W.ite_f h5 ?_ | refine W.ite_t h6 ?_ | refine W.ite_f rfl ?_ | refine W.ite_t rfl ?_)
            refine W.callF [1] [.var [.d (.lit (.slice none 0 0))], .var [.d (sD s), .d (nI a'), .d (.lit .nilIface)], .var [.d (nI t.k), .d (nI t.n), .d (uI t.u), .d (sD t.s)]] (x2 := .d (nI t.n)) (kI (by rw [if_neg p1, if_pos (.inr p4)])) (by decide) rfl rfl rfl rfl rfl rfl ?_
            repeat (first | refine W.ite_f hn ?_ | refine W.ite_f rfl ?_ | refine W.ite_t rfl ?_)
            refine W.ret ⟨_, _, _, ?_, Trim.of [6, 23, 24, 25] [0, 1] (by decide) (by simp) ?_, i + 1, ?_, ?_, by omega, rfl⟩
            · omega
            · intro j hj
              have hj : j < 2 := hj
              have : j = 0 ∨ j = 1 := by omega
              rcases this with rfl | rfl <;> rfl
            · rw [← g1]; rfl
            · rw [hA']; rfl
          | false =>
            have p5 := of_decide_eq_false h5
            have p6 : ¬ t.n = 9223372036854775807 := by simpa using h6
            have := hto.1.2.1
            repeat (first | refine W.ite_f h1 ?_ | refine W.ite_f h2 ?_ | refine W.ite_f h3 ?_ | refine W.ite_t h4 ?_ | refine W.ite_f h5 ?_ | refine W.ite_f h6 ?_ | refine W.ite_f rfl ?_ | refine W.ite_t rfl ?_)
            refine W.callF [1] [.var [.d (.lit (.slice none 0 0))], .var [.d (sD s), .d (nI a'), .d (.lit .nilIface)], .var [.d (nI t.k), .d (nI t.n), .d (uI t.u), .d (sD t.s)]] (x2 := .d (nI t.n)) (kL (by rw [if_neg p1, if_pos (.inr p4)]) (by omega) (by omega)) (by decide) rfl rfl rfl rfl rfl rfl ?_
            repeat (first | refine W.ite_f hn ?_ | refine W.ite_f rfl ?_ | refine W.ite_t rfl ?_)
            refine W.ret ⟨_, _, _, ?_, Trim.of [6, 23, 24, 25] [0, 1] (by decide) (by simp) ?_, i + 1, ?_, ?_, by omega, rfl⟩
            · omega
            · intro j hj
              have hj : j < 2 := hj
              have : j = 0 ∨ j = 1 := by omega
              rcases this with rfl | rfl <;> rfl
            · rw [← g1]; rfl
            · rw [hA']; rfl
        | false =>
          have p4 : ¬ t.k = 4 := by simpa using h4
          rw [if_neg p1, if_neg (by omega), if_neg p3] at hnx
          have haa : a' = a := by simpa using hnx
          repeat (first | refine W.ite_f h1 ?_ | refine W.ite_f h2 ?_ | refine W.ite_f h3 ?_ | refine W.ite_f h4 ?_ | refine W.ite_f rfl ?_ | refine W.ite_t rfl ?_)
          refine W.ret ⟨_, _, _, ?_, Trim.of [6, 23, 24, 25] [0, 1] (by decide) (by simp) ?_, i + 1, ?_, ?_, by omega, rfl⟩
          · omega
          · intro j hj
            have hj : j < 2 := hj
            have : j = 0 ∨ j = 1 := by omega
            rcases this with rfl | rfl <;> rfl
          · rw [← g1]; rfl
          · rw [hA', haa]; rfl
      · have hlast : i = L.length := by have := of_decide_eq_false c1; omega
        subst hlast
        rw [List.take_length]
        have kD := ok15 s (encL L).length none
        rw [show doneE s (encL L).length none = none from if_neg (by omega)] at kD
        refine W.ret ?_
        refine W.pure ok10 rfl rfl ?_
        repeat (first | refine W.ite_t rfl ?_ | refine W.ite_f rfl ?_)
        refine W.callF [1] [.var [.d (.lit (.slice none 0 0))], .var [.d (sD s), .d (nI ((encL L).length : Nat)), .d (.lit .nilIface)]] (x2 := .d (.lit .nilIface)) kD (by decide) rfl rfl rfl rfl rfl rfl ?_
        repeat (first | refine W.ite_t rfl ?_ | refine W.ite_f rfl ?_)
        exact W.ret (RetQ.pure rfl rfl)
    · rw [wS_ne hB] at hW
      subst hW
      refine W.callF [0, 1] [.var [.vec 1 (encL L).length], .vec 1 (encL L).length (bc (encL L))] (x2 := .d (sD s)) kB (by decide) rfl rfl rfl rfl rfl rfl ?_
      refine W.callF [] [.var [.vec 1 (encL L).length], .vec 1 (encL L).length (bc (encL L)), .var [.d (sD s), .d (nI 0), .d (.lit .nilIface)]] (x2 := .ptr 2 0) (ok13 s) (by decide) rfl rfl rfl rfl rfl rfl ?_
      refine W.loop (fun k fr σ => ∃ i : Nat, fr = [(6, .ptr 2 0), (23, slF thC L), (24, .d (nI L.length)), (25, .d (nI i))] ∧ σ = [.var [.vec 1 (encL L).length], .vec 1 (encL L).length (bc (encL L)), .var [.d (sD s), .d (nI ((encL (L.take i)).length : Nat)), .d (.lit .nilIface)]] ∧ i ≤ L.length ∧ k = L.length - i) L.length
        (Start.of [6, 23, 24, 25] [] (by simp)) ⟨0, rfl, rfl, by omega, rfl⟩ ?_
      rintro k fr σ ⟨i, rfl, rfl, hi, rfl⟩
      refine W.ite (fun c1 => ?_) (fun c1 => ?_)
      · have hil : i < L.length := by have := of_decide_eq_true c1; omega
        obtain ⟨t, ht⟩ : ∃ t, L[i]? = some t := ⟨_, List.getElem?_eq_getElem hil⟩
        have hto := hT t (List.mem_of_getElem? ht)
        have hd := encL_drop ht
        have hnx : (encL (L.take (i + 1))).length = (encL (L.take i)).length + (encTh t).length := by rw [encL_take ht, List.length_append]
        have hale : (encL (L.take i)).length ≤ (encL L).length := by
          have := congrArg List.length hd
          by_cases h0 : (encL (L.take i)).length ≤ (encL L).length
          · exact h0
          · have h1 : encL L = encL (L.take i) ++ encL (L.drop i) := by rw [encL, encL, encL, ← List.flatMap_append, List.take_append_drop]
            rw [h1, List.length_append]; omega
        have hds : s.data.toList.drop (encL (L.take i)).length = encTh t ++ encL (L.drop (i + 1)) := by rw [← hd, ← hsB]
        have g1 : IntKind.i64.wrap ((i : Int) + 1) = ((i + 1 : Nat) : Int) := by rw [wrap64 (by omega) (by omega)]; rfl
        have hu : (!((t.u : Int) == (t.u : Int))) = false := by rw [beq_self_eq_true]; rfl
        have hn : (!(t.n == t.n)) = false := by rw [beq_self_eq_true]; rfl
        have hs' : (!(t.s.toList == t.s.toList)) = false := by rw [beq_self_eq_true]; rfl
        refine W.need (ix_ok thC_len (by decide) hil) ?_
        refine W.ld (thE ht) ?_
        generalize (encL (L.take i)).length = a at *
        generalize hA' : (encL (L.take (i + 1))).length = a' at *
        have kN : encTh t = enc t.u → CallOk Try.prog 14 [.ptr 0 0] (rS s a none) (fun v σ => v = .d (uI t.u) ∧ σ = rS s a' none) := fun he => by
          have := ok14 s a none (by omega)
          rw [he] at hds hnx
          rw [readN_enc hds hto.1.2.2, ← hnx] at this
          exact this
        have kI : encTh t = enc (zz t.n) → CallOk Try.prog 19 [.ptr 0 0] (rS s a none) (fun v σ => v = .d (nI t.n) ∧ σ = rS s a' none) := fun he => by
          have := ok19 s a none (by omega)
          rw [he] at hds hnx
          rw [readI_enc' hds hto.1.1 hto.1.2.1, ← hnx] at this
          exact this
        have kT : encTh t = encT t.s → CallOk Try.prog 20 [.ptr 0 0, .d (nI 200)] (rS s a none) (fun v σ => v = .d (sD t.s) ∧ σ = rS s a' none) := fun he => by
          have := ok20 s a none 200 (by decide) (by omega) (by omega)
          rw [he] at hds hnx
          rw [readT_enc hds (by rw [if_neg (by decide)]; omega) (by omega), ← hnx] at this
          exact this
        have kL : encTh t = enc (zz t.n) → 0 ≤ t.n → t.n < 9223372036854775807 → CallOk Try.prog 21 [.ptr 0 0, .d (nI (IntKind.i64.wrap (t.n + 1)))] (rS s a none) (fun v σ => v = .d (nI t.n) ∧ σ = rS s a' none) := fun he h0 h9 => by
          have := ok21 s a none (t.n + 1) (by omega)
          rw [he] at hds hnx
          rw [readB_enc hds h0 (by omega) (by omega), ← hnx] at this
          rw [wrap64 (by omega) (by omega)]
          exact this
        unfold encTh at kN kI kT kL hnx
        cases h1 : (t.k == 1) with
        | true =>
          have p1 : t.k = 1 := by simpa using h1
          repeat (first | refine W.ite_t h1 ?_ | refine W.ite_f rfl ?_ | refine W.ite_t rfl ?_)
          refine W.callF [2] [.var [.vec 1 (encL L).length], .vec 1 (encL L).length (bc (encL L)), .var [.d (sD s), .d (nI a'), .d (.lit .nilIface)], .var [.d (nI t.k), .d (nI t.n), .d (uI t.u), .d (sD t.s)]] (x2 := .d (uI t.u)) (kN (if_pos p1)) (by decide) rfl rfl rfl rfl rfl rfl ?_
          repeat (first | refine W.ite_f hu ?_ | refine W.ite_f rfl ?_ | refine W.ite_t rfl ?_)
          refine W.ret ⟨_, _, _, ?_, Trim.of [6, 23, 24, 25] [0, 1, 2] (by decide) (by simp) ?_, i + 1, ?_, ?_, by omega, rfl⟩
          · omega
          · intro j hj
            have hj : j < 3 := hj
            have : j = 0 ∨ j = 1 ∨ j = 2 := by omega
            rcases this with rfl | rfl | rfl <;> rfl
          · rw [← g1]; rfl
          · rw [hA']; rfl
        | false =>
        have p1 : ¬ t.k = 1 := by simpa using h1
        cases h2 : (t.k == 2) with
        | true =>
          have p2 : t.k = 2 := by simpa using h2
          repeat (first | refine W.ite_f h1 ?_ | refine W.ite_t h2 ?_ | refine W.ite_f rfl ?_ | refine W.ite_t rfl ?_)
          refine W.callF [2] [.var [.vec 1 (encL L).length], .vec 1 (encL L).length (bc (encL L)), .var [.d (sD s), .d (nI a'), .d (.lit .nilIface)], .var [.d (nI t.k), .d (nI t.n), .d (uI t.u), .d (sD t.s)]] (x2 := .d (nI t.n)) (kI (by rw [if_neg p1, if_pos (.inl p2)])) (by decide) rfl rfl rfl rfl rfl rfl ?_
          repeat (first | refine W.ite_f hn ?_ | refine W.ite_f rfl ?_ | refine W.ite_t rfl ?_)
          refine W.ret ⟨_, _, _, ?_, Trim.of [6, 23, 24, 25] [0, 1, 2] (by decide) (by simp) ?_, i + 1, ?_, ?_, by omega, rfl⟩
          · omega
          · intro j hj
            have hj : j < 3 := hj
            have : j = 0 ∨ j = 1 ∨ j = 2 := by omega
            rcases this with rfl | rfl | rfl <;> rfl
          · rw [← g1]; rfl
          · rw [hA']; rfl
        | false =>
        have p2 : ¬ t.k = 2 := by simpa using h2
        cases h3 : (t.k == 3) with
        | true =>
          have p3 : t.k = 3 := by simpa using h3
          repeat (first | refine W.ite_f h1 ?_ | refine W.ite_f h2 ?_ | refine W.ite_t h3 ?_ | refine W.ite_f rfl ?_ | refine W.ite_t rfl ?_)
          refine W.callF [2] [.var [.vec 1 (encL L).length], .vec 1 (encL L).length (bc (encL L)), .var [.d (sD s), .d (nI a'), .d (.lit .nilIface)], .var [.d (nI t.k), .d (nI t.n), .d (uI t.u), .d (sD t.s)]] (x2 := .d (sD t.s)) (kT (by rw [if_neg p1, if_neg (by omega), if_pos p3])) (by decide) rfl rfl rfl rfl rfl rfl ?_
          repeat (first | refine W.ite_f hs' ?_ | refine W.ite_f rfl ?_ | refine W.ite_t rfl ?_)
          refine W.ret ⟨_, _, _, ?_, Trim.of [6, 23, 24, 25] [0, 1, 2] (by decide) (by simp) ?_, i + 1, ?_, ?_, by omega, rfl⟩
          · omega
          · intro j hj
            have hj : j < 3 := hj
            have : j = 0 ∨ j = 1 ∨ j = 2 := by omega
            rcases this with rfl | rfl | rfl <;> rfl
          · rw [← g1]; rfl
          · rw [hA']; rfl
        | false =>
        have p3 : ¬ t.k = 3 := by simpa using h3
        cases h4 : (t.k == 4) with
        | true =>
          have p4 : t.k = 4 := by simpa using h4
          cases h5 : decide (t.n < 0) with
          | true =>
            repeat (first | refine W.ite_f h1 ?_ | refine W.ite_f h2 ?_ | refine W.ite_f h3 ?_ | refine W.ite_t h4 ?_ | refine W.ite_t h5 ?_ | refine W.ite_f rfl ?_ | refine W.ite_t rfl ?_)
            refine W.callF [2] [.var [.vec 1 (encL L).length], .vec 1 (encL L).length (bc (encL L)), .var [.d (sD s), .d (nI a'), .d (.lit .nilIface)], .var [.d (nI t.k), .d (nI t.n), .d (uI t.u), .d (sD t.s)]] (x2 := .d (nI t.n)) (kI (by rw [if_neg p1, if_pos (.inr p4)])) (by decide) rfl rfl rfl rfl rfl rfl ?_
            repeat (first | refine W.ite_f hn ?_ | refine W.ite_f rfl ?_ | refine W.ite_t rfl ?_)
            refine W.ret ⟨_, _, _, ?_, Trim.of [6, 23, 24, 25] [0, 1, 2] (by decide) (by simp) ?_, i + 1, ?_, ?_, by omega, rfl⟩
            · omega
            · intro j hj
              have hj : j < 3 := hj
              have : j = 0 ∨ j = 1 ∨ j = 2 := by omega
              rcases this with rfl | rfl | rfl <;> rfl
            · rw [← g1]; rfl
            · rw [hA']; rfl
          | false =>
          cases h6 : (t.n == 9223372036854775807) with
          | true =>
            repeat (first | refine W.ite_f h1 ?_ | refine W.ite_f h2 ?_ | refine W.ite_f h3 ?_ | refine W.ite_t h4 ?_ | refine W.ite_f h5 ?_ | refine W.ite_t h6 ?_ | refine W.ite_f rfl ?_ | refine W.ite_t rfl ?_)
            refine W.callF [2] [.var [.vec 1 (encL L).length], .vec 1 (encL L).length (bc (encL L)), .var [.d (sD s), .d (nI a'), .d (.lit .nilIface)], .var [.d (nI t.k), .d (nI t.n), .d (uI t.u), .d (sD t.s)]] (x2 := .d (nI t.n)) (kI (by rw [if_neg p1, if_pos (.inr p4)])) (by decide) rfl rfl rfl rfl rfl rfl ?_
            repeat (first | refine W.ite_f hn ?_ | refine W.ite_f rfl ?_ | refine W.ite_t rfl ?_)
            refine W.ret ⟨_, _, _, ?_, Trim.of [6, 23, 24, 25] [0, 1, 2] (by decide) (by simp) ?_, i + 1, ?_, ?_, by omega, rfl⟩
            · omega
            · intro j hj
              have hj : j < 3 := hj
              have : j = 0 ∨ j = 1 ∨ j = 2 := by omega
              rcases this with rfl | rfl | rfl <;> rfl
            · rw [← g1]; rfl
            · rw [hA']; rfl
          | false =>
            have p5 := of_decide_eq_false h5
            have p6 : ¬ t.n = 9223372036854775807 := by simpa using h6
            have := hto.1.2.1
            repeat (first | refine W.ite_f h1 ?_ | refine W.ite_f h2 ?_ | refine W.ite_f h3 ?_ | refine W.ite_t h4 ?_ | refine W.ite_f h5 ?_ | refine W.ite_f h6 ?_ | refine W.ite_f rfl ?_ | refine W.ite_t rfl ?_)
            refine W.callF [2] [.var [.vec 1 (encL L).length], .vec 1 (encL L).length (bc (encL L)), .var [.d (sD s), .d (nI a'), .d (.lit .nilIface)], .var [.d (nI t.k), .d (nI t.n), .d (uI t.u), .d (sD t.s)]] (x2 := .d (nI t.n)) (kL (by rw [if_neg p1, if_pos (.inr p4)]) (by omega) (by omega)) (by decide) rfl rfl rfl rfl rfl rfl ?_
            repeat (first | refine W.ite_f hn ?_ | refine W.ite_f rfl ?_ | refine W.ite_t rfl ?_)
            refine W.ret ⟨_, _, _, ?_, Trim.of [6, 23, 24, 25] [0, 1, 2] (by decide) (by simp) ?_, i + 1, ?_, ?_, by omega, rfl⟩
            · omega
            · intro j hj
              have hj : j < 3 := hj
              have : j = 0 ∨ j = 1 ∨ j = 2 := by omega
              rcases this with rfl | rfl | rfl <;> rfl
            · rw [← g1]; rfl
            · rw [hA']; rfl
        | false =>
          have p4 : ¬ t.k = 4 := by simpa using h4
          rw [if_neg p1, if_neg (by omega), if_neg p3] at hnx
          have haa : a' = a := by simpa using hnx
          repeat (first | refine W.ite_f h1 ?_ | refine W.ite_f h2 ?_ | refine W.ite_f h3 ?_ | refine W.ite_f h4 ?_ | refine W.ite_f rfl ?_ | refine W.ite_t rfl ?_)
          refine W.ret ⟨_, _, _, ?_, Trim.of [6, 23, 24, 25] [0, 1, 2] (by decide) (by simp) ?_, i + 1, ?_, ?_, by omega, rfl⟩
          · omega
          · intro j hj
            have hj : j < 3 := hj
            have : j = 0 ∨ j = 1 ∨ j = 2 := by omega
            rcases this with rfl | rfl | rfl <;> rfl
          · rw [← g1]; rfl
          · rw [hA', haa]; rfl
      · have hlast : i = L.length := by have := of_decide_eq_false c1; omega
        subst hlast
        rw [List.take_length]
        have kD := ok15 s (encL L).length none
        rw [show doneE s (encL L).length none = none from if_neg (by omega)] at kD
        refine W.ret ?_
        refine W.pure ok10 rfl rfl ?_
        repeat (first | refine W.ite_t rfl ?_ | refine W.ite_f rfl ?_)
        refine W.callF [2] [.var [.vec 1 (encL L).length], .vec 1 (encL L).length (bc (encL L)), .var [.d (sD s), .d (nI ((encL L).length : Nat)), .d (.lit .nilIface)]] (x2 := .d (.lit .nilIface)) kD (by decide) rfl rfl rfl rfl rfl rfl ?_
        repeat (first | refine W.ite_t rfl ?_ | refine W.ite_f rfl ?_)
        exact W.ret (RetQ.pure rfl rfl)
end Go.Proofs.Ytgbhfnbehmlohaa.Co
