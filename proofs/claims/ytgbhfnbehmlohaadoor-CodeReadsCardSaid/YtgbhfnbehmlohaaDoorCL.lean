import Derived.Test.YtgbhfnbehmlohaaDoorCK
set_option maxRecDepth 100000
set_option linter.unusedVariables false
set_option linter.unusedSimpArgs false
namespace Go.Proofs.YtgbhfnbehmlohaaDoor.Co
open Go Go.Am
def od3 : Ords := []
theorem code3 : codeB Tryd.f3.ntmps od3 (match Tryd.f3.body with | some c => c | none => .skip) = true := by kernel_rfl
theorem readT_le {s : ByteArray} {a : Nat} {e : Err} {most : Int} (h : a ≤ s.size) : (readT s a e most).2.1 ≤ s.size := by
  have := readN_le s a e h
  unfold readT
  generalize readN s a e = N at *
  obtain ⟨n, a', e'⟩ := N
  cases e' with
  | some x => exact this
  | none =>
    simp only at this ⊢
    generalize (if 0 > most then 0 else most) = M
    by_cases h1 : (n : Int) > M
    · rw [if_pos h1]; exact h
    · rw [if_neg h1]
      by_cases h2 : n > s.size - a'
      · rw [if_pos h2]; exact this
      · rw [if_neg h2]
        show a' + n ≤ s.size; omega
/-- What is written so far: the things, and their bytes. -/
def cutS (I : List Th) : Store := match encL I with
  | [] => [.var [.d (.lit (.slice none 0 0))], .vec 4 I.length (flat thC I)]
  | b :: r => [.var [.vec 2 (r.length + 1)], .vec 4 I.length (flat thC I), .vec 1 (r.length + 1) (bc (b :: r))]
theorem cutS_nil {I : List Th} (h : encL I = []) : cutS I = [.var [.d (.lit (.slice none 0 0))], .vec 4 I.length (flat thC I)] := by unfold cutS; rw [h]
theorem cutS_cons {I : List Th} (h : encL I ≠ []) : cutS I = [.var [.vec 2 (encL I).length], .vec 4 I.length (flat thC I), .vec 1 (encL I).length (bc (encL I))] := by
  unfold cutS
  generalize encL I = B at *
  cases B with
  | nil => exact absurd rfl h
  | cons b r => rfl
set_option maxHeartbeats 8000000 in
theorem ok3 (l : List Th) (hl : ∀ t ∈ l, t.ok) (cut : Int) : Go.Am.Pure Tryd.prog 3 [slF thC l, .d (nI cut)] (bI true) := by
  refine CallOk.of tysOk mixed od3 Tryd.func3 rfl rfl code3 ?_
  refine W.pure (ok7 l 20 (by decide)) rfl rfl ?_
  have hT := fewTh_ok (m := 20) hl
  have hL := fewTh_len l 20
  generalize fewTh l 20 = F at hT hL
  refine W.loop (fun k fr σ => ∃ i : Nat, fr = [(1, .d (nI cut)), (5, .ptr 0 0), (6, .vec 1 ((F.take i).filter k13).length), (15, slF thC F), (16, .d (nI F.length)), (17, .d (nI i))] ∧ σ = cutS ((F.take i).filter k13) ∧ i ≤ F.length ∧ k = F.length - i) F.length
    (Start.of [1, 5, 6, 15, 16, 17] [] (by simp)) ⟨0, rfl, rfl, by omega, rfl⟩ ?_
  rintro k fr σ ⟨i, rfl, rfl, hi, rfl⟩
  have hsub : ∀ j, ∀ t ∈ (F.take j).filter k13, t.ok ∧ t.s.size ≤ 200 := fun j t ht => hT t (List.mem_of_mem_take (List.mem_filter.1 ht).1)
  have h13 : ∀ j, ∀ t ∈ (F.take j).filter k13, k13 t = true := fun j t ht => (List.mem_filter.1 ht).2
  have hIl : ∀ j, ((F.take j).filter k13).length ≤ 20 := fun j => by
    have h1 := List.length_filter_le k13 (F.take j)
    have h2 : (F.take j).length ≤ F.length := by simp; omega
    omega
  refine W.ite (fun c1 => ?_) (fun c1 => ?_)
  · have hil : i < F.length := by have := of_decide_eq_true c1; omega
    obtain ⟨t, ht⟩ : ∃ t, F[i]? = some t := ⟨_, List.getElem?_eq_getElem hil⟩
    have hto := hT t (List.mem_of_getElem? ht)
    have hI := hIl i
    have hbl := encL_len (hsub i)
    have hnx : (F.take (i + 1)).filter k13 = (F.take i).filter k13 ++ (if k13 t = true then [t] else []) := by
      have : F.take (i + 1) = F.take i ++ [t] := by rw [List.take_add_one, ht]; rfl
      rw [this, List.filter_append]
      congr 1
      simp only [List.filter_cons, List.filter_nil]
    have g1 : IntKind.i64.wrap ((i : Int) + 1) = ((i + 1 : Nat) : Int) := by rw [wrap64 (by omega) (by omega)]; rfl
    have hnil := encL_nil (h13 i)
    refine W.need (ix_ok thC_len (by decide) hil) ?_
    refine W.ld (thE ht) ?_
    generalize hIe : (F.take i).filter k13 = I at *
    have kp := ok8 (encL I) t hto.1 (by omega)
    cases hk1 : (t.k == 1) <;> cases hk3 : (t.k == 3)
    · have hk : k13 t = false := by unfold k13; rw [hk1, hk3]; rfl
      rw [hk] at hnx
      simp only [Bool.false_eq_true, if_false, List.append_nil] at hnx
      by_cases hB : encL I = []
      · rw [cutS_nil hB]
        repeat (first | refine W.ite_f hk1 ?_ | refine W.ite_f hk3 ?_ | refine W.ite_t rfl ?_ | refine W.ite_f rfl ?_)
        refine W.ret ⟨_, _, _, ?_, Trim.of [1, 5, 6, 15, 16, 17] [0, 1] (by decide) (by simp) ?_, i + 1, ?_, ?_, by omega, rfl⟩
        · omega
        · intro j hj
          have hj : j < 2 := by simpa [cutS, encL] using hj
          have : j = 0 ∨ j = 1 := by omega
          rcases this with rfl | rfl <;> rfl
        · rw [hnx, ← g1]; rfl
        · rw [hnx, cutS_nil hB]; rfl
      · rw [cutS_cons hB]
        repeat (first | refine W.ite_f hk1 ?_ | refine W.ite_f hk3 ?_ | refine W.ite_t rfl ?_ | refine W.ite_f rfl ?_)
        refine W.ret ⟨_, _, _, ?_, Trim.of [1, 5, 6, 15, 16, 17] [0, 1, 2] (by decide) (by simp) ?_, i + 1, ?_, ?_, by omega, rfl⟩
        · omega
        · intro j hj
          have hj : j < 2 := by simpa [cutS, encL] using hj
          have : j = 0 ∨ j = 1 := by omega
          rcases this with rfl | rfl <;> rfl
        · rw [hnx, ← g1]; rfl
        · rw [hnx, cutS_cons hB]; rfl
    · have hk : k13 t = true := by unfold k13; rw [hk1, hk3]; rfl
      rw [if_pos hk] at hnx
      have hne : encL (I ++ [t]) ≠ [] := by rw [encL_app]; have := (encTh13 hk).2; simp_all
      have hne' : encL I ++ encTh t ≠ [] := by rw [← encL_app]; exact hne
      rw [wS_ne hne'] at kp
      by_cases hB : encL I = []
      · rw [cutS_nil hB]
        have hw : wS (encL I) = [.var [.d (.lit (.slice none 0 0))]] := by rw [hB]; rfl
        rw [hw] at kp
        obtain rfl := hnil hB
        repeat (first | refine W.ite_f hk1 ?_ | refine W.ite_t hk3 ?_ | refine W.ite_t rfl ?_ | refine W.ite_f rfl ?_)
        refine W.alt_l ?_
        refine W.need ⟨rfl, rfl, rfl, by (try simp only [List.length_nil] at *); omega, by (try simp only [List.length_nil] at *); omega, by intro c hc; simp only [List.mem_cons, List.not_mem_nil, or_false] at hc; rcases hc with rfl | rfl | rfl | rfl <;> rfl⟩ ?_
        refine W.callF [0] [.var [.vec 3 (encL [] ++ encTh t).length], .vec 4 (0 + 1) (thC t), .var [.d (nI t.k), .d (nI t.n), .d (uI t.u), .d (sD t.s)], .vec 1 (encL [] ++ encTh t).length (bc (encL [] ++ encTh t))] (x2 := .tuple []) kp (by decide) rfl rfl rfl rfl rfl rfl ?_
        refine W.ret ⟨_, _, _, ?_, Trim.of [1, 5, 6, 15, 16, 17] [0, 1, 3] (by decide) (by simp) ?_, i + 1, ?_, ?_, by omega, rfl⟩
        · omega
        · intro j hj
          have hj : j < 2 := by simpa [cutS, encL] using hj
          have : j = 0 ∨ j = 1 := by omega
          rcases this with rfl | rfl <;> rfl
        · rw [hnx, ← g1, @List.length_append _ [] [t]]; rfl
        · rw [hnx, cutS_cons hne, encL_app, flat_append, @List.length_append _ [] [t]]; rfl
      · rw [cutS_cons hB]
        rw [wS_ne hB] at kp
        repeat (first | refine W.ite_f hk1 ?_ | refine W.ite_t hk3 ?_ | refine W.ite_t rfl ?_ | refine W.ite_f rfl ?_)
        refine W.alt_l ?_
        refine W.need ⟨rfl, rfl, rfl, by (try simp only [List.length_nil] at *); omega, by (try simp only [List.length_nil] at *); omega, by intro c hc; simp only [List.mem_cons, List.not_mem_nil, or_false] at hc; rcases hc with rfl | rfl | rfl | rfl <;> rfl⟩ ?_
        refine W.callF [0, 2] [.var [.vec 2 (encL I ++ encTh t).length], .vec 4 (I.length + 1) (flat thC I ++ thC t), .vec 1 (encL I ++ encTh t).length (bc (encL I ++ encTh t)), .var [.d (nI t.k), .d (nI t.n), .d (uI t.u), .d (sD t.s)]] (x2 := .tuple []) kp (by decide) rfl rfl rfl rfl rfl rfl ?_
        refine W.ret ⟨_, _, _, ?_, Trim.of [1, 5, 6, 15, 16, 17] [0, 1, 2] (by decide) (by simp) ?_, i + 1, ?_, ?_, by omega, rfl⟩
        · omega
        · intro j hj
          have hj : j < 2 := by simpa [cutS, encL] using hj
          have : j = 0 ∨ j = 1 := by omega
          rcases this with rfl | rfl <;> rfl
        · rw [hnx, ← g1, @List.length_append _ I [t]]; rfl
        · rw [hnx, cutS_cons hne, encL_app, flat_append, @List.length_append _ I [t]]; rfl
    · have hk : k13 t = true := by unfold k13; rw [hk1, hk3]; rfl
      rw [if_pos hk] at hnx
      have hne : encL (I ++ [t]) ≠ [] := by rw [encL_app]; have := (encTh13 hk).2; simp_all
      have hne' : encL I ++ encTh t ≠ [] := by rw [← encL_app]; exact hne
      rw [wS_ne hne'] at kp
      by_cases hB : encL I = []
      · rw [cutS_nil hB]
        have hw : wS (encL I) = [.var [.d (.lit (.slice none 0 0))]] := by rw [hB]; rfl
        rw [hw] at kp
        obtain rfl := hnil hB
        repeat (first | refine W.ite_t hk1 ?_ | refine W.ite_t rfl ?_ | refine W.ite_f rfl ?_)
        refine W.alt_l ?_
        refine W.need ⟨rfl, rfl, rfl, by (try simp only [List.length_nil] at *); omega, by (try simp only [List.length_nil] at *); omega, by intro c hc; simp only [List.mem_cons, List.not_mem_nil, or_false] at hc; rcases hc with rfl | rfl | rfl | rfl <;> rfl⟩ ?_
        refine W.callF [0] [.var [.vec 3 (encL [] ++ encTh t).length], .vec 4 (0 + 1) (thC t), .var [.d (nI t.k), .d (nI t.n), .d (uI t.u), .d (sD t.s)], .vec 1 (encL [] ++ encTh t).length (bc (encL [] ++ encTh t))] (x2 := .tuple []) kp (by decide) rfl rfl rfl rfl rfl rfl ?_
        refine W.ret ⟨_, _, _, ?_, Trim.of [1, 5, 6, 15, 16, 17] [0, 1, 3] (by decide) (by simp) ?_, i + 1, ?_, ?_, by omega, rfl⟩
        · omega
        · intro j hj
          have hj : j < 2 := by simpa [cutS, encL] using hj
          have : j = 0 ∨ j = 1 := by omega
          rcases this with rfl | rfl <;> rfl
        · rw [hnx, ← g1, @List.length_append _ [] [t]]; rfl
        · rw [hnx, cutS_cons hne, encL_app, flat_append, @List.length_append _ [] [t]]; rfl
      · rw [cutS_cons hB]
        rw [wS_ne hB] at kp
        repeat (first | refine W.ite_t hk1 ?_ | refine W.ite_t rfl ?_ | refine W.ite_f rfl ?_)
        refine W.alt_l ?_
        refine W.need ⟨rfl, rfl, rfl, by (try simp only [List.length_nil] at *); omega, by (try simp only [List.length_nil] at *); omega, by intro c hc; simp only [List.mem_cons, List.not_mem_nil, or_false] at hc; rcases hc with rfl | rfl | rfl | rfl <;> rfl⟩ ?_
        refine W.callF [0, 2] [.var [.vec 2 (encL I ++ encTh t).length], .vec 4 (I.length + 1) (flat thC I ++ thC t), .vec 1 (encL I ++ encTh t).length (bc (encL I ++ encTh t)), .var [.d (nI t.k), .d (nI t.n), .d (uI t.u), .d (sD t.s)]] (x2 := .tuple []) kp (by decide) rfl rfl rfl rfl rfl rfl ?_
        refine W.ret ⟨_, _, _, ?_, Trim.of [1, 5, 6, 15, 16, 17] [0, 1, 2] (by decide) (by simp) ?_, i + 1, ?_, ?_, by omega, rfl⟩
        · omega
        · intro j hj
          have hj : j < 2 := by simpa [cutS, encL] using hj
          have : j = 0 ∨ j = 1 := by omega
          rcases this with rfl | rfl <;> rfl
        · rw [hnx, ← g1, @List.length_append _ I [t]]; rfl
        · rw [hnx, cutS_cons hne, encL_app, flat_append, @List.length_append _ I [t]]; rfl
    · exact absurd (show t.k = 3 by simpa using hk3) (by have : t.k = 1 := by simpa using hk1
                                                         omega)
  · have hlast : i = F.length := by have := of_decide_eq_false c1; omega
    subst hlast
    have hI := hIl F.length
    have hIo := hsub F.length
    have hI13 := h13 F.length
    generalize (F.take F.length).filter k13 = I at hI hIo hI13
    have hBl := encL_len hIo
    refine W.ret ?_
    by_cases hB : encL I = []
    · rw [cutS_nil hB]
      refine W.callF [0] [.var [.d (.lit (.slice none 0 0))], .vec 4 I.length (flat thC I)] (x2 := .d (sD ⟨#[]⟩)) (ok9 []) (by decide) rfl rfl rfl rfl rfl rfl ?_
      cases c2 : decide (cut < 0) with
      | true =>
        repeat (first | refine W.ite_t c2 ?_ | refine W.ite_f c2 ?_ | refine W.ite_t rfl ?_ | refine W.ite_f rfl ?_)
        refine W.pure ok10 rfl rfl ?_
        exact W.ret (RetQ.pure rfl rfl)
      | false =>
        have c3 : decide (cut ≥ (((ByteArray.mk #[]).size : Nat) : Int)) = true := decide_eq_true (by have := of_decide_eq_false c2; show cut ≥ ((0 : Nat) : Int); omega)
        repeat (first | refine W.ite_t c2 ?_ | refine W.ite_f c2 ?_ | refine W.ite_t c3 ?_ | refine W.ite_f c3 ?_ | refine W.ite_t rfl ?_ | refine W.ite_f rfl ?_)
        refine W.pure ok10 rfl rfl ?_
        exact W.ret (RetQ.pure rfl rfl)
    · rw [cutS_cons hB]
      have kB := ok9 (encL I)
      rw [wS_ne hB] at kB
      refine W.callF [0, 2] [.var [.vec 2 (encL I).length], .vec 4 I.length (flat thC I), .vec 1 (encL I).length (bc (encL I))] (x2 := .d (sD ⟨(encL I).toArray⟩)) kB (by decide) rfl rfl rfl rfl rfl rfl ?_
      cases c2 : decide (cut < 0) with
      | true =>
        repeat (first | refine W.ite_t c2 ?_ | refine W.ite_f c2 ?_ | refine W.ite_t rfl ?_ | refine W.ite_f rfl ?_)
        refine W.pure ok10 rfl rfl ?_
        exact W.ret (RetQ.pure rfl rfl)
      | false =>
      cases c3 : decide (cut ≥ (((ByteArray.mk (encL I).toArray).size : Nat) : Int)) with
      | true =>
        repeat (first | refine W.ite_t c2 ?_ | refine W.ite_f c2 ?_ | refine W.ite_t c3 ?_ | refine W.ite_f c3 ?_ | refine W.ite_t rfl ?_ | refine W.ite_f rfl ?_)
        refine W.pure ok10 rfl rfl ?_
        exact W.ret (RetQ.pure rfl rfl)
      | false =>
        have p2 := of_decide_eq_false c2
        have p3 := of_decide_eq_false c3
        rw [size_mk] at p3
        repeat (first | refine W.ite_t c2 ?_ | refine W.ite_f c2 ?_ | refine W.ite_t c3 ?_ | refine W.ite_f c3 ?_ | refine W.ite_t rfl ?_ | refine W.ite_f rfl ?_)
        refine W.need (by rw [size_mk]; omega) ?_
        have hcut : (cut.toNat : Int) = cut := Int.toNat_of_nonneg (by omega)
        have hts : ((ByteArray.mk (encL I).toArray).extract 0 cut.toNat).data.toList = (encL I).take cut.toNat := by
          rw [ByteArray.data_extract, Array.toList_extract, List.extract_eq_take_drop]
          simp
        refine W.callF [] [.var [.vec 2 (encL I).length], .vec 4 I.length (flat thC I), .vec 1 (encL I).length (bc (encL I)), .var [.d (sD ((ByteArray.mk (encL I).toArray).extract 0 cut.toNat)), .d (nI 0), .d (.lit .nilIface)]] (x2 := .ptr 3 0) (ok11 ((ByteArray.mk (encL I).toArray).extract 0 cut.toNat)) (by decide) rfl rfl rfl rfl rfl rfl ?_
        generalize (ByteArray.mk (encL I).toArray).extract 0 cut.toNat = t at hts ⊢
        have htz : t.size = cut.toNat := by
          have := congrArg List.length hts
          have h3 : t.data.toList.length = t.size := by simp
          rw [List.length_take, h3] at this
          omega
        refine W.loop (fun k fr σ => ∃ (j a : Nat) (e : Err), fr = [(10, .ptr 3 0), (50, .vec 1 I.length), (51, .d (nI I.length)), (52, .d (nI j))] ∧ σ = [.var [.vec 2 (encL I).length], .vec 4 I.length (flat thC I), .vec 1 (encL I).length (bc (encL I)), .var [.d (sD t), .d (nI a), .d (errD e)]] ∧ cutOk I cut.toNat j a e ∧ a ≤ t.size ∧ j ≤ I.length ∧ k = I.length - j) I.length
          (Start.of [10, 50, 51, 52] [] (by simp)) ⟨0, 0, none, rfl, rfl, ⟨rfl, by omega⟩, by omega, by omega, rfl⟩ ?_
        rintro k fr σ ⟨j, a, e, rfl, rfl, hok, hat, hj, rfl⟩
        refine W.ite (fun c4 => ?_) (fun c4 => ?_)
        · have hjl : j < I.length := by have := of_decide_eq_true c4; omega
          obtain ⟨y, hy⟩ : ∃ y, I[j]? = some y := ⟨_, List.getElem?_eq_getElem hjl⟩
          have hyo := hIo y (List.mem_of_getElem? hy)
          have hyk := hI13 y (List.mem_of_getElem? hy)
          have g1 : IntKind.i64.wrap ((j : Int) + 1) = ((j + 1 : Nat) : Int) := by rw [wrap64 (by omega) (by omega)]; rfl
          refine W.need (ix_row thC_len (by decide) hjl) ?_
          refine W.ld ((thE hy).row thC_len) ?_
          cases h1 : (y.k == 1) with
          | true =>
            have hnx := cutN hts hy hyk (by simpa using h1) hyo.1 hok
            have hle := readN_le t a e hat
            have kN := ok12 t a e (by omega)
            generalize readN t a e = N at hnx hle kN
            obtain ⟨n, a', e'⟩ := N
            refine W.ite_t h1 ?_
            refine W.callF [3] [.var [.vec 2 (encL I).length], .vec 4 I.length (flat thC I), .vec 1 (encL I).length (bc (encL I)), .var [.d (sD t), .d (nI a'), .d (errD e')], .var [.d (nI y.k), .d (nI y.n), .d (uI y.u), .d (sD y.s)]] (x2 := .d (uI n)) kN (by decide) rfl rfl rfl rfl rfl rfl ?_
            refine W.ret ⟨_, _, _, ?_, Trim.of [10, 50, 51, 52] [0, 1, 2, 3] (by decide) (by simp) ?_, j + 1, a', e', ?_, rfl, hnx, hle, by omega, rfl⟩
            · omega
            · intro q hq
              have hq : q < 4 := hq
              have : q = 0 ∨ q = 1 ∨ q = 2 ∨ q = 3 := by omega
              rcases this with rfl | rfl | rfl | rfl <;> rfl
            · rw [← g1]; rfl
          | false =>
            have hnx := cutT hts hy hyk (by simpa using h1) hyo.2 hok
            have hle := readT_le (e := e) (most := 200) hat
            have kN := ok13 t a e 200 (by decide) hat (by omega)
            generalize readT t a e 200 = N at hnx hle kN
            obtain ⟨n, a', e'⟩ := N
            refine W.ite_f h1 ?_
            refine W.callF [3] [.var [.vec 2 (encL I).length], .vec 4 I.length (flat thC I), .vec 1 (encL I).length (bc (encL I)), .var [.d (sD t), .d (nI a'), .d (errD e')], .var [.d (nI y.k), .d (nI y.n), .d (uI y.u), .d (sD y.s)]] (x2 := .d (sD n)) kN (by decide) rfl rfl rfl rfl rfl rfl ?_
            refine W.ret ⟨_, _, _, ?_, Trim.of [10, 50, 51, 52] [0, 1, 2, 3] (by decide) (by simp) ?_, j + 1, a', e', ?_, rfl, hnx, hle, by omega, rfl⟩
            · omega
            · intro q hq
              have hq : q < 4 := hq
              have : q = 0 ∨ q = 1 ∨ q = 2 ∨ q = 3 := by omega
              rcases this with rfl | rfl | rfl | rfl <;> rfl
            · rw [← g1]; rfl
        · have hlast : j = I.length := by have := of_decide_eq_false c4; omega
          subst hlast
          cases e with
          | none =>
            obtain ⟨q1, q2⟩ := hok
            rw [List.take_length] at q1
            omega
          | some x =>
            have hx : x.2 = 10 := hok
            refine W.ret ?_
            refine W.pure ok10 rfl rfl ?_
            repeat (first | refine W.ite_t rfl ?_ | refine W.ite_f rfl ?_)
            have kD := ok15 t a (some x)
            rw [show doneE t a (some x) = some x from by unfold doneE failE; split <;> rfl] at kD
            refine W.callF [3] [.var [.vec 2 (encL I).length], .vec 4 I.length (flat thC I), .vec 1 (encL I).length (bc (encL I)), .var [.d (sD t), .d (nI a), .d (ftD codeW x.1 x.2)]] (x2 := .d (ftD codeW x.1 x.2)) kD (by decide) rfl rfl rfl rfl rfl rfl ?_
            repeat (first | refine W.ite_t rfl ?_ | refine W.ite_f rfl ?_)
            refine W.pure (As.okOf codeW x.1 x.2) rfl rfl ?_
            repeat (first | refine W.ite_t rfl ?_ | refine W.ite_f rfl ?_)
            exact W.ret (RetQ.pure rfl (ret_bI (by rw [hx]; rfl)))
end Go.Proofs.YtgbhfnbehmlohaaDoor.Co
