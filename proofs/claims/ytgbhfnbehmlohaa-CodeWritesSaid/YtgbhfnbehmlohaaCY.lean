import Derived.Test.YtgbhfnbehmlohaaCU
set_option maxRecDepth 100000
set_option linter.unusedVariables false
set_option linter.unusedSimpArgs false
namespace Go.Proofs.Ytgbhfnbehmlohaa.Co
open Go Go.Am
def od9 : Ords := []
theorem code9 : codeB Try.f9.ntmps od9 (match Try.f9.body with | some c => c | none => .skip) = true := by kernel_rfl
def od3 : Ords := []
theorem code3 : codeB Try.f3.ntmps od3 (match Try.f3.body with | some c => c | none => .skip) = true := by kernel_rfl
theorem ok9 (t : Th) (ho : t.ok) (hs : t.s.size ≤ 200) : Go.Am.Pure Try.prog 9 [.d (.agg (thC t))] (.d (sD (bA (encTh t)))) := by
  refine CallOk.of tysOk mixed od9 Try.func9 rfl rfl code9 ?_
  unfold encTh
  cases h1 : (t.k == 1) with
  | true =>
    rw [if_pos (by simpa using h1)]
    repeat (first | refine W.ite_t h1 ?_)
    refine W.pure (ok23 t.u ho.2.2) rfl rfl ?_
    exact W.ret (RetQ.pure rfl rfl)
  | false =>
  rw [if_neg (by simpa using h1)]
  cases h2 : (t.k == 2) with
  | true =>
    rw [if_pos (.inl (by simpa using h2))]
    repeat (first | refine W.ite_f h1 ?_ | refine W.ite_t h2 ?_)
    refine W.pure (ok24 t.n ho.1 ho.2.1) rfl rfl ?_
    exact W.ret (RetQ.pure rfl rfl)
  | false =>
  cases h4 : (t.k == 4) with
  | true =>
    rw [if_pos (.inr (by simpa using h4))]
    repeat (first | refine W.ite_f h1 ?_ | refine W.ite_f h2 ?_ | refine W.ite_t h4 ?_)
    refine W.pure (ok24 t.n ho.1 ho.2.1) rfl rfl ?_
    exact W.ret (RetQ.pure rfl rfl)
  | false =>
  rw [if_neg (by rintro (h | h) <;> simp_all)]
  cases h3 : (t.k == 3) with
  | true =>
    rw [if_pos (by simpa using h3)]
    repeat (first | refine W.ite_f h1 ?_ | refine W.ite_f h2 ?_ | refine W.ite_f h4 ?_ | refine W.ite_t h3 ?_)
    refine W.pure (ok25 t.s (by omega)) rfl rfl ?_
    exact W.ret (RetQ.pure rfl rfl)
  | false =>
    rw [if_neg (by simpa using h3)]
    repeat (first | refine W.ite_f h1 ?_ | refine W.ite_f h2 ?_ | refine W.ite_f h4 ?_ | refine W.ite_f h3 ?_)
    exact W.ret (RetQ.pure rfl rfl)
set_option maxHeartbeats 8000000 in
theorem ok3 (l : List Th) (hl : ∀ t ∈ l, t.ok) : Go.Am.Pure Try.prog 3 [slF thC l] (bI true) := by
  refine CallOk.of tysOk mixed od3 Try.func3 rfl rfl code3 ?_
  refine W.pure (ok7 l 40 (by decide)) rfl rfl ?_
  have hT := fewTh_ok (m := 40) hl
  have hL := fewTh_len l 40
  generalize fewTh l 40 = L at hT hL
  have hlen := encL_len hT
  refine W.loop (fun k fr σ => ∃ i : Nat, fr = [(3, .ptr 0 0), (4, .d (sD (bA (encL (L.take i))))), (8, slF thC L), (9, .d (nI L.length)), (10, .d (nI i))] ∧ σ = wS (encL (L.take i)) ∧ i ≤ L.length ∧ k = L.length - i) L.length
    (Start.of [3, 4, 8, 9, 10] [] (by simp)) ⟨0, rfl, rfl, by omega, rfl⟩ ?_
  rintro k fr σ ⟨i, rfl, rfl, hi, rfl⟩
  refine W.ite (fun c1 => ?_) (fun c1 => ?_)
  · have hil : i < L.length := by have := of_decide_eq_true c1; omega
    obtain ⟨t, ht⟩ : ∃ t, L[i]? = some t := ⟨_, List.getElem?_eq_getElem hil⟩
    have hto := hT t (List.mem_of_getElem? ht)
    have hpre : (encL (L.take i)).length ≤ 210 * (L.take i).length := encL_len fun x hx => hT x (List.mem_of_mem_take hx)
    have hti : (L.take i).length = i := by simp; omega
    have htl := encTh_len hto.1 hto.2
    have kp := ok8 (encL (L.take i)) t hto.1 (by omega)
    rw [← encL_take ht] at kp
    have hmono : encL (L.take (i + 1)) = [] → encL (L.take i) = [] := fun h => by
      rw [encL_take ht] at h
      exact (List.append_eq_nil_iff.1 h).1
    have happ : bA (encL (L.take i)) ++ bA (encTh t) = bA (encL (L.take (i + 1))) := by rw [bA_append, encL_take ht]
    have hsz : (((bA (encL (L.take i))).size + (bA (encTh t)).size : Nat) : Int) ≤ IntKind.i64.max := by
      rw [bA_size, bA_size, maxI]; omega
    have g1 : IntKind.i64.wrap ((i : Int) + 1) = ((i + 1 : Nat) : Int) := by rw [wrap64 (by omega) (by omega)]; rfl
    have kw := ok9 t hto.1 hto.2
    refine W.need (ix_ok thC_len (by decide) hil) ?_
    refine W.ld (thE ht) ?_
    generalize hA : encL (L.take i) = A at *
    generalize hB : encL (L.take (i + 1)) = B at *
    cases A with
    | nil =>
      cases B with
      | nil =>
        refine W.callF [0] [.var [.d (.lit (.slice none 0 0))], .var [.d (nI t.k), .d (nI t.n), .d (uI t.u), .d (sD t.s)]] (x2 := .tuple []) kp (by decide) rfl rfl rfl rfl rfl rfl ?_
        refine W.pure kw rfl rfl ?_
        refine W.need hsz ?_
        refine W.ret ⟨_, _, _, ?_, Trim.of [3, 4, 8, 9, 10] [0] (by decide) (by simp) (by intro j hj; have : j = 0 := (by simp at hj; omega); subst this; rfl), i + 1, ?_, ?_, by omega, rfl⟩
        · omega
        · show [(3, AV.ptr 0 0), (4, AV.d (.lit (.string (bA [] ++ bA (encTh t))))), (8, slF thC L), (9, AV.d (nI L.length)), (10, AV.d (.lit (.int .i64 (IntKind.i64.wrap ((i : Int) + 1)))))] = _
          rw [hB, happ, g1]
        · rw [hB]; rfl
      | cons b r =>
        refine W.callF [0] [.var [.vec 2 (r.length + 1)], .var [.d (nI t.k), .d (nI t.n), .d (uI t.u), .d (sD t.s)], .vec 1 (r.length + 1) (bc (b :: r))] (x2 := .tuple []) kp (by decide) rfl rfl rfl rfl rfl rfl ?_
        refine W.pure kw rfl rfl ?_
        refine W.need hsz ?_
        refine W.ret ⟨_, _, _, ?_, Trim.of [3, 4, 8, 9, 10] [0, 2] (by decide) (by simp) (by intro j hj; have : j = 0 := (by simp at hj; omega); subst this; rfl), i + 1, ?_, ?_, by omega, rfl⟩
        · omega
        · show [(3, AV.ptr 0 0), (4, AV.d (.lit (.string (bA [] ++ bA (encTh t))))), (8, slF thC L), (9, AV.d (nI L.length)), (10, AV.d (.lit (.int .i64 (IntKind.i64.wrap ((i : Int) + 1)))))] = _
          rw [hB, happ, g1]
        · rw [hB]; rfl
    | cons b' r' =>
      cases B with
      | nil => exact absurd (hmono rfl) (by simp)
      | cons b r =>
        refine W.callF [0, 1] [.var [.vec 1 (r.length + 1)], .vec 1 (r.length + 1) (bc (b :: r)), .var [.d (nI t.k), .d (nI t.n), .d (uI t.u), .d (sD t.s)]] (x2 := .tuple []) kp (by decide) rfl rfl rfl rfl rfl rfl ?_
        refine W.pure kw rfl rfl ?_
        refine W.need hsz ?_
        refine W.ret ⟨_, _, _, ?_, Trim.of [3, 4, 8, 9, 10] [0, 1] (by decide) (by simp) (by intro j hj; have : j = 0 := (by simp at hj; omega); subst this; rfl), i + 1, ?_, ?_, by omega, rfl⟩
        · omega
        · show [(3, AV.ptr 0 0), (4, AV.d (.lit (.string (bA (b' :: r') ++ bA (encTh t))))), (8, slF thC L), (9, AV.d (nI L.length)), (10, AV.d (.lit (.int .i64 (IntKind.i64.wrap ((i : Int) + 1)))))] = _
          rw [hB, happ, g1]
        · rw [hB]; rfl
  · have hlast : i = L.length := by have := of_decide_eq_false c1; omega
    subst hlast
    rw [List.take_length]
    refine W.ret ?_
    refine W.pure ok10 rfl rfl ?_
    have kB := ok11 (encL L)
    have he : ((bA (encL L)).toList == (bA (encL L)).toList) = true := beq_self_eq_true _
    generalize encL L = B at *
    cases B with
    | nil =>
      repeat (first | refine W.ite_f rfl ?_ | refine W.ite_t rfl ?_)
      refine W.callF [0] [.var [.d (.lit (.slice none 0 0))]] (x2 := .d (sD ⟨#[]⟩)) kB (by decide) rfl rfl rfl rfl rfl rfl ?_
      repeat (first | refine W.ite_t he ?_ | refine W.ite_f rfl ?_ | refine W.ite_t rfl ?_)
      exact W.ret (RetQ.pure rfl (ret_bI he))
    | cons b r =>
      repeat (first | refine W.ite_f rfl ?_ | refine W.ite_t rfl ?_)
      refine W.callF [0, 1] [.var [.vec 1 (r.length + 1)], .vec 1 (r.length + 1) (bc (b :: r))] (x2 := .d (sD (bA (b :: r)))) kB (by decide) rfl rfl rfl rfl rfl rfl ?_
      repeat (first | refine W.ite_t he ?_ | refine W.ite_f rfl ?_ | refine W.ite_t rfl ?_)
      exact W.ret (RetQ.pure rfl (ret_bI he))
end Go.Proofs.Ytgbhfnbehmlohaa.Co
