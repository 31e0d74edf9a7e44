import Derived.Test.YtddhlmejaobcgaaDoorV6
set_option maxRecDepth 100000
set_option linter.unusedVariables false
set_option linter.unusedSimpArgs false
namespace Go.Proofs.YtddhlmejaobcgaaDoor.Va
open Go Go.Am
def od7 : Ords := []
theorem code7 : codeB Tryd.f7.ntmps od7 (match Tryd.f7.body with | some c => c | none => .skip) = true := by kernel_rfl
def cutV50 (v : Val) : Val := { v with str := cutN v.str 50 }
/-- The first six values, their texts cut. -/
def evt6 (e : Evt) : Evt := ⟨(e.vals.take 6).map cutV50, cutN e.pay 210⟩
/-- Its values so far, as a slice. -/
def valsA (k : Nat) (L : List Val) : AV := match L with | [] => .d (.lit (.slice none 0 0)) | _ :: _ => .vec k L.length
def valsB (L : List Val) : List Blk := match L with | [] => [] | _ :: _ => [.vec 2 L.length (flat vaC L)]
theorem tk {i n : Nat} {T : List Nat} (hT : ∀ j, j < n → T[j]? = some j) : ∀ j, j < n → T[j]? = some j := hT
theorem four_ix {i : Nat} (h : i < 4) (r : List Nat) : (0 :: 1 :: 2 :: 3 :: r)[i]? = some i := by
  have : i = 0 ∨ i = 1 ∨ i = 2 ∨ i = 3 := by omega
  rcases this with rfl | rfl | rfl | rfl <;> rfl
set_option maxHeartbeats 8000000 in
theorem ok7 (e : Evt) : Go.Am.Pure Tryd.prog 7 [.d (.agg (evC e))] (.tuple [.d (.agg (evC (evt6 e))), slF vaC (evt6 e).vals]) := by
  refine CallOk.weak (R := fun v s => v = .tuple [.d (.agg [(match (evt6 e).vals with | [] => .lit (.slice none 0 0) | _ :: _ => .sl (evt6 e).vals.length (flat vaC (evt6 e).vals)), sD (evt6 e).pay]), slF vaC (evt6 e).vals] ∧ s = []) ?_ ?_
  · refine CallOk.of tysOk mixed od7 Tryd.func7 rfl rfl code7 ?_
    refine W.pure (ok22 e.pay 210) rfl rfl ?_
    generalize hpay : cutN e.pay 210 = pay
    refine W.loop (fun k fr σ => ∃ (i : Nat) (L : List Val), fr = [(1, .ptr 0 0), (2, .ptr 1 0), (4, .ptr 3 0), (5, .vec 2 L.length), (6, .d (nI i))] ∧
        σ = bD (evC e) :: .var [.d (.lit (.slice none 0 0)), .d (sD ⟨#[]⟩)] :: .vec 2 L.length (flat vaC L) :: .var [valsA 4 L, .d (sD pay)] :: valsB L ∧ i ≤ e.vals.length ∧ i ≤ 6 ∧ L = (e.vals.take i).map cutV50 ∧ k = 6 - i) 6
      (Start.of [1, 2, 4, 5, 6] [] (by simp)) ⟨0, [], rfl, rfl, by omega, by omega, by simp, rfl⟩ ?_
    rintro k fr σ ⟨i, L, rfl, rfl, hi, hi6, hL, rfl⟩
    have hlen : L.length = i := by rw [hL]; simp; omega
    have over : ¬ ((i : Int) < e.vals.length ∧ (i : Int) < 6) → L = (evt6 e).vals := fun h => by
      rw [hL]
      unfold evt6
      dsimp only
      congr 1
      by_cases h6 : i = 6
      · rw [h6]
      · have : i = e.vals.length := by omega
        rw [List.take_of_length_le (by omega), List.take_of_length_le (by omega)]
    have fin : ∀ {L : List Val} {σ : Store}, L = (evt6 e).vals → σ = bD (evC e) :: .var [valsA 4 L, .d (sD pay)] :: .vec 2 L.length (flat vaC L) :: .var [valsA 4 L, .d (sD pay)] :: valsB L →
        RetQ ([] : Store).length (fun v s => v = .tuple [.d (.agg [(match (evt6 e).vals with | [] => .lit (.slice none 0 0) | _ :: _ => .sl (evt6 e).vals.length (flat vaC (evt6 e).vals)), sD (evt6 e).pay]), slF vaC (evt6 e).vals] ∧ s = []) .ret
          [(0, .tuple [mkAgg [valsA 4 L, .d (sD pay)], .vec 2 L.length])] σ := fun {L σ} hL hσ => by
      subst hσ
      have hp : (evt6 e).pay = pay := hpay
      rw [hp, ← hL]
      refine RetQ.part [] (by decide) (by simp) (by simp) ⟨?_, rfl⟩
      cases L with
      | nil =>
        show AV.tuple [.d (.agg [.lit (.slice none 0 0), sD pay]), .d (.sl 0 ((flat vaC []).take (0 * 2)))] = _
        rfl
      | cons x r =>
        show AV.tuple [.d (.agg [.sl (x :: r).length ((flat vaC (x :: r)).take ((x :: r).length * 2)), sD pay]), .d (.sl (x :: r).length ((flat vaC (x :: r)).take ((x :: r).length * 2)))] = _
        rw [flat_all vaC_len]
        rfl
    have stop : ∀ {L : List Val}, L = (evt6 e).vals → True := fun _ => True.intro
    refine W.ite (fun c1 => ?_) (fun c1 => ?_)
    · have h1 := of_decide_eq_true c1
      repeat (first | refine W.ite_t rfl ?_ | refine W.ite_f rfl ?_ | refine W.ite_t c1 ?_)
      refine W.ite (fun c2 => ?_) (fun c2 => ?_)
      · have h2 := of_decide_eq_true c2
        obtain ⟨v, hv⟩ : ∃ v, e.vals[i]? = some v := ⟨_, List.getElem?_eq_getElem (by omega)⟩
        have g1 : IntKind.i64.wrap ((i : Int) + 1) = ((i + 1 : Nat) : Int) := by rw [wrap64 (by omega) (by omega)]; rfl
        have hl1 : (L ++ [cutV50 v]).length = L.length + 1 := by simp
        have hf1 : flat vaC (L ++ [cutV50 v]) = flat vaC L ++ vaC (cutV50 v) := by rw [flat_append]; simp [flat]
        have hL1 : L ++ [cutV50 v] = (e.vals.take (i + 1)).map cutV50 := by rw [take_succ_of hv, hL]
        refine W.need (ix_ok vaC_len (by decide) (by omega)) ?_
        cases L with
        | nil =>
          refine W.ld (vaE hv) ?_
          refine W.pure (ok22 v.str 50) rfl rfl ?_
          refine W.alt_l ?_
          refine W.need ⟨rfl, by decide, by decide, vaC_one (cutV50 v)⟩ ?_
          refine W.alt_l ?_
          refine W.need ⟨rfl, rfl, rfl, by decide, by decide, vaC_one (cutV50 v)⟩ ?_
          refine W.ret ⟨_, _, _, ?_, Trim.of [1, 2, 4, 5, 6] [0, 1, 2, 3, 5] (by decide) (by simp) (fun j hj => four_ix (by simpa [valsB] using hj) _), i + 1, [] ++ [cutV50 v], ?_, rfl, by omega, by omega, hL1, rfl⟩
          · omega
          · rw [← g1]; rfl
        | cons x r =>
          refine W.ld (vaE hv) ?_
          refine W.pure (ok22 v.str 50) rfl rfl ?_
          refine W.alt_l ?_
          refine W.need ⟨rfl, rfl, rfl, by simp at hlen ⊢; omega, by simp at hlen ⊢; omega, vaC_one (cutV50 v)⟩ ?_
          refine W.alt_l ?_
          refine W.need ⟨rfl, rfl, rfl, by simp at hlen ⊢; omega, by simp at hlen ⊢; omega, vaC_one (cutV50 v)⟩ ?_
          refine W.ret ⟨_, _, _, ?_, Trim.of [1, 2, 4, 5, 6] [0, 1, 2, 3, 4] (by decide) (by simp) ?_, i + 1, (x :: r) ++ [cutV50 v], ?_, ?_, by omega, by omega, hL1, rfl⟩
          · omega
          · intro j hj
            have : j = 0 ∨ j = 1 ∨ j = 2 ∨ j = 3 ∨ j = 4 := by simp [valsB] at hj; omega
            rcases this with rfl | rfl | rfl | rfl | rfl <;> rfl
          · rw [hl1, ← g1]; rfl
          · rw [hl1, hf1]
            show _ = bD (evC e) :: .var [.d (.lit (.slice none 0 0)), .d (sD ⟨#[]⟩)] :: .vec 2 ((x :: r).length + 1) (flat vaC (x :: r) ++ vaC (cutV50 v)) :: .var [.vec 4 ((x :: r) ++ [cutV50 v]).length, .d (sD pay)] :: [.vec 2 ((x :: r) ++ [cutV50 v]).length (flat vaC ((x :: r) ++ [cutV50 v]))]
            rw [hl1, hf1]
            rfl
      · have h2 := of_decide_eq_false c2
        have hov := over (by omega)
        refine W.ret ?_
        cases L with
        | nil => exact W.ret (fin hov rfl)
        | cons x r => exact W.ret (fin hov rfl)
    · have h1 := of_decide_eq_false c1
      have hov := over (by omega)
      repeat (first | refine W.ite_t rfl ?_ | refine W.ite_f rfl ?_ | refine W.ite_f c1 ?_)
      refine W.ret ?_
      cases L with
      | nil => exact W.ret (fin hov rfl)
      | cons x r => exact W.ret (fin hov rfl)
  · rintro v s ⟨rfl, rfl⟩
    refine ⟨_, fun g x h => ?_, rfl, rfl⟩
    obtain ⟨vs, rfl, a, r, rfl, ha, k⟩ := h
    refine ⟨_, rfl, a, r, rfl, ?_, k⟩
    obtain ⟨us, rfl, b, t, rfl, hb, kb⟩ := ha
    refine ⟨_, rfl, b, t, rfl, ?_, kb⟩
    cases hv : (evt6 e).vals with
    | nil =>
      rw [hv] at hb
      exact ⟨none, 0, hb, Nat.le_refl _, .inl rfl⟩
    | cons y ys =>
      rw [hv] at hb
      exact hb
end Go.Proofs.YtddhlmejaobcgaaDoor.Va
