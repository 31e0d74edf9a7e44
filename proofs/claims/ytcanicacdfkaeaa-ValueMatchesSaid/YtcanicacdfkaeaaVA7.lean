import Derived.Test.YtcanicacdfkaeaaVA6
import Derived.Test.YtcanicacdfkaeaaVA1
set_option maxRecDepth 100000
set_option linter.unusedVariables false
set_option linter.unusedSimpArgs false
namespace Go.Proofs.Ytcanicacdfkaeaa.Va
open Go Go.Am
def optI : Option Nat → Int
  | none => -1
  | some i => i
theorem sEq_bne {s t : ByteArray} : (!(s.toList == t.toList)) = !sEq s t := rfl
set_option maxHeartbeats 4000000 in
theorem ok41 (a : Att) (p : Prd) (hs : p.str.size ≤ 4611686018427387904) : Go.Am.Pure Try.prog 41 [.d (.agg (atC a)), .d (.agg (prC p))] (bI (prdOk a p)) := by
  refine CallOk.of tysOk mixed [] Try.func41 rfl rfl code41 ?_
  refine W.ite (fun c1 => ?_) (fun c1 => ?_)
  · have h1 : p.o = 1 := by simpa using c1
    have ht : prdOk a p = (((((a.k == 1) && decide (p.lo ≥ a.mn)) && decide (p.hi ≤ a.mx)) && decide (p.lo ≤ p.hi)) && sEq p.str (txt [])) := by unfold prdOk; rw [if_pos h1]; rfl
    rw [ht]
    refine W.ite (fun e1 => ?_) (fun e1 => ?_)
    · have e1 : (a.k == 1) = true := e1
      repeat (first | refine W.ite_t rfl ?_ | refine W.ite_f rfl ?_ | refine W.ite_t e1 ?_)
      refine W.ite (fun e2 => ?_) (fun e2 => ?_)
      · have e2 : decide (a.mn ≤ p.lo) = true := e2
        repeat (first | refine W.ite_t rfl ?_ | refine W.ite_f rfl ?_ | refine W.ite_t e1 ?_ | refine W.ite_t e2 ?_)
        refine W.ite (fun e3 => ?_) (fun e3 => ?_)
        · have e3 : decide (p.lo ≤ p.hi) = true := e3
          repeat (first | refine W.ite_t rfl ?_ | refine W.ite_f rfl ?_ | refine W.ite_t e1 ?_ | refine W.ite_t e2 ?_ | refine W.ite_t e3 ?_)
          refine W.ite (fun e4 => ?_) (fun e4 => ?_)
          · have e4 : decide (p.hi ≤ a.mx) = true := e4
            repeat (first | refine W.ite_t rfl ?_ | refine W.ite_f rfl ?_ | refine W.ite_t e1 ?_ | refine W.ite_t e2 ?_ | refine W.ite_t e3 ?_ | refine W.ite_t e4 ?_)
            refine W.ret (RetQ.pure rfl (ret_bI ?_))
            rw [e1, e3, e4, show decide (p.lo ≥ a.mn) = true from e2]
            rfl
          · have e4 : decide (p.hi ≤ a.mx) = false := e4
            repeat (first | refine W.ite_t rfl ?_ | refine W.ite_f rfl ?_ | refine W.ite_t e1 ?_ | refine W.ite_t e2 ?_ | refine W.ite_t e3 ?_ | refine W.ite_f e4 ?_)
            refine W.ret (RetQ.pure rfl (ret_bI ?_))
            rw [e4]; simp
        · have e3 : decide (p.lo ≤ p.hi) = false := e3
          repeat (first | refine W.ite_t rfl ?_ | refine W.ite_f rfl ?_ | refine W.ite_t e1 ?_ | refine W.ite_t e2 ?_ | refine W.ite_f e3 ?_)
          refine W.ret (RetQ.pure rfl (ret_bI ?_))
          rw [e3]; simp
      · have e2 : decide (a.mn ≤ p.lo) = false := e2
        repeat (first | refine W.ite_t rfl ?_ | refine W.ite_f rfl ?_ | refine W.ite_t e1 ?_ | refine W.ite_f e2 ?_)
        refine W.ret (RetQ.pure rfl (ret_bI ?_))
        rw [show decide (p.lo ≥ a.mn) = false from e2]; simp
    · have e1 : (a.k == 1) = false := e1
      repeat (first | refine W.ite_t rfl ?_ | refine W.ite_f rfl ?_ | refine W.ite_f e1 ?_)
      refine W.ret (RetQ.pure rfl (ret_bI ?_))
      rw [e1]; simp
  · have h1 : ¬ p.o = 1 := by simpa using c1
    refine W.ite (fun c2 => ?_) (fun c2 => ?_)
    · have c2 : (p.o == 2) = true := c2
      have h2 : p.o = 2 := by simpa using c2
      have ht : prdOk a p = ((((a.k == 2) && (p.lo == 0)) && (p.hi == 0)) && strOk p.str) := by unfold prdOk; rw [if_neg h1, if_neg (by omega), if_pos h2]; rfl
      repeat (first | refine W.ite_t rfl ?_ | refine W.ite_f rfl ?_ | refine W.ite_t c2 ?_)
      rw [ht]
      refine W.ite (fun e1 => ?_) (fun e1 => ?_)
      · have e1 : (a.k == 2) = true := e1
        repeat (first | refine W.ite_t rfl ?_ | refine W.ite_f rfl ?_ | refine W.ite_t e1 ?_)
        refine W.ite (fun e2 => ?_) (fun e2 => ?_)
        · have e2 : (p.lo == 0) = true := e2
          repeat (first | refine W.ite_t rfl ?_ | refine W.ite_f rfl ?_ | refine W.ite_t e1 ?_ | refine W.ite_t e2 ?_)
          refine W.ite (fun e3 => ?_) (fun e3 => ?_)
          · have e3 : (p.hi == 0) = true := e3
            repeat (first | refine W.ite_t rfl ?_ | refine W.ite_f rfl ?_ | refine W.ite_t e1 ?_ | refine W.ite_t e2 ?_ | refine W.ite_t e3 ?_)
            refine W.pure (ok42 p.str hs) rfl rfl ?_
            repeat (first | refine W.ite_t rfl ?_ | refine W.ite_f rfl ?_ | refine W.ite_t e1 ?_ | refine W.ite_t e2 ?_ | refine W.ite_t e3 ?_)
            refine W.ret (RetQ.pure rfl (ret_bI ?_))
            rw [e1, e2, e3]
            rfl
          · have e3 : (p.hi == 0) = false := e3
            repeat (first | refine W.ite_t rfl ?_ | refine W.ite_f rfl ?_ | refine W.ite_t e1 ?_ | refine W.ite_t e2 ?_ | refine W.ite_f e3 ?_)
            refine W.ret (RetQ.pure rfl (ret_bI ?_))
            rw [e3]; simp
        · have e2 : (p.lo == 0) = false := e2
          repeat (first | refine W.ite_t rfl ?_ | refine W.ite_f rfl ?_ | refine W.ite_t e1 ?_ | refine W.ite_f e2 ?_)
          refine W.ret (RetQ.pure rfl (ret_bI ?_))
          rw [e2]; simp
      · have e1 : (a.k == 2) = false := e1
        repeat (first | refine W.ite_t rfl ?_ | refine W.ite_f rfl ?_ | refine W.ite_f e1 ?_)
        refine W.ret (RetQ.pure rfl (ret_bI ?_))
        rw [e1]; simp
    · have c2 : (p.o == 2) = false := c2
      have h2 : ¬ p.o = 2 := by simpa using c2
      repeat (first | refine W.ite_t rfl ?_ | refine W.ite_f rfl ?_ | refine W.ite_f c2 ?_)
      refine W.ite (fun c3 => ?_) (fun c3 => ?_)
      · have c3 : (p.o == 3) = true := c3
        have h3 : p.o = 3 := by simpa using c3
        repeat (first | refine W.ite_t rfl ?_ | refine W.ite_f rfl ?_ | refine W.ite_f c2 ?_ | refine W.ite_t c3 ?_)
        cases hz : sEq p.str (txt []) with
        | true =>
          have d1 : (!sEq p.str (txt [])) = false := by rw [hz]; rfl
          repeat (first | refine W.ite_t rfl ?_ | refine W.ite_f rfl ?_ | refine W.ite_f c2 ?_ | refine W.ite_t c3 ?_ | refine W.ite_f d1 ?_)
          refine W.ret (RetQ.pure rfl (ret_bI ?_))
          unfold prdOk
          rw [if_neg h1, if_pos h3, if_pos hz]
        | false =>
          have d1 : (!sEq p.str (txt [])) = true := by rw [hz]; rfl
          have ht : prdOk a p = ((((a.k == 2) && (p.lo == 0)) && (p.hi == 0)) && strOk p.str) := by unfold prdOk; rw [if_neg h1, if_pos h3, if_neg (by rw [hz]; decide)]; rfl
          repeat (first | refine W.ite_t rfl ?_ | refine W.ite_f rfl ?_ | refine W.ite_f c2 ?_ | refine W.ite_t c3 ?_ | refine W.ite_t d1 ?_)
          rw [ht]
          refine W.ite (fun e1 => ?_) (fun e1 => ?_)
          · have e1 : (a.k == 2) = true := e1
            repeat (first | refine W.ite_t rfl ?_ | refine W.ite_f rfl ?_ | refine W.ite_t e1 ?_)
            refine W.ite (fun e2 => ?_) (fun e2 => ?_)
            · have e2 : (p.lo == 0) = true := e2
              repeat (first | refine W.ite_t rfl ?_ | refine W.ite_f rfl ?_ | refine W.ite_t e1 ?_ | refine W.ite_t e2 ?_)
              refine W.ite (fun e3 => ?_) (fun e3 => ?_)
              · have e3 : (p.hi == 0) = true := e3
                repeat (first | refine W.ite_t rfl ?_ | refine W.ite_f rfl ?_ | refine W.ite_t e1 ?_ | refine W.ite_t e2 ?_ | refine W.ite_t e3 ?_)
                refine W.pure (ok42 p.str hs) rfl rfl ?_
                repeat (first | refine W.ite_t rfl ?_ | refine W.ite_f rfl ?_ | refine W.ite_t e1 ?_ | refine W.ite_t e2 ?_ | refine W.ite_t e3 ?_)
                refine W.ret (RetQ.pure rfl (ret_bI ?_))
                rw [e1, e2, e3]
                rfl
              · have e3 : (p.hi == 0) = false := e3
                repeat (first | refine W.ite_t rfl ?_ | refine W.ite_f rfl ?_ | refine W.ite_t e1 ?_ | refine W.ite_t e2 ?_ | refine W.ite_f e3 ?_)
                refine W.ret (RetQ.pure rfl (ret_bI ?_))
                rw [e3]; simp
            · have e2 : (p.lo == 0) = false := e2
              repeat (first | refine W.ite_t rfl ?_ | refine W.ite_f rfl ?_ | refine W.ite_t e1 ?_ | refine W.ite_f e2 ?_)
              refine W.ret (RetQ.pure rfl (ret_bI ?_))
              rw [e2]; simp
          · have e1 : (a.k == 2) = false := e1
            repeat (first | refine W.ite_t rfl ?_ | refine W.ite_f rfl ?_ | refine W.ite_f e1 ?_)
            refine W.ret (RetQ.pure rfl (ret_bI ?_))
            rw [e1]; simp
      · have c3 : (p.o == 3) = false := c3
        have h3 : ¬ p.o = 3 := by simpa using c3
        repeat (first | refine W.ite_t rfl ?_ | refine W.ite_f rfl ?_ | refine W.ite_f c2 ?_ | refine W.ite_f c3 ?_)
        refine W.ret (RetQ.pure rfl (ret_bI ?_))
        unfold prdOk
        rw [if_neg h1, if_neg h3, if_neg h2]
set_option maxHeartbeats 8000000 in
theorem ok26 (s : List Att) (hsl : s.length ≤ 4611686018427387904) (e : Evt) (hsz : ∀ v ∈ e.vals, v.str.size ≤ 4611686018427387904) : Go.Am.Pure Try.prog 26 [slF atC s, slF vaC e.vals, .d (nI e.pay.size)] (.d (nI (optI (evtErr s e)))) := by
  refine CallOk.of tysOk mixed [] Try.func26 rfl rfl code26 ?_
  have bad : (e.vals.length ≠ s.length ∨ (e.pay.size : Int) > 200) → ∀ {σ : Store}, RetQ ([] : Store).length (fun v s' => v = .d (nI (optI (evtErr s e))) ∧ s' = []) .ret [(0, mkRet [.d (nI 0)])] σ := fun h σ => by
    refine RetQ.pure rfl ?_
    unfold evtErr
    rw [if_pos h]
    rfl
  refine W.ite (fun c1 => ?_) (fun c1 => ?_)
  · have h1 : e.vals.length ≠ s.length := by have : ((e.vals.length : Int) != s.length) = true := c1; intro h; rw [h] at this; simp at this
    repeat (first | refine W.ite_t rfl ?_ | refine W.ite_f rfl ?_ | refine W.ite_t c1 ?_)
    exact W.ret (bad (.inl h1))
  have h1 : e.vals.length = s.length := by have : ((e.vals.length : Int) != s.length) = false := c1; have : (e.vals.length : Int) = s.length := (by simpa using this); omega
  repeat (first | refine W.ite_t rfl ?_ | refine W.ite_f rfl ?_ | refine W.ite_f c1 ?_)
  refine W.ite (fun c2 => ?_) (fun c2 => ?_)
  · exact W.ret (bad (.inr (of_decide_eq_true c2)))
  have h2 := of_decide_eq_false c2
  have hE : evtErr s e = fitsFrom s e.vals 0 := by unfold evtErr; rw [if_neg (by rintro (h | h); exact h h1; exact h2 h)]
  rw [hE]
  clear bad
  refine W.loop (fun k fr σ => ∃ i : Nat, fr = [(1, slF vaC e.vals), (19, slF atC s), (20, .d (nI s.length)), (21, .d (nI i))] ∧ σ = [] ∧ i ≤ s.length ∧ fitsFrom (s.drop i) (e.vals.drop i) i = fitsFrom s e.vals 0 ∧ k = s.length - i) s.length
    (Start.of [1, 19, 20, 21] [] (by simp)) ⟨0, rfl, rfl, by omega, rfl, rfl⟩ ?_
  rintro k fr σ ⟨i, rfl, rfl, hi, hr, rfl⟩
  refine W.ite (fun c3 => ?_) (fun c3 => ?_)
  · have hil : i < s.length := by have := of_decide_eq_true c3; omega
    obtain ⟨a, ha⟩ : ∃ x, s[i]? = some x := ⟨_, List.getElem?_eq_getElem hil⟩
    obtain ⟨v, hv⟩ : ∃ x, e.vals[i]? = some x := ⟨_, List.getElem?_eq_getElem (by omega)⟩
    have hvs := hsz v (List.mem_of_getElem? hv)
    rw [drop_cons ha, drop_cons hv, fitsFrom] at hr
    have g1 : IntKind.i64.wrap ((i : Int) + 1) = ((i + 1 : Nat) : Int) := by rw [wrap64 (by omega) (by omega)]; rfl
    have isBad : fitV a v = false → ∀ {σ : Store}, RetQ ([] : Store).length (fun v s' => v = .d (nI (optI (fitsFrom s e.vals 0))) ∧ s' = []) .ret [(0, mkRet [.d (nI i)])] σ := fun h σ => by
      refine RetQ.pure rfl ?_
      rw [h] at hr
      rw [← hr]
      rfl
    have isGood : fitV a v = true → ∀ {fr : Fr} {b c : Blk}, fr.get 1 = slF vaC e.vals → fr.get 19 = slF atC s → fr.get 20 = .d (nI s.length) → fr.get 21 = .d (nI (IntKind.i64.wrap ((i : Int) + 1))) →
        ∃ m fr' σ', m < s.length - i ∧ Trim ([] : Store).length fr [b, c] fr' σ' ∧ ∃ i : Nat, fr' = [(1, slF vaC e.vals), (19, slF atC s), (20, .d (nI s.length)), (21, .d (nI i))] ∧ σ' = [] ∧ i ≤ s.length ∧ fitsFrom (s.drop i) (e.vals.drop i) i = fitsFrom s e.vals 0 ∧ m = s.length - i := fun h {fr b c} h0 h19 h20 h21 => by
      rw [h] at hr
      rw [g1] at h21
      refine ⟨_, _, _, ?_, Trim.of [1, 19, 20, 21] [] (by decide) (by simp) (by simp), i + 1, ?_, rfl, by omega, hr, rfl⟩
      · omega
      · simp only [keepFr, h0, h19, h20, h21]; rfl
    refine W.need (ix_ok atC_len (by decide) hil) ?_
    refine W.ld (atE ha) ?_
    refine W.need (ix_ok vaC_len (by decide) (by omega)) ?_
    refine W.ld (vaE hv) ?_
    refine W.ite (fun e1 => ?_) (fun e1 => ?_)
    · have e1 : (a.k == 1) = true := e1
      have hk : a.k = 1 := by simpa using e1
      have d1 : (a.k != 1) = false := by rw [hk]; rfl
      have hf : fitV a v = ((sEq v.str (txt []) && decide (v.num ≥ a.mn)) && decide (v.num ≤ a.mx)) := by unfold fitV; rw [if_pos hk]
      repeat (first | refine W.ite_t rfl ?_ | refine W.ite_f rfl ?_ | refine W.ite_t e1 ?_)
      cases hz : sEq v.str (txt []) with
      | false =>
        have d2 : (!sEq v.str (txt [])) = true := by rw [hz]; rfl
        repeat (first | refine W.ite_t rfl ?_ | refine W.ite_f rfl ?_ | refine W.ite_t e1 ?_ | refine W.ite_t d2 ?_)
        exact W.ret (W.ret (isBad (by rw [hf, hz]; rfl)))
      | true =>
        have d2 : (!sEq v.str (txt [])) = false := by rw [hz]; rfl
        repeat (first | refine W.ite_t rfl ?_ | refine W.ite_f rfl ?_ | refine W.ite_t e1 ?_ | refine W.ite_f d2 ?_)
        refine W.ite (fun e3 => ?_) (fun e3 => ?_)
        · have h3 : v.num < a.mn := of_decide_eq_true e3
          repeat (first | refine W.ite_t rfl ?_ | refine W.ite_f rfl ?_ | refine W.ite_t e1 ?_ | refine W.ite_f d2 ?_ | refine W.ite_t e3 ?_)
          exact W.ret (W.ret (isBad (by rw [hf, decide_eq_false (show ¬ v.num ≥ a.mn by omega)]; simp)))
        have h3 : ¬ v.num < a.mn := of_decide_eq_false e3
        repeat (first | refine W.ite_t rfl ?_ | refine W.ite_f rfl ?_ | refine W.ite_t e1 ?_ | refine W.ite_f d2 ?_ | refine W.ite_f e3 ?_)
        refine W.ite (fun e4 => ?_) (fun e4 => ?_)
        · have h4 : v.num > a.mx := of_decide_eq_true e4
          repeat (first | refine W.ite_t rfl ?_ | refine W.ite_f rfl ?_ | refine W.ite_t e1 ?_ | refine W.ite_f d2 ?_ | refine W.ite_f e3 ?_ | refine W.ite_t e4 ?_)
          exact W.ret (W.ret (isBad (by rw [hf, decide_eq_false (show ¬ v.num ≤ a.mx by omega)]; simp)))
        have h4 : ¬ v.num > a.mx := of_decide_eq_false e4
        repeat (first | refine W.ite_t rfl ?_ | refine W.ite_f rfl ?_ | refine W.ite_t e1 ?_ | refine W.ite_f d2 ?_ | refine W.ite_f e3 ?_ | refine W.ite_f e4 ?_ | refine W.ite_f d1 ?_)
        exact W.ret (isGood (by rw [hf, hz, decide_eq_true (show v.num ≥ a.mn by omega), decide_eq_true (show v.num ≤ a.mx by omega)]; rfl) rfl rfl rfl rfl)
    · have e1 : (a.k == 1) = false := e1
      have hk : ¬ a.k = 1 := by simpa using e1
      have d1 : (a.k != 1) = true := by simpa using hk
      have hf : fitV a v = ((v.num == 0) && strOk v.str) := by unfold fitV; rw [if_neg hk]
      repeat (first | refine W.ite_t rfl ?_ | refine W.ite_f rfl ?_ | refine W.ite_f e1 ?_ | refine W.ite_t d1 ?_)
      refine W.ite (fun e3 => ?_) (fun e3 => ?_)
      · have h3 : (v.num == 0) = false := by have : (v.num != 0) = true := e3; simpa using this
        repeat (first | refine W.ite_t rfl ?_ | refine W.ite_f rfl ?_ | refine W.ite_f e1 ?_ | refine W.ite_t d1 ?_ | refine W.ite_t e3 ?_)
        exact W.ret (W.ret (isBad (by rw [hf, h3]; rfl)))
      have h3 : (v.num == 0) = true := by have : (v.num != 0) = false := e3; simpa using this
      repeat (first | refine W.ite_t rfl ?_ | refine W.ite_f rfl ?_ | refine W.ite_f e1 ?_ | refine W.ite_t d1 ?_ | refine W.ite_f e3 ?_)
      refine W.pure (ok42 v.str hvs) rfl rfl ?_
      repeat (first | refine W.ite_t rfl ?_ | refine W.ite_f rfl ?_ | refine W.ite_f e1 ?_ | refine W.ite_t d1 ?_ | refine W.ite_f e3 ?_)
      refine W.ite (fun e4 => ?_) (fun e4 => ?_)
      · have h4 : strOk v.str = false := by simpa using e4
        exact W.ret (W.ret (isBad (by rw [hf, h4]; simp)))
      · have h4 : strOk v.str = true := by simpa using e4
        exact W.ret (isGood (by rw [hf, h3, h4]; rfl) rfl rfl rfl rfl)
  · have hil : s.drop i = [] := by have := of_decide_eq_false c3; exact List.drop_of_length_le (by omega)
    rw [hil] at hr
    refine W.ret (W.ret ?_)
    refine RetQ.pure rfl ?_
    rw [← hr]
    rfl
end Go.Proofs.Ytcanicacdfkaeaa.Va
