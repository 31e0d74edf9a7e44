import Derived.Test.YtcanicacdfkaeaaDoorVY
set_option maxRecDepth 100000
set_option linter.unusedVariables false
set_option linter.unusedSimpArgs false
/- The reference of layer 5: filters. -/
namespace Go.Proofs.YtcanicacdfkaeaaDoor.Va
open Go Go.Am
def pmB (s : List Att) (f : List Prd) (i j : Nat) (p : Prd) : Bool := decide (findA s p.nm ≥ 0) && !(((f.take i).take j).any fun q => sEq q.nm p.nm)
theorem pmB0 (s : List Att) (f : List Prd) (i : Nat) (p : Prd) : pmB s f i 0 p = decide (findA s p.nm ≥ 0) := by unfold pmB; simp
theorem pmB_next {s : List Att} {f : List Prd} {i j : Nat} {p q : Prd} (hq : (f.take i)[j]? = some q) : pmB s f i (j + 1) p = (pmB s f i j p && !(sEq p.nm q.nm)) := by
  unfold pmB
  rw [List.take_add_one, hq, List.any_append, sEq_comm p.nm]
  cases decide (findA s p.nm ≥ 0) <;> simp
theorem prdBad_eq (s : List Att) (f : List Prd) (i : Nat) (p : Prd) : prdBad s f i p = !(pmB s f i i p && prdOk (attOf s p.nm) p) := by
  unfold prdBad pmB
  rw [List.take_take, Nat.min_self, show decide (findA s p.nm < 0) = !(decide (findA s p.nm ≥ 0)) from by by_cases h : findA s p.nm < 0 <;> simp [h] <;> omega]
  cases decide (findA s p.nm ≥ 0) <;> cases ((f.take i).any fun q => sEq q.nm p.nm) <;> simp
set_option maxHeartbeats 16000000 in
theorem ok15 (s : List Att) (hs : s.length ≤ 1000000) (f : List Prd) (hf : ∀ p ∈ f, p.str.size ≤ 1000000) : Go.Am.Pure Tryd.prog 15 [slF atC s, slF prC f] (.d (nI (atN (fltErr s f)))) := by
  refine CallOk.of tysOk mixed od15 Tryd.func15 rfl rfl code15 ?_
  refine W.ite (fun c1 => ?_) (fun c1 => ?_)
  · repeat (first | refine W.ite_t c1 ?_ | refine W.ite_t rfl ?_ | refine W.ite_f rfl ?_)
    refine W.ret ?_
    refine RetQ.pure rfl ?_
    unfold fltErr
    rw [if_pos (.inl (of_decide_eq_true c1))]
    rfl
  repeat (first | refine W.ite_f c1 ?_ | refine W.ite_t rfl ?_ | refine W.ite_f rfl ?_)
  refine W.ite (fun c2 => ?_) (fun c2 => ?_)
  · refine W.ret ?_
    refine RetQ.pure rfl ?_
    unfold fltErr
    rw [if_pos (.inr (of_decide_eq_true c2))]
    rfl
  have h1 := of_decide_eq_false c1
  have h2 := of_decide_eq_false c2
  have hE : fltErr s f = fltFrom s f f 0 := by unfold fltErr; rw [if_neg (by rintro (h | h); exact h1 h; exact h2 h)]
  rw [hE]
  refine W.loop (fun k fr σ => ∃ i : Nat, fr = [(0, slF atC s), (1, slF prC f), (19, slF prC f), (20, .d (nI f.length)), (21, .d (nI i))] ∧ σ = [] ∧ i ≤ f.length ∧ fltFrom s f (f.drop i) i = fltFrom s f f 0 ∧ k = f.length - i) f.length
    (Start.of [0, 1, 19, 20, 21] [] (by simp)) ⟨0, rfl, rfl, by omega, rfl, rfl⟩ ?_
  rintro k fr σ ⟨i, rfl, rfl, hi, hr, rfl⟩
  refine W.ite (fun c3 => ?_) (fun c3 => ?_)
  · have hil : i < f.length := by have := of_decide_eq_true c3; omega
    obtain ⟨p, hp⟩ : ∃ x, f[i]? = some x := ⟨_, List.getElem?_eq_getElem hil⟩
    rw [drop_cons hp, fltFrom, prdBad_eq] at hr
    have hps := hf p (List.mem_of_getElem? hp)
    refine W.need (ix_ok prC_len (by decide) hil) ?_
    refine W.ld (prE hp) ?_
    refine W.pure (ok17 s hs p.nm) rfl rfl ?_
    refine W.need ⟨by omega, by omega⟩ ?_
    refine W.loop (fun k fr σ => ∃ j : Nat, fr = [(0, slF atC s), (1, slF prC f), (5, .d (nI i)), (6, .ptr 0 0), (7, .d (nI (findA s p.nm))), (8, .d (.lit (.bool (pmB s f i j p)))), (19, slF prC f), (20, .d (nI f.length)), (21, .d (nI i)), (34, slF prC (f.take i)), (35, .d (nI i)), (36, .d (nI j))] ∧ σ = [bD (prC p)] ∧ j ≤ i ∧ k = i - j) i
      (Start.of [0, 1, 5, 6, 7, 8, 19, 20, 21, 34, 35, 36] [] (by simp)) ⟨0, by rw [cutP (Nat.le_of_lt hil), pmB0]; rfl, rfl, by omega, rfl⟩ ?_
    rintro k fr σ ⟨j, rfl, rfl, hj, rfl⟩
    refine W.ite (fun c4 => ?_) (fun c4 => ?_)
    · have hji : j < i := by have := of_decide_eq_true c4; omega
      have hlen : (f.take i).length = i := by simp; omega
      obtain ⟨b, hb⟩ : ∃ b, (f.take i)[j]? = some b := ⟨_, List.getElem?_eq_getElem (by omega)⟩
      refine W.need (ix_ok prC_len (by decide) (by omega)) ?_
      refine W.ld (prE hb) ?_
      have hn := pmB_next (s := s) (p := p) hb
      cases hB : pmB s f i j p with
      | true =>
        rw [hB, Bool.true_and] at hn
        repeat (first | refine W.ite_t rfl ?_ | refine W.ite_f rfl ?_)
        refine W.ret ⟨_, _, _, ?_, Trim.of [0, 1, 5, 6, 7, 8, 19, 20, 21, 34, 35, 36] [0] (by decide) (by simp) (tr1v rfl), j + 1, ?_, rfl, by omega, rfl⟩
        · omega
        · rw [hn, ← wrapN (by omega)]; rfl
      | false =>
        rw [hB, Bool.false_and] at hn
        repeat (first | refine W.ite_t rfl ?_ | refine W.ite_f rfl ?_)
        refine W.ret ⟨_, _, _, ?_, Trim.of [0, 1, 5, 6, 7, 8, 19, 20, 21, 34, 35, 36] [0] (by decide) (by simp) (tr1v rfl), j + 1, ?_, rfl, by omega, rfl⟩
        · omega
        · rw [hn, ← wrapN (by omega)]; rfl
    · have hji : j = i := by have := of_decide_eq_false c4; omega
      subst hji
      refine W.ret ?_
      have stop : (pmB s f j j p && prdOk (attOf s p.nm) p) = false → atN (fltFrom s f f 0) = j := fun h => by
        rw [h] at hr; rw [← hr]; rfl
      have next : (pmB s f j j p && prdOk (attOf s p.nm) p) = true → fltFrom s f (f.drop (j + 1)) (j + 1) = fltFrom s f f 0 := fun h => by
        rw [h] at hr; exact hr
      cases hB : pmB s f j j p with
      | false =>
        have stop := stop (by rw [hB]; rfl)
        repeat (first | refine W.ite_t rfl ?_ | refine W.ite_f rfl ?_)
        refine W.ret (W.ret ?_)
        refine RetQ.pure rfl ?_
        rw [stop]
        rfl
      | true =>
        rw [hB, Bool.true_and] at stop next
        have hge : findA s p.nm ≥ 0 := by
          unfold pmB at hB
          rw [Bool.and_eq_true, decide_eq_true_eq] at hB
          exact hB.1
        rcases findA_spec s p.nm with h | ⟨k, a, h3, h4, h5⟩
        · omega
        rw [h5] at stop next
        have hkl : k < s.length := (List.getElem?_eq_some_iff.1 h4).1
        have kp := ok32 a p hps
        repeat (first | refine W.ite_t rfl ?_ | refine W.ite_f rfl ?_)
        rw [h3]
        refine W.need (ix_ok atC_len (by decide) hkl) ?_
        repeat (first | refine W.ite_t rfl ?_ | refine W.ite_f rfl ?_)
        refine W.ld (atE h4) ?_
        repeat (first | refine W.ite_t rfl ?_ | refine W.ite_f rfl ?_)
        refine W.pure kp rfl rfl ?_
        cases hO : prdOk a p with
        | false =>
          repeat (first | refine W.ite_t rfl ?_ | refine W.ite_f rfl ?_)
          refine W.ret (W.ret ?_)
          refine RetQ.pure rfl ?_
          rw [stop hO]
          rfl
        | true =>
          repeat (first | refine W.ite_t rfl ?_ | refine W.ite_f rfl ?_)
          refine W.ret ⟨_, _, _, ?_, Trim.of [0, 1, 19, 20, 21] [] (by decide) (by simp) (by simp), j + 1, ?_, rfl, by omega, next hO, rfl⟩
          · omega
          · rw [← wrapN (by omega)]; rfl
  · have hil : f.drop i = [] := by have := of_decide_eq_false c3; exact List.drop_of_length_le (by omega)
    rw [hil] at hr
    refine W.ret (W.ret ?_)
    refine RetQ.pure rfl ?_
    rw [← hr]
    rfl
end Go.Proofs.YtcanicacdfkaeaaDoor.Va
