import Derived.Test.YtllcjdijkmancaaD23
set_option maxRecDepth 100000
set_option linter.unusedVariables false
set_option linter.unusedSimpArgs false
namespace Go.Proofs.Ytllcjdijkmancaa.Dy
open Go Go.Am Va
theorem ok26' (a : Att) (v : Val) (n : Int) : Go.Am.Pure Try.prog 26 [.d (.agg (atC a)), .d (.agg (vaC v)), .d (Dy.nI n)] (.d (Dy.nI (cellA a v n))) := ok26 a.nm a.k a.mn a.mx v.num v.str n
def od8 : Ords := [(4, [0, 1, 3, 4, 2, 6, 5, 1007, 8, 1009]), (8, [0, 1, 2, 4, 5, 6, 3, 1007, 8, 9])]
theorem code8 : codeB Try.f8.ntmps od8 (match Try.f8.body with | some c => c | none => .skip) = true := by kernel_rfl
theorem end8 {p : List Att} {n : Int} {v w : Val} {i : Nat} {fr : Fr} {b : Blk} (hi : i < p.length) (hp : p.length ≤ 6) (h3 : fr.get 3 = .d (Dy.nI n)) (h5 : fr.get 5 = .ptr 0 0) (h6 : fr.get 6 = .ptr 1 0) (h40 : fr.get 40 = slF atC p) (h41 : fr.get 41 = .d (Dy.nI p.length)) (h42 : fr.get 42 = .d (Dy.nI (IntKind.i64.wrap ((i : Int) + 1)))) :
    ∃ m fr' σ', m < p.length - i ∧ Trim 2 fr [bD (vaC v), bD (vaC w), b] fr' σ' ∧ ∃ i : Nat, fr' = [(3, .d (Dy.nI n)), (5, .ptr 0 0), (6, .ptr 1 0), (40, slF atC p), (41, .d (Dy.nI p.length)), (42, .d (Dy.nI i))] ∧ σ' = [bD (vaC v), bD (vaC w)] ∧ i ≤ p.length ∧ m = p.length - i := by
  have g1 : IntKind.i64.wrap ((i : Int) + 1) = ((i + 1 : Nat) : Int) := by rw [wrap64 (by omega) (by omega)]; rfl
  rw [g1] at h42
  refine ⟨_, _, _, ?_, Trim.of [3, 5, 6, 40, 41, 42] [0, 1] (by decide) (by simp) (by intro j hj; have : j = 0 ∨ j = 1 := (by omega); rcases this with rfl | rfl <;> rfl), i + 1, ?_, rfl, by omega, rfl⟩
  · omega
  · simp only [keepFr, h3, h5, h6, h40, h41, h42]; rfl
set_option maxHeartbeats 8000000 in
theorem ok8 (s : List Att) (v w : Val) (n : Int) : Go.Am.Pure Try.prog 8 [slF atC s, .d (.agg (vaC v)), .d (.agg (vaC w)), .d (Dy.nI n)] (Dy.bI true) := by
  refine CallOk.of Va.tysOk Va.mixed od8 Try.func8 rfl rfl code8 ?_
  refine W.pure (Va.ok28 s) rfl rfl ?_
  have hp6 := att6_len s
  generalize att6 s = p at *
  have awake : ∀ {σ : Store}, W Try.prog (.call 13 [] σ [] fun v σ => .ret .ret [(0, v)] σ) (fun e fr σ => True) := fun {σ} => W.pure ok13 rfl rfl (W.ret True.intro)
  have k1 := Va.ok29 p
  cases hc : chkErr p with
  | some i =>
    rw [hc] at k1
    refine W.pure k1 rfl rfl ?_
    repeat (first | refine W.ite_t rfl ?_ | refine W.ite_f rfl ?_)
    exact W.pure ok13 rfl rfl (W.ret (RetQ.pure rfl rfl))
  | none =>
    rw [hc] at k1
    refine W.pure k1 rfl rfl ?_
    have hgood := chk_good hc
    clear hc k1
    repeat (first | refine W.ite_t rfl ?_ | refine W.ite_f rfl ?_)
    refine W.ite (fun c1 => ?_) (fun c1 => ?_)
    · repeat (first | refine W.ite_t rfl ?_ | refine W.ite_f rfl ?_ | refine W.ite_t c1 ?_)
      exact W.pure ok13 rfl rfl (W.ret (RetQ.pure rfl rfl))
    repeat (first | refine W.ite_t rfl ?_ | refine W.ite_f rfl ?_ | refine W.ite_f c1 ?_)
    refine W.ite (fun c2 => ?_) (fun c2 => ?_)
    · exact W.pure ok13 rfl rfl (W.ret (RetQ.pure rfl rfl))
    have n1 := of_decide_eq_false c1
    have n2 := of_decide_eq_false c2
    refine W.pure (Va.ok23 v.str 50) rfl rfl ?_
    refine W.pure (Va.ok23 w.str 50) rfl rfl ?_
    generalize hv' : (⟨v.num, cutN v.str 50⟩ : Val) = v'
    generalize hw' : (⟨w.num, cutN w.str 50⟩ : Val) = w'
    refine W.loop (fun k fr σ => ∃ i : Nat, fr = [(3, .d (Dy.nI n)), (5, .ptr 0 0), (6, .ptr 1 0), (40, slF atC p), (41, .d (Dy.nI p.length)), (42, .d (Dy.nI i))] ∧ σ = [bD (vaC v'), bD (vaC w')] ∧ i ≤ p.length ∧ k = p.length - i) p.length
      (Start.of [3, 5, 6, 40, 41, 42] [] (by simp)) ⟨0, rfl, by rw [← hv', ← hw']; rfl, by omega, rfl⟩ ?_
    rintro k fr σ ⟨i, rfl, rfl, hi, rfl⟩
    refine W.ite (fun c3 => ?_) (fun c3 => ?_)
    · have hil : i < p.length := by have := of_decide_eq_true c3; omega
      obtain ⟨a, ha⟩ : ∃ x, p[i]? = some x := ⟨_, List.getElem?_eq_getElem hil⟩
      have hga := hgood a (List.mem_of_getElem? ha)
      refine W.need (ix_ok atC_len (by decide) hil) ?_
      refine W.ld (atE ha) ?_
      refine W.pure (ok26' a v' n) rfl rfl ?_
      refine W.pure (ok26' a w' n) rfl rfl ?_
      have go : (a.k = 1 → a.mn ≤ v'.num ∧ w'.num ≤ a.mx ∧ v'.num ≤ w'.num) → (a.k = 2 → (Op.bytesLess v'.str.toList w'.str.toList || v'.str.toList == w'.str.toList) = true) →
          decide (cellA a v' n < 0) = false ∧ decide (cellA a v' n > cellA a w' n) = false ∧ decide (cellA a w' n ≥ IntKind.i64.wrap (1 * 2 ^ min n.toNat IntKind.i64.bits)) = false := fun h1 h2 => by
        obtain ⟨q1, q2, q3⟩ := rises (n := n) (v := v') (w := w') hga (by omega) (by omega) h1 h2
        have hp := pow2_le (k := n.toNat) (by omega)
        rw [min64 (by omega), Int.one_mul, wrap64 (by omega) (by omega)]
        exact ⟨decide_eq_false (by omega), decide_eq_false (by omega), decide_eq_false (by omega)⟩
      have hn0 : 0 ≤ n := by omega
      generalize cellA a v' n = x at *
      generalize cellA a w' n = y at *
      refine W.ite (fun e1 => ?_) (fun e1 => ?_)
      · have e1 : (a.k == 1) = true := e1
        have hk : a.k = 1 := by simpa using e1
        have e5 : (a.k == 2) = false := by rw [hk]; rfl
        repeat (first | refine W.ite_t rfl ?_ | refine W.ite_f rfl ?_ | refine W.ite_t e1 ?_)
        refine W.ite (fun e2 => ?_) (fun e2 => ?_)
        · repeat (first | refine W.ite_t rfl ?_ | refine W.ite_f rfl ?_ | refine W.ite_t e1 ?_ | refine W.ite_t e2 ?_)
          exact W.ret (end8 hil hp6 rfl rfl rfl rfl rfl rfl)
        repeat (first | refine W.ite_t rfl ?_ | refine W.ite_f rfl ?_ | refine W.ite_t e1 ?_ | refine W.ite_f e2 ?_)
        refine W.ite (fun e3 => ?_) (fun e3 => ?_)
        · repeat (first | refine W.ite_t rfl ?_ | refine W.ite_f rfl ?_ | refine W.ite_t e1 ?_ | refine W.ite_f e2 ?_ | refine W.ite_t e3 ?_)
          exact W.ret (end8 hil hp6 rfl rfl rfl rfl rfl rfl)
        repeat (first | refine W.ite_t rfl ?_ | refine W.ite_f rfl ?_ | refine W.ite_t e1 ?_ | refine W.ite_f e2 ?_ | refine W.ite_f e3 ?_)
        refine W.ite (fun e4 => ?_) (fun e4 => ?_)
        · repeat (first | refine W.ite_t rfl ?_ | refine W.ite_f rfl ?_ | refine W.ite_t e1 ?_ | refine W.ite_f e2 ?_ | refine W.ite_f e3 ?_ | refine W.ite_t e4 ?_)
          exact W.ret (end8 hil hp6 rfl rfl rfl rfl rfl rfl)
        have m2 : ¬ v'.num < a.mn := of_decide_eq_false e2
        have m3 : ¬ w'.num > a.mx := of_decide_eq_false e3
        have m4 : ¬ v'.num > w'.num := of_decide_eq_false e4
        obtain ⟨d1, d2, d3⟩ := go (fun _ => ⟨by omega, by omega, by omega⟩) (fun h => by omega)
        repeat (first | refine W.ite_t rfl ?_ | refine W.ite_f rfl ?_ | refine W.ite_t e1 ?_ | refine W.ite_f e2 ?_ | refine W.ite_f e3 ?_ | refine W.ite_f e4 ?_ | refine W.ite_f e5 ?_ | refine W.ite_f d1 ?_ | refine W.ite_f d2 ?_)
        refine W.need hn0 ?_
        repeat (first | refine W.ite_t rfl ?_ | refine W.ite_f rfl ?_ | refine W.ite_f d1 ?_ | refine W.ite_f d2 ?_ | refine W.ite_f d3 ?_)
        exact W.ret (end8 hil hp6 rfl rfl rfl rfl rfl rfl)
      · have e1 : (a.k == 1) = false := e1
        have hk : a.k = 2 := by
          rcases hga with h | h
          · rw [h.1] at e1; cases e1
          · exact h.1
        have e5 : (a.k == 2) = true := by rw [hk]; rfl
        repeat (first | refine W.ite_t rfl ?_ | refine W.ite_f rfl ?_ | refine W.ite_f e1 ?_ | refine W.ite_t e5 ?_)
        refine W.ite (fun e6 => ?_) (fun e6 => ?_)
        · repeat (first | refine W.ite_t rfl ?_ | refine W.ite_f rfl ?_ | refine W.ite_f e1 ?_ | refine W.ite_t e5 ?_ | refine W.ite_t e6 ?_)
          exact W.ret (end8 hil hp6 rfl rfl rfl rfl rfl rfl)
        have m6 : (Op.bytesLess v'.str.toList w'.str.toList || v'.str.toList == w'.str.toList) = true := by
          have : (!(Op.bytesLess v'.str.toList w'.str.toList || v'.str.toList == w'.str.toList)) = false := e6
          cases hh : (Op.bytesLess v'.str.toList w'.str.toList || v'.str.toList == w'.str.toList) with
          | true => rfl
          | false => rw [hh] at this; cases this
        obtain ⟨d1, d2, d3⟩ := go (fun h => by omega) (fun _ => m6)
        repeat (first | refine W.ite_t rfl ?_ | refine W.ite_f rfl ?_ | refine W.ite_f e1 ?_ | refine W.ite_t e5 ?_ | refine W.ite_f e6 ?_ | refine W.ite_f d1 ?_ | refine W.ite_f d2 ?_)
        refine W.need hn0 ?_
        repeat (first | refine W.ite_t rfl ?_ | refine W.ite_f rfl ?_ | refine W.ite_f d1 ?_ | refine W.ite_f d2 ?_ | refine W.ite_f d3 ?_)
        exact W.ret (end8 hil hp6 rfl rfl rfl rfl rfl rfl)
    · refine W.ret ?_
      exact W.pure ok13 rfl rfl (W.ret (RetQ.pure rfl rfl))
end Go.Proofs.Ytllcjdijkmancaa.Dy
