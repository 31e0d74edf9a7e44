import Derived.Test.YtllcjdijkmancaaD24
set_option maxRecDepth 100000
set_option linter.unusedVariables false
set_option linter.unusedSimpArgs false
namespace Go.Proofs.Ytllcjdijkmancaa.Dy
open Go Go.Am Va
def od9 : Ords := [(8, [0, 1, 2, 4, 5, 6, 7, 3, 1008, 9, 10])]
theorem code9 : codeB Try.f9.ntmps od9 (match Try.f9.body with | some c => c | none => .skip) = true := by kernel_rfl
theorem end9 {p : List Att} {n : Int} {v : Val} {i : Nat} {fr : Fr} {b : Blk} (hi : i < p.length) (hp : p.length ≤ 6) (h2 : fr.get 2 = .d (Dy.nI n)) (h4 : fr.get 4 = .ptr 0 0) (h34 : fr.get 34 = slF atC p) (h35 : fr.get 35 = .d (Dy.nI p.length)) (h36 : fr.get 36 = .d (Dy.nI (IntKind.i64.wrap ((i : Int) + 1)))) :
    ∃ m fr' σ', m < p.length - i ∧ Trim 1 fr [bD (vaC v), b] fr' σ' ∧ ∃ i : Nat, fr' = [(2, .d (Dy.nI n)), (4, .ptr 0 0), (34, slF atC p), (35, .d (Dy.nI p.length)), (36, .d (Dy.nI i))] ∧ σ' = [bD (vaC v)] ∧ i ≤ p.length ∧ m = p.length - i := by
  have g1 : IntKind.i64.wrap ((i : Int) + 1) = ((i + 1 : Nat) : Int) := by rw [wrap64 (by omega) (by omega)]; rfl
  rw [g1] at h36
  refine ⟨_, _, _, ?_, Trim.of [2, 4, 34, 35, 36] [0] (by decide) (by simp) (by intro j hj; have : j = 0 := (by omega); subst this; rfl), i + 1, ?_, rfl, by omega, rfl⟩
  · omega
  · simp only [keepFr, h2, h4, h34, h35, h36]; rfl
set_option maxHeartbeats 8000000 in
theorem ok9 (s : List Att) (v : Val) (n : Int) : Go.Am.Pure Try.prog 9 [slF atC s, .d (.agg (vaC v)), .d (Dy.nI n)] (Dy.bI true) := by
  refine CallOk.of Va.tysOk Va.mixed od9 Try.func9 rfl rfl code9 ?_
  refine W.pure (Va.ok28 s) rfl rfl ?_
  have hp6 := att6_len s
  generalize att6 s = p at *
  have k1 := Va.ok29 p
  cases hc : chkErr p with
  | some i =>
    rw [hc] at k1
    refine W.pure k1 rfl rfl ?_
    repeat (first | refine W.ite_t rfl ?_ | refine W.ite_f rfl ?_)
    exact W.pure ok13 rfl rfl (W.ret (RetQ.pure rfl rfl))
  | none =>
    rw [hc] at k1
    refine W.pure k1 rfl rfl ?_
    have hgood := chk_good hc
    clear hc k1
    repeat (first | refine W.ite_t rfl ?_ | refine W.ite_f rfl ?_)
    refine W.ite (fun c1 => ?_) (fun c1 => ?_)
    · repeat (first | refine W.ite_t rfl ?_ | refine W.ite_f rfl ?_ | refine W.ite_t c1 ?_)
      exact W.pure ok13 rfl rfl (W.ret (RetQ.pure rfl rfl))
    repeat (first | refine W.ite_t rfl ?_ | refine W.ite_f rfl ?_ | refine W.ite_f c1 ?_)
    refine W.ite (fun c2 => ?_) (fun c2 => ?_)
    · exact W.pure ok13 rfl rfl (W.ret (RetQ.pure rfl rfl))
    have n1 := of_decide_eq_false c1
    have n2 := of_decide_eq_false c2
    refine W.pure (Va.ok23 v.str 50) rfl rfl ?_
    generalize hv' : (⟨v.num, cutN v.str 50⟩ : Val) = v'
    refine W.loop (fun k fr σ => ∃ i : Nat, fr = [(2, .d (Dy.nI n)), (4, .ptr 0 0), (34, slF atC p), (35, .d (Dy.nI p.length)), (36, .d (Dy.nI i))] ∧ σ = [bD (vaC v')] ∧ i ≤ p.length ∧ k = p.length - i) p.length
      (Start.of [2, 4, 34, 35, 36] [] (by simp)) ⟨0, rfl, by rw [← hv']; rfl, by omega, rfl⟩ ?_
    rintro k fr σ ⟨i, rfl, rfl, hi, rfl⟩
    refine W.ite (fun c3 => ?_) (fun c3 => ?_)
    · have hil : i < p.length := by have := of_decide_eq_true c3; omega
      obtain ⟨a, ha⟩ : ∃ x, p[i]? = some x := ⟨_, List.getElem?_eq_getElem hil⟩
      have hga := hgood a (List.mem_of_getElem? ha)
      have w1 : IntKind.i64.wrap (n + 1) = n + 1 := wrap64 (by omega) (by omega)
      refine W.need (ix_ok atC_len (by decide) hil) ?_
      refine W.ld (atE ha) ?_
      refine W.pure (ok26' a v' n) rfl rfl ?_
      refine W.pure (ok26' a v' (IntKind.i64.wrap (n + 1))) rfl rfl ?_
      rw [w1]
      have hf := fine (v := v') hga (show 0 ≤ n by omega) (by omega)
      generalize cellA a v' n = x at *
      generalize cellA a v' (n + 1) = y at *
      rcases hf with ⟨rfl, rfl⟩ | ⟨q1, q2, q3, q4⟩
      · repeat (first | refine W.ite_t rfl ?_ | refine W.ite_f rfl ?_)
        exact W.ret (end9 hil hp6 rfl rfl rfl rfl rfl)
      · have d1 : (decide (x < 0) != decide (y < 0)) = false := by rw [decide_eq_false (by omega : ¬ x < 0), decide_eq_false (by omega : ¬ y < 0)]; rfl
        have d2 : decide (x ≥ 0) = true := decide_eq_true (by omega)
        have d3 : (IntKind.i64.wrap (y.tdiv 2) != x) = false := by
          rw [Int.tdiv_eq_ediv_of_nonneg q2, q4, wrap64 (by omega) (by omega)]
          simp
        have hnz : (2 : Int) ≠ 0 := by decide
        repeat (first | refine W.ite_t rfl ?_ | refine W.ite_f rfl ?_ | refine W.ite_f d1 ?_ | refine W.ite_t d2 ?_ | refine W.ite_f d3 ?_ | refine W.need hnz ?_)
        exact W.ret (end9 hil hp6 rfl rfl rfl rfl rfl)
    · refine W.ret ?_
      exact W.pure ok13 rfl rfl (W.ret (RetQ.pure rfl rfl))
end Go.Proofs.Ytllcjdijkmancaa.Dy
