import Derived.Test.YtllcjdijkmancaaD9
set_option maxRecDepth 100000
set_option linter.unusedVariables false
set_option linter.unusedSimpArgs false
namespace Go.Proofs.Ytllcjdijkmancaa.Dy
open Go Go.Am
theorem code16 : codeB Try.f16.ntmps [] (match Try.f16.body with | some c => c | none => .skip) = true := by kernel_rfl
theorem ok16 (n : Int) (h0 : 0 ≤ n) (h8 : n ≤ 8) : Go.Am.Pure Try.prog 16 [.d (nI n)] (.d (nI (2 ^ n.toNat))) := by
  refine CallOk.of tysOk mixed [] Try.func16 rfl rfl code16 ?_
  refine W.loop (fun k fr σ => ∃ (i : Nat), fr = [(0, .d (nI n)), (3, .d (nI (2 ^ i))), (4, .d (nI i))] ∧ σ = [] ∧ i ≤ n.toNat ∧ k = n.toNat - i) n.toNat
    (Start.of [0, 3, 4] [] (by simp)) ⟨0, rfl, rfl, by omega, rfl⟩ ?_
  rintro k fr σ ⟨i, rfl, rfl, hi, rfl⟩
  refine W.ite (fun h => ?_) (fun h => ?_)
  · have hlt : (i : Int) < n := by simpa using h
    have hp := pow2_le (k := i) (by omega)
    refine W.ret ⟨_, _, _, ?_, Trim.of [0, 3, 4] [] (by decide) (by simp) (by simp), i + 1, ?_, rfl, by omega, rfl⟩
    · omega
    · have g1 : IntKind.i64.wrap ((i : Int) + 1) = ((i + 1 : Nat) : Int) := by rw [wrap64 (by omega) (by omega)]; rfl
      have g2 : IntKind.i64.wrap (2 * 2 ^ i) = 2 ^ (i + 1) := by rw [wrap64 (by omega) (by omega), Int.pow_succ]; omega
      rw [← g1, ← g2]; rfl
  · have hlt : i = n.toNat := by have : ¬ (i : Int) < n := (by simpa using h); omega
    subst hlt
    refine W.ret (W.ret ?_)
    exact RetQ.pure rfl rfl
def od12 : Ords := [(1, [0, 1, 2, 3, 4, 5, 6, 7, 8, 9, 10, 11, 12, 13, 14, 15, 16, 17, 18, 19, 20, 21, 22, 23, 24, 25, 26, 27, 28, 29, 30])]
theorem code12 : codeB Try.f12.ntmps od12 (match Try.f12.body with | some c => c | none => .skip) = true := by kernel_rfl
theorem ok12 (l i n : Int) : Go.Am.Pure Try.prog 12 [iv l i, .d (nI n)] (bI (good l i n)) := by
  refine CallOk.of tysOk mixed od12 Try.func12 rfl rfl code12 ?_
  repeat' (first | refine W.ite_t rfl ?_ | refine W.ite_f rfl ?_ | (refine W.ite_t ?h ?_; (case h => assumption)) | (refine W.ite_f ?h ?_; (case h => assumption)) | refine W.ite (fun h => ?_) (fun h => ?_) | refine W.pure (ok16 _ ?_ ?_) rfl rfl ?_)
  all_goals (try refine W.ret ?_)
  all_goals (try refine RetQ.pure rfl ?_)
  all_goals simp only [decide_eq_true_eq, decide_eq_false_iff_not, ge_iff_le] at *
  all_goals first | omega | refine ret_bI ?_
  · simp_all [good]
    all_goals first | done | omega
  all_goals (simp_all [good] <;> omega)
end Go.Proofs.Ytllcjdijkmancaa.Dy
