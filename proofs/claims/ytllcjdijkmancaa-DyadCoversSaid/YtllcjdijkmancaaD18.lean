import Derived.Test.YtllcjdijkmancaaD17
set_option maxRecDepth 100000
set_option linter.unusedVariables false
set_option linter.unusedSimpArgs false
namespace Go.Proofs.Ytllcjdijkmancaa.Dy
open Go Go.Am
theorem code3 : codeB Try.f3.ntmps [] (match Try.f3.body with | some c => c | none => .skip) = true := by kernel_rfl
theorem chain_len (c n : Int) : (chain c n).length ≤ 1000 := by
  unfold chain
  split
  · rename_i h
    obtain ⟨h1, h2, h3, h4, h5, h6⟩ := good_iff.1 h
    simp [chainI]; omega
  · simp
theorem cover_len (lo hi n : Int) : (cover lo hi n).length ≤ 1000 := by
  by_cases h : cover lo hi n = []
  · rw [h]; simp
  · obtain ⟨N, H, X, rfl, rfl, rfl, h1, h2, h3, h4⟩ := cover_of_good (cover_good h)
    have := few h2 (H + 1 - X) X h3
    rw [h4]
    omega
set_option maxHeartbeats 4000000 in
theorem ok3 (lo hi n l i : Int) : Go.Am.Pure Try.prog 3 [.d (nI lo), .d (nI hi), .d (nI n), iv l i] (bI true) := by
  refine CallOk.of tysOk mixed [] Try.func3 rfl rfl code3 ?_
  refine W.pure (ok11 l i n) rfl rfl ?_
  refine W.pure (ok12 l i n) rfl rfl ?_
  refine W.pure ok13 rfl rfl ?_
  repeat (first | refine W.ite_t rfl ?_ | refine W.ite_f rfl ?_)
  refine W.pure (ok14 l i n) rfl rfl ?_
  have hs1 := chain_len lo n
  have hs2 := cover_len lo hi n
  have dg : (good l i n != good l i n) = false := by simp
  by_cases hg : good l i n = true
  · have dn : (!good l i n) = false := by simp [hg]
    have hc := cells_good hg
    have hle := cells_le hg
    obtain ⟨g1, g2, g3, g4, g5, g6⟩ := good_iff.1 hg
    have hp1 := pow2_le (k := (n - l).toNat) (by omega)
    have q1 : ((cells l i n).1 / 2 ^ (n - l).toNat == i) = true := by
      rw [hc]
      simp only
      rw [Int.mul_ediv_cancel _ (by omega)]
      simp
    have q2 : ((cells l i n).2 / 2 ^ (n - l).toNat == i) = true := by
      have : (i + 1) * 2 ^ (n - l).toNat - 1 = (2 ^ (n - l).toNat - 1) + i * 2 ^ (n - l).toNat := by rw [Int.add_mul, Int.one_mul]; omega
      rw [hc]
      simp only
      rw [this, Int.add_mul_ediv_right _ _ (by omega), Int.ediv_eq_zero_of_lt (by omega) (by omega)]
      simp
    have e1 : IntKind.i64.wrap (n - l) = n - l := wrap64 (by omega) (by omega)
    have q3 : (IntKind.i64.wrap (IntKind.i64.wrap ((cells l i n).2 - (cells l i n).1) + 1) != 2 ^ (IntKind.i64.wrap (n - l)).toNat) = false := by
      rw [e1, wrap64 (n := _ - _) (by omega) (by omega), wrap64 (by omega) (by omega), hc]
      simp only
      rw [Int.add_mul, Int.one_mul]
      exact bne_eq_false_iff_eq.2 (by omega)
    have q1' : (!((cells l i n).1 / 2 ^ (n - l).toNat == i)) = false := by rw [q1]; rfl
    have q2' : (!((cells l i n).2 / 2 ^ (n - l).toNat == i)) = false := by rw [q2]; rfl
    repeat (first | refine W.ite_t rfl ?_ | refine W.ite_f rfl ?_ | refine W.ite_f dg ?_ | refine W.ite_f dn ?_ | refine W.ite_t hg ?_)
    refine W.pure (ok15 l i (cells l i n).1 n (by omega) (by omega) (by omega) (by omega)) rfl rfl ?_
    repeat (first | refine W.ite_t rfl ?_ | refine W.ite_f rfl ?_ | refine W.ite_t hg ?_ | refine W.ite_f q1' ?_)
    refine W.pure (ok15 l i (cells l i n).2 n (by omega) (by omega) (by omega) (by omega)) rfl rfl ?_
    repeat (first | refine W.ite_t rfl ?_ | refine W.ite_f rfl ?_ | refine W.ite_t hg ?_ | refine W.ite_f q1' ?_ | refine W.ite_f q2' ?_)
    refine W.pure (ok16 _ ?_ ?_) rfl rfl ?_
    · show 0 ≤ IntKind.i64.wrap (n - l); omega
    · show IntKind.i64.wrap (n - l) ≤ 8; omega
    repeat (first | refine W.ite_t rfl ?_ | refine W.ite_f rfl ?_ | refine W.ite_t hg ?_ | refine W.ite_f q1' ?_ | refine W.ite_f q2' ?_ | refine W.ite_f q3 ?_)
    refine W.pure (ok19 lo n) rfl rfl ?_
    refine W.pure (ok18 _ hs1) rfl rfl ?_
    refine W.pure (ok20 lo n) rfl rfl ?_
    refine W.pure (ok17 _ hs1) rfl rfl ?_
    repeat (first | refine W.ite_t rfl ?_ | refine W.ite_f rfl ?_)
    refine W.pure (ok21 lo hi n) rfl rfl ?_
    repeat (first | refine W.ite_t rfl ?_ | refine W.ite_f rfl ?_)
    refine W.pure (ok18 _ hs2) rfl rfl ?_
    repeat (first | refine W.ite_t rfl ?_ | refine W.ite_f rfl ?_)
    refine W.pure (refCover_cover lo hi n ▸ ok22 lo hi n) rfl rfl ?_
    repeat (first | refine W.ite_t rfl ?_ | refine W.ite_f rfl ?_)
    refine W.pure (ok17 _ hs2) rfl rfl ?_
    repeat (first | refine W.ite_t rfl ?_ | refine W.ite_f rfl ?_)
    refine W.ret ?_
    refine RetQ.pure rfl ?_
    rfl
  · have hg : good l i n = false := by simpa using hg
    have dn : (!good l i n) = true := by simp [hg]
    have hc := cells_bad hg
    have q1 : ((cells l i n).1 != 0) = false := by rw [hc]; rfl
    have q2 : ((cells l i n).2 != -1) = false := by rw [hc]; rfl
    repeat (first | refine W.ite_t rfl ?_ | refine W.ite_f rfl ?_ | refine W.ite_f dg ?_ | refine W.ite_t dn ?_ | refine W.ite_f hg ?_ | refine W.ite_f q1 ?_ | refine W.ite_f q2 ?_)
    refine W.pure (ok19 lo n) rfl rfl ?_
    refine W.pure (ok18 _ hs1) rfl rfl ?_
    refine W.pure (ok20 lo n) rfl rfl ?_
    refine W.pure (ok17 _ hs1) rfl rfl ?_
    repeat (first | refine W.ite_t rfl ?_ | refine W.ite_f rfl ?_)
    refine W.pure (ok21 lo hi n) rfl rfl ?_
    repeat (first | refine W.ite_t rfl ?_ | refine W.ite_f rfl ?_)
    refine W.pure (ok18 _ hs2) rfl rfl ?_
    repeat (first | refine W.ite_t rfl ?_ | refine W.ite_f rfl ?_)
    refine W.pure (refCover_cover lo hi n ▸ ok22 lo hi n) rfl rfl ?_
    repeat (first | refine W.ite_t rfl ?_ | refine W.ite_f rfl ?_)
    refine W.pure (ok17 _ hs2) rfl rfl ?_
    repeat (first | refine W.ite_t rfl ?_ | refine W.ite_f rfl ?_)
    refine W.ret ?_
    refine RetQ.pure rfl ?_
    rfl
end Go.Proofs.Ytllcjdijkmancaa.Dy
