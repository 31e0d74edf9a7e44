import Derived.Test.YtemabpapfkplgaaBD
set_option maxRecDepth 100000
set_option linter.unusedVariables false
set_option linter.unusedSimpArgs false
/- The statement BagFull. -/
namespace Go.Proofs.Ytemabpapfkplgaa.Bg
open Go Go.Am
def od4 : Ords := []
theorem code4 : codeB Try.f4.ntmps od4 (match Try.f4.body with | some c => c | none => .skip) = true := by kernel_rfl
/-- Packets by rising numbers. -/
def run (a : Int) (f t : Int) (s : ByteArray) (k : Nat) : List Pk := (List.range k).map fun (i : Nat) => ⟨a + i, f, t, s⟩
theorem run_len (a f t : Int) (s : ByteArray) (k : Nat) : (run a f t s k).length = k := by simp [run]
theorem run_succ (a f t : Int) (s : ByteArray) (k : Nat) : run a f t s (k + 1) = run a f t s k ++ [⟨a + k, f, t, s⟩] := by
  unfold run
  rw [List.range_succ, List.map_append]
  rfl
theorem run_cons (a f t : Int) (s : ByteArray) (k : Nat) : run a f t s (k + 1) = ⟨a, f, t, s⟩ :: run (a + 1) f t s k := by
  unfold run
  rw [List.range_succ_eq_map, List.map_cons, List.map_map]
  congr 1
  · congr 1
    omega
  · apply List.map_congr_left
    intro i hi
    simp only [Function.comp]
    congr 1
    simp only [Nat.succ_eq_add_one, Int.natCast_add]
    omega
theorem run_first (a f t : Int) (s : ByteArray) (k : Nat) : ixI a (run a f t s (k + 1)) = ((0 : Nat) : Int) := by
  rw [run_cons]
  unfold ixI
  rw [ixD, if_pos (by simp)]
theorem run_drop (a f t : Int) (s : ByteArray) (k : Nat) : (run a f t s (k + 1)).eraseIdx 0 = run (a + 1) f t s k := by
  rw [run_cons]; rfl
theorem run_get0 (a f t : Int) (s : ByteArray) (k : Nat) : (run a f t s (k + 1))[0]? = some ⟨a, f, t, s⟩ := by
  rw [run_cons]; rfl
set_option maxHeartbeats 8000000 in
theorem ok4 (s : ByteArray) (n : Int) : Go.Am.Pure Try.prog 4 [.d (sD s), .d (nI n)] (bI true) := by
  refine CallOk.of tysOk mixed od4 Try.func4 rfl rfl code4 ?_
  by_cases h1 : s.size > 20
  · have c1 : decide ((s.size : Int) > 20) = true := decide_eq_true (by omega)
    repeat (first | refine W.ite_t rfl ?_ | refine W.ite_f rfl ?_ | refine W.ite_t c1 ?_)
    refine W.pure ok11 rfl rfl ?_
    exact W.ret (RetQ.pure rfl rfl)
  have c1 : decide ((s.size : Int) > 20) = false := decide_eq_false (by omega)
  by_cases h2 : n < 0
  · have c2 : decide (n < 0) = true := decide_eq_true h2
    repeat (first | refine W.ite_t rfl ?_ | refine W.ite_f rfl ?_ | refine W.ite_f c1 ?_ | refine W.ite_t c2 ?_)
    refine W.pure ok11 rfl rfl ?_
    exact W.ret (RetQ.pure rfl rfl)
  have c2 : decide (n < 0) = false := decide_eq_false h2
  by_cases h3 : n > 20
  · have c3 : decide (n > 20) = true := decide_eq_true h3
    repeat (first | refine W.ite_t rfl ?_ | refine W.ite_f rfl ?_ | refine W.ite_f c1 ?_ | refine W.ite_f c2 ?_ | refine W.ite_t c3 ?_)
    refine W.pure ok11 rfl rfl ?_
    exact W.ret (RetQ.pure rfl rfl)
  have c3 : decide (n > 20) = false := decide_eq_false h3
  repeat (first | refine W.ite_t rfl ?_ | refine W.ite_f rfl ?_ | refine W.ite_f c1 ?_ | refine W.ite_f c2 ?_ | refine W.ite_f c3 ?_)
  obtain ⟨m, rfl⟩ := Int.eq_ofNat_of_zero_le (show 0 ≤ n by omega)
  refine W.loop (fun k fr σ => ∃ (i e : Nat) (j : List D), fr = [(0, .d (sD s)), (1, .d (nI m)), (5, .ptr 1 0), (6, .d (nI i))] ∧ σ = bS ⟨(i : Int), run 1 0 1 s i, e, j⟩ ∧ i ≤ 4000 ∧ k = 4000 - i) 4000
    (Start.of [0, 1, 5, 6] [] (by simp)) ⟨0, 0, [], rfl, rfl, by omega, rfl⟩ ?_
  rintro k fr σ ⟨i, e, j, rfl, rfl, hi, rfl⟩
  refine W.ite (fun d1 => ?_) (fun d1 => ?_)
  · have hil : i < 4000 := by have := of_decide_eq_true d1; omega
    have kc := ok8S ⟨(i : Int), run 1 0 1 s i, e, j⟩ 0 1 s (by omega) (by simp only [run_len]; omega) (by simp only; omega)
    refine W.callT [0, 1] kc (by decide) rfl rfl rfl rfl ?_
    rintro v σ ⟨rfl, e', j', rfl⟩
    repeat (first | refine W.ite_t rfl ?_ | refine W.ite_f rfl ?_)
    have g1 : IntKind.i64.wrap ((i : Int) + 1) = ((i + 1 : Nat) : Int) := by rw [wrap64 (by omega) (by omega)]; rfl
    refine W.ret ⟨_, _, _, ?_, Trim.of [0, 1, 5, 6] [0, 1] (by decide) (by show ∀ i ∈ [0, 1], i < 2; simp) keep2, i + 1, e', j', ?_, ?_, by omega, rfl⟩
    · omega
    · rw [← g1]; rfl
    · rw [run_succ 1 0 1 s i, show (1 : Int) + i = i + 1 from by omega]; rfl
  have hil : i = 4000 := by have := of_decide_eq_false d1; omega
  subst hil
  refine W.ret ?_
  have q1 := ok8F ⟨((4000 : Nat) : Int), run 1 0 1 s 4000, e, j⟩ 0 1 s (by omega) (by simp only [run_len]; omega)
  refine W.callF [0, 1] (bS ⟨((4000 : Nat) : Int), run 1 0 1 s 4000, e, j⟩) q1 (by decide) rfl rfl rfl rfl rfl rfl ?_
  have q2 := ok12F ⟨((4000 : Nat) : Int), run 1 0 1 s 4000, e, j⟩ 1 (run_first 1 0 1 s 3999) (run_get0 1 0 1 s 3999) (by show s.size ≤ 2000; omega) (by simp only [run_len]; omega) (by simp only [run_len]; omega)
  refine W.callF [0, 1] (bS ⟨((4000 : Nat) : Int), run 1 0 1 s 4000, e, j⟩) q2 (by decide) rfl rfl rfl rfl rfl rfl ?_
  refine W.loop (fun k fr σ => ∃ (i : Nat) (j : List D), fr = [(0, .d (sD s)), (1, .d (nI m)), (5, .ptr 1 0), (10, .d (fE 4)), (12, .d (fE 4)), (13, .d (nI i))] ∧ σ = bS ⟨4000, run (1 + i) 0 1 s (4000 - i), e, j⟩ ∧ i ≤ m ∧ k = m - i) m
    (Start.of [0, 1, 5, 10, 12, 13] [] (by simp)) ⟨0, j, rfl, rfl, by omega, rfl⟩ ?_
  rintro k fr σ ⟨i, j, rfl, rfl, hi, rfl⟩
  refine W.ite (fun d2 => ?_) (fun d2 => ?_)
  · have hil : i < m := by have := of_decide_eq_true d2; omega
    have g1 : IntKind.i64.wrap ((i : Int) + 1) = 1 + (i : Int) := by rw [wrap64 (by omega) (by omega)]; omega
    obtain ⟨r, hr⟩ : ∃ r, 4000 - i = r + 1 := ⟨3999 - i, by omega⟩
    have hr2 : 4000 - (i + 1) = r := by omega
    have kt := ok9S ⟨4000, run (1 + i) 0 1 s (4000 - i), e, j⟩ (IntKind.i64.wrap ((i : Int) + 1)) (by simp only [run_len]; omega) (i := 0) (p := ⟨1 + i, 0, 1, s⟩) (by rw [g1, hr]; exact run_first _ _ _ _ _) (by rw [hr]; exact run_get0 _ _ _ _ _)
    refine W.callT [0, 1] kt (by decide) rfl rfl rfl rfl ?_
    rintro v σ ⟨rfl, rfl⟩
    repeat (first | refine W.ite_t rfl ?_ | refine W.ite_f rfl ?_)
    have g2 : IntKind.i64.wrap ((i : Int) + 1) = ((i + 1 : Nat) : Int) := by rw [g1]; omega
    refine W.ret ⟨_, _, _, ?_, Trim.of [0, 1, 5, 10, 12, 13] [0, 1] (by decide) (by show ∀ i ∈ [0, 1], i < 3; simp) keep2, i + 1, pkC pk0 ++ j, ?_, ?_, by omega, rfl⟩
    · omega
    · rw [← g2]; rfl
    · rw [hr2, show (1 : Int) + ((i + 1 : Nat) : Int) = 1 + i + 1 from by omega, ← run_drop, ← hr]; rfl
  have him : i = m := by have := of_decide_eq_false d2; omega
  subst him
  refine W.ret ?_
  refine W.loop (fun k fr σ => ∃ (q e : Nat) (j : List D) (l : List Pk), fr = [(0, .d (sD s)), (1, .d (nI i)), (5, .ptr 1 0), (10, .d (fE 4)), (12, .d (fE 4)), (16, .d (nI q))] ∧ σ = bS ⟨4000 + q, l, e, j⟩ ∧ l.length + i = 4000 + q ∧ q ≤ i ∧ k = i - q) i
    (Start.of [0, 1, 5, 10, 12, 16] [] (by simp)) ⟨0, e, j, _, rfl, rfl, by rw [run_len]; omega, by omega, rfl⟩ ?_
  rintro k fr σ ⟨q, e, j, l, rfl, rfl, hl, hq, rfl⟩
  refine W.ite (fun d3 => ?_) (fun d3 => ?_)
  · have hql : q < i := by have := of_decide_eq_true d3; omega
    have kc := ok8S ⟨4000 + (q : Int), l, e, j⟩ 0 1 s (by omega) (by simp only; omega) (by simp only; omega)
    refine W.callT [0, 1] kc (by decide) rfl rfl rfl rfl ?_
    rintro v σ ⟨rfl, e', j', rfl⟩
    repeat (first | refine W.ite_t rfl ?_ | refine W.ite_f rfl ?_)
    have g1 : IntKind.i64.wrap ((q : Int) + 1) = ((q + 1 : Nat) : Int) := by rw [wrap64 (by omega) (by omega)]; rfl
    refine W.ret ⟨_, _, _, ?_, Trim.of [0, 1, 5, 10, 12, 16] [0, 1] (by decide) (by show ∀ i ∈ [0, 1], i < 2; simp) keep2, q + 1, e', j', l ++ [⟨4000 + (q : Int) + 1, 0, 1, s⟩], ?_, ?_, ?_, by omega, rfl⟩
    · omega
    · rw [← g1]; rfl
    · rw [show (4000 : Int) + ((q + 1 : Nat) : Int) = 4000 + q + 1 from by omega]; rfl
    · rw [List.length_append]; simp only [List.length_singleton]; omega
  have hqi : q = i := by have := of_decide_eq_false d3; omega
  have hl4 : l.length = 4000 := by omega
  refine W.ret ?_
  have q3 := ok8F ⟨4000 + (q : Int), l, e, j⟩ 0 1 s (by omega) (by simp only; omega)
  refine W.callF [0, 1] (bS ⟨4000 + (q : Int), l, e, j⟩) q3 (by decide) rfl rfl rfl rfl rfl rfl ?_
  refine W.pure ok11 rfl rfl ?_
  repeat (first | refine W.ite_t rfl ?_ | refine W.ite_f rfl ?_)
  refine W.pure (Er.okIs bagW 0 4 4) rfl rfl ?_
  repeat (first | refine W.ite_t rfl ?_ | refine W.ite_f rfl ?_)
  refine W.pure (Er.okIs bagW 0 4 4) rfl rfl ?_
  repeat (first | refine W.ite_t rfl ?_ | refine W.ite_f rfl ?_)
  refine W.pure (Er.okIs bagW 0 4 4) rfl rfl ?_
  repeat (first | refine W.ite_t rfl ?_ | refine W.ite_f rfl ?_)
  have kl := ok13 ⟨4000 + (q : Int), l, e, j⟩
  have e4 : ((l.length : Int) == 4000) = true := by rw [hl4]; rfl
  refine W.callF [0, 1] (bS ⟨4000 + (q : Int), l, e, j⟩) kl (by decide) rfl rfl rfl rfl rfl rfl ?_
  repeat (first | refine W.ite_t rfl ?_ | refine W.ite_f rfl ?_)
  exact W.ret (RetQ.pure rfl (ret_bI e4))
end Go.Proofs.Ytemabpapfkplgaa.Bg
