import Derived.Test.YtemabpapfkplgaaBC
set_option maxRecDepth 100000
set_option linter.unusedVariables false
set_option linter.unusedSimpArgs false
/- The statement BagDoubled. -/
namespace Go.Proofs.Ytemabpapfkplgaa.Bg
open Go Go.Am
def od5 : Ords := []
theorem code5 : codeB Try.f5.ntmps od5 (match Try.f5.body with | some c => c | none => .skip) = true := by kernel_rfl
theorem pkD {l : List Pk} {i : Nat} {p : Pk} (h : l[i]? = some p) : Elem (flat pkC l) [.int .i64, .int .i64, .int .i64, .str] (i * 4) 4 (pkC p) :=
  Elem.all pkC_len h [.int .i64, .int .i64, .int .i64, .str] rfl ⟨rfl, rfl, rfl, rfl, True.intro⟩ rfl
def dup (f t : Int) (s : ByteArray) (k : Nat) : List Pk := (List.range k).map fun (i : Nat) => ⟨(i : Int) + 1, f, t, s⟩
theorem dup_succ (f t : Int) (s : ByteArray) (k : Nat) : dup f t s (k + 1) = dup f t s k ++ [⟨(k : Int) + 1, f, t, s⟩] := by
  unfold dup
  rw [List.range_succ, List.map_append]
  rfl
theorem dup_len (f t : Int) (s : ByteArray) (k : Nat) : (dup f t s k).length = k := by simp [dup]
theorem dup_get (f t : Int) (s : ByteArray) {k i : Nat} (h : i < k) : (dup f t s k)[i]? = some ⟨(i : Int) + 1, f, t, s⟩ := by
  unfold dup
  rw [List.getElem?_map, List.getElem?_range h]
  rfl
theorem dup_first (f t : Int) (s : ByteArray) (k : Nat) : ixI 1 (dup f t s (k + 1)) = ((0 : Nat) : Int) := by
  unfold dup ixI
  rw [List.range_succ_eq_map]
  rfl
theorem keepB (b : B) : ∀ i, i < (bS b).length → [0, 1][i]? = some i := fun i hi => keep2 i hi
set_option maxHeartbeats 8000000 in
theorem ok5 (f t : Int) (s : ByteArray) (n : Int) : Go.Am.Pure Try.prog 5 [.d (nI f), .d (nI t), .d (sD s), .d (nI n)] (bI true) := by
  refine CallOk.of tysOk mixed od5 Try.func5 rfl rfl code5 ?_
  by_cases h1 : s.size > 300
  · have c1 : decide ((s.size : Int) > 300) = true := decide_eq_true (by omega)
    repeat (first | refine W.ite_t rfl ?_ | refine W.ite_f rfl ?_ | refine W.ite_t c1 ?_)
    refine W.pure ok11 rfl rfl ?_
    exact W.ret (RetQ.pure rfl rfl)
  have c1 : decide ((s.size : Int) > 300) = false := decide_eq_false (by omega)
  by_cases h2 : n < 0
  · have c2 : decide (n < 0) = true := decide_eq_true h2
    repeat (first | refine W.ite_t rfl ?_ | refine W.ite_f rfl ?_ | refine W.ite_f c1 ?_ | refine W.ite_t c2 ?_)
    refine W.pure ok11 rfl rfl ?_
    exact W.ret (RetQ.pure rfl rfl)
  have c2 : decide (n < 0) = false := decide_eq_false h2
  by_cases h3 : n > 20
  · have c3 : decide (n > 20) = true := decide_eq_true h3
    repeat (first | refine W.ite_t rfl ?_ | refine W.ite_f rfl ?_ | refine W.ite_f c1 ?_ | refine W.ite_f c2 ?_ | refine W.ite_t c3 ?_)
    refine W.pure ok11 rfl rfl ?_
    exact W.ret (RetQ.pure rfl rfl)
  have c3 : decide (n > 20) = false := decide_eq_false h3
  repeat (first | refine W.ite_t rfl ?_ | refine W.ite_f rfl ?_ | refine W.ite_f c1 ?_ | refine W.ite_f c2 ?_ | refine W.ite_f c3 ?_)
  obtain ⟨m, rfl⟩ := Int.eq_ofNat_of_zero_le (show 0 ≤ n by omega)
  have k1 := ok8S ⟨0, [], 0, []⟩ f t s (by omega) (by decide) (by decide)
  refine W.callT [0, 1] k1 (by decide) rfl rfl rfl rfl ?_
  rintro v σ ⟨rfl, e, j, rfl⟩
  refine W.loop (fun k fr σ => ∃ (i e : Nat) (j : List D), fr = [(0, .d (nI f)), (1, .d (nI t)), (2, .d (sD s)), (3, .d (nI m)), (9, .ptr 1 0), (10, .d (nI 1)), (11, .d (.lit .nilIface)), (12, .d (nI i))] ∧ σ = bS ⟨(i : Int) + 1, dup f t s (i + 1), e, j⟩ ∧ i ≤ m ∧ k = m - i) m
    (Start.of [0, 1, 2, 3, 9, 10, 11, 12] [] (by simp)) ⟨0, e, j, rfl, rfl, by omega, rfl⟩ ?_
  rintro k fr σ ⟨i, e, j, rfl, rfl, hi, rfl⟩
  refine W.ite (fun d1 => ?_) (fun d1 => ?_)
  · have hil : i < m := by have := of_decide_eq_true d1; omega
    have kc := ok12K ⟨(i : Int) + 1, dup f t s (i + 1), e, j⟩ 1 (i := 0) (p := ⟨1, f, t, s⟩) (dup_first f t s i) (dup_get f t s (by omega)) (by show s.size ≤ 2000; omega) (by simp only [dup_len]; omega) (by simp only; omega)
    refine W.callT [0, 1] kc (by decide) rfl rfl rfl rfl ?_
    rintro v σ ⟨rfl, e', j', rfl⟩
    have g0 : IntKind.i64.wrap (IntKind.i64.wrap (1 + 1) + (i : Int)) = (i : Int) + 1 + 1 := by
      rw [show IntKind.i64.wrap (1 + 1) = 2 from by decide, wrap64 (by omega) (by omega)]; omega
    have d2 : ((i : Int) + 1 + 1 != IntKind.i64.wrap (IntKind.i64.wrap (1 + 1) + (i : Int))) = false := by rw [g0]; simp
    repeat (first | refine W.ite_t rfl ?_ | refine W.ite_f rfl ?_ | refine W.ite_f d2 ?_)
    have g1 : IntKind.i64.wrap ((i : Int) + 1) = ((i + 1 : Nat) : Int) := by rw [wrap64 (by omega) (by omega)]; rfl
    refine W.ret ⟨_, _, _, ?_, Trim.of [0, 1, 2, 3, 9, 10, 11, 12] [0, 1] (by decide) (by show ∀ i ∈ [0, 1], i < 2; simp) keep2, i + 1, e', j', ?_, ?_, by omega, rfl⟩
    · omega
    · rw [← g1]; rfl
    · rw [dup_succ f t s (i + 1)]; rfl
  · have hil : i = m := by have := of_decide_eq_false d1; omega
    subst hil
    have hdl := dup_len f t s (i + 1)
    have ka := ok14 ⟨(i : Int) + 1, dup f t s (i + 1), e, j⟩ (by simp only [dup_len]; omega)
    refine W.ret ?_
    refine W.callF [0, 1] (bS ⟨(i : Int) + 1, dup f t s (i + 1), e, j⟩) ka (by decide) rfl rfl rfl rfl rfl rfl ?_
    refine W.loop (fun k fr σ => ∃ q : Nat, fr = [(0, .d (nI f)), (1, .d (nI t)), (2, .d (sD s)), (3, .d (nI i)), (9, .ptr 1 0), (11, .d (.lit .nilIface)), (56, slP (dup f t s (i + 1))), (57, .d (nI (dup f t s (i + 1)).length)), (58, .d (nI q))] ∧ σ = bS ⟨(i : Int) + 1, dup f t s (i + 1), e, j⟩ ∧ q ≤ i + 1 ∧ k = i + 1 - q) (i + 1)
      (Start.of [0, 1, 2, 3, 9, 11, 56, 57, 58] [] (by simp)) ⟨0, rfl, rfl, by omega, rfl⟩ ?_
    rintro k fr σ ⟨q, rfl, rfl, hq, rfl⟩
    refine W.ite (fun d3 => ?_) (fun d3 => ?_)
    · have hql : q < i + 1 := by have := of_decide_eq_true d3; rw [hdl] at this; omega
      have hg := dup_get f t s hql
      refine W.need (ix_ok pkC_len (by decide) (by rw [hdl]; exact hql)) ?_
      refine W.ld (pkD hg) ?_
      have e1 : (f != f) = false := by simp
      have e2 : (t != t) = false := by simp
      have e3 : (!(s.toList == s.toList)) = false := by simp
      repeat (first | refine W.ite_t rfl ?_ | refine W.ite_f rfl ?_ | refine W.ite_f e1 ?_ | refine W.ite_f e2 ?_ | refine W.ite_f e3 ?_)
      have g1 : IntKind.i64.wrap ((q : Int) + 1) = ((q + 1 : Nat) : Int) := by rw [wrap64 (by omega) (by omega)]; rfl
      refine W.ret ⟨_, _, _, ?_, Trim.of [0, 1, 2, 3, 9, 11, 56, 57, 58] [0, 1] (by decide) (by simp) keep2, q + 1, ?_, rfl, by omega, rfl⟩
      · omega
      · rw [← g1]; rfl
    · refine W.ret ?_
      refine W.pure ok11 rfl rfl ?_
      have kl := ok13 ⟨(i : Int) + 1, dup f t s (i + 1), e, j⟩
      have e4 : (((dup f t s (i + 1)).length : Int) == IntKind.i64.wrap (1 + (i : Int))) = true := by
        rw [hdl, wrap64 (by omega) (by omega), beq_int]; exact decide_eq_true (by omega)
      repeat (first | refine W.ite_t rfl ?_ | refine W.ite_f rfl ?_)
      refine W.callF [0, 1] (bS ⟨(i : Int) + 1, dup f t s (i + 1), e, j⟩) kl (by decide) rfl rfl rfl rfl rfl rfl ?_
      repeat (first | refine W.ite_t rfl ?_ | refine W.ite_f rfl ?_)
      refine W.ret (RetQ.pure rfl (ret_bI e4))
end Go.Proofs.Ytemabpapfkplgaa.Bg
