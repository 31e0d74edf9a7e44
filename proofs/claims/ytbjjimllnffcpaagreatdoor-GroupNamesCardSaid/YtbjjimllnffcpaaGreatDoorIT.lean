import Derived.Test.YtbjjimllnffcpaaGreatDoorGI
import Derived.Test.YtbjjimllnffcpaaGreatDoorAm23
set_option maxRecDepth 100000
set_option linter.unusedVariables false
set_option linter.unusedSimpArgs false
/- formatBase10 at every length. -/
namespace Go.Proofs.YtbjjimllnffcpaaGreatDoor.Va
open Go Go.Am
abbrev dC (u e : Nat) : AV := .d (.lit (.int .u8 ((48 + u / e % 10 : Nat) : Int)))
theorem w32 (x : Nat) (h : x < 4294967296) : IntKind.u32.wrap (x : Int) = x := by
  unfold IntKind.wrap
  simp [IntKind.bits, IntKind.signed]
  omega
theorem w8 (x : Nat) (h : x < 256) : IntKind.u8.wrap (x : Int) = x := by
  unfold IntKind.wrap
  simp [IntKind.bits, IntKind.signed]
  omega
theorem w64u (x : Nat) (h : x < 18446744073709551616) : IntKind.u64.wrap (x : Int) = x := by
  unfold IntKind.wrap
  simp [IntKind.bits, IntKind.signed]
  omega
theorem kp1 : ∀ i, i < 1 → [0][i]? = some i := by
  intro j hj; obtain rfl : j = 0 := (by omega); rfl
theorem cons_eq {a a' : AV} {l l' : List AV} (h : a = a') (k : l = l') : a :: l = a' :: l' := by rw [h, k]
theorem rng (m : Nat) (h : m < 200) : (0 : Int) ≤ (m : Int) ∧ (m : Int) < ((200 : Nat) : Int) := ⟨by omega, by omega⟩
set_option maxHeartbeats 8000000 in
theorem ok105_1 (u : Nat) (hu : u < 10) : CallOk Tryz.prog 105 [.win 0 1 1, .d (uI u)] [.var [zC, zC, zC, zC, zC, zC, zC, zC, zC, zC, zC, zC, zC, zC, zC, zC, zC, zC, zC, zC, zC, zC, zC, zC]] (fun v s => v = .tuple [] ∧ s = [.var [zC, dC u 1, zC, zC, zC, zC, zC, zC, zC, zC, zC, zC, zC, zC, zC, zC, zC, zC, zC, zC, zC, zC, zC, zC]]) := by
  refine CallOk.of tysOk mixed od105 Tryz.func105 rfl rfl code105 ?_
  refine W.loop (fun k fr σ => (k = 0 ∧ fr = [(0, .win 0 1 1), (1, .d (uI ((u : Nat) : Int))), (4, .d (nI 1))] ∧ σ = [.var [zC, zC, zC, zC, zC, zC, zC, zC, zC, zC, zC, zC, zC, zC, zC, zC, zC, zC, zC, zC, zC, zC, zC, zC]])) 0
    (Start.of [0, 1, 4] [] (by simp)) ⟨rfl, rfl, rfl⟩ ?_
  rintro k fr σ ⟨rfl, rfl, rfl⟩
  refine W.ite_f rfl ?_
  refine W.ret ?_
  have T0 : IntKind.u32.wrap ((u : Nat) : Int) = ((u : Nat) : Int) := w32 (u) (by omega)
  have T7 : IntKind.u32.wrap (48 + ((u : Nat) : Int)) = ((48 + u : Nat) : Int) := w32 (48 + u) (by omega)
  have T8 : IntKind.u8.wrap ((48 + u : Nat) : Int) = ((48 + u : Nat) : Int) := w8 _ (by omega)
  refine W.ite_f rfl ?_
  refine W.ite_f rfl ?_
  refine W.ite_t rfl ?_
  refine W.need (by decide) ?_
  refine W.ret (RetQ.all ⟨rfl, ?_⟩)
  show [Blk.var _] = [Blk.var [zC, dC u 1, zC, zC, zC, zC, zC, zC, zC, zC, zC, zC, zC, zC, zC, zC, zC, zC, zC, zC, zC, zC, zC, zC]]
  simp only [T0, T7, T8]
  refine congrArg (fun l => [Blk.var l]) (congrArg (List.cons zC) ?_)
  refine cons_eq (by
      have hv : u / 1 % 10 = u := by omega
      unfold dC
      rw [hv]) ?_
  rfl
set_option maxHeartbeats 8000000 in
theorem ok105_2 (u : Nat) (hu : u < 100) : CallOk Tryz.prog 105 [.win 0 1 2, .d (uI u)] [.var [zC, zC, zC, zC, zC, zC, zC, zC, zC, zC, zC, zC, zC, zC, zC, zC, zC, zC, zC, zC, zC, zC, zC, zC]] (fun v s => v = .tuple [] ∧ s = [.var [zC, dC u 10, dC u 1, zC, zC, zC, zC, zC, zC, zC, zC, zC, zC, zC, zC, zC, zC, zC, zC, zC, zC, zC, zC, zC]]) := by
  refine CallOk.of tysOk mixed od105 Tryz.func105 rfl rfl code105 ?_
  refine W.loop (fun k fr σ => (k = 0 ∧ fr = [(0, .win 0 1 2), (1, .d (uI ((u : Nat) : Int))), (4, .d (nI 2))] ∧ σ = [.var [zC, zC, zC, zC, zC, zC, zC, zC, zC, zC, zC, zC, zC, zC, zC, zC, zC, zC, zC, zC, zC, zC, zC, zC]])) 0
    (Start.of [0, 1, 4] [] (by simp)) ⟨rfl, rfl, rfl⟩ ?_
  rintro k fr σ ⟨rfl, rfl, rfl⟩
  refine W.ite_f rfl ?_
  refine W.ret ?_
  have T0 : IntKind.u32.wrap ((u : Nat) : Int) = ((u : Nat) : Int) := w32 (u) (by omega)
  have T5 : IntKind.u32.wrap (Int.tmod ((u : Nat) : Int) 100 * 2) = ((u % 100 * 2 : Nat) : Int) := w32 (u % 100 * 2) (by omega)
  have T6 : IntKind.u32.wrap (Int.tdiv ((u : Nat) : Int) 100) = ((u / 100 : Nat) : Int) := w32 (u / 100) (by omega)
  have Q2 : IntKind.u32.wrap (((u % 100 * 2 : Nat) : Int) + 1) = ((u % 100 * 2 + 1 : Nat) : Int) := w32 (u % 100 * 2 + 1) (by omega)
  refine W.ite_f rfl ?_
  refine W.ite_t rfl ?_
  iterate 2 refine W.need (by decide) ?_
  refine W.need (by simp only [T0, T5, T6, Q2]; exact rng _ (by omega)) ?_
  refine W.need (by simp only [T0, T5, T6, Q2]; exact rng _ (by omega)) ?_
  refine W.need (by decide) ?_
  refine W.need (by decide) ?_
  refine W.ite_f rfl ?_
  refine W.ret (RetQ.all ⟨rfl, ?_⟩)
  show [Blk.var _] = [Blk.var [zC, dC u 10, dC u 1, zC, zC, zC, zC, zC, zC, zC, zC, zC, zC, zC, zC, zC, zC, zC, zC, zC, zC, zC, zC, zC]]
  simp only [T0, T5, T6, Q2]
  refine congrArg (fun l => [Blk.var l]) (congrArg (List.cons zC) ?_)
  refine cons_eq (by
    have hq : (u % 100) < 100 := by omega
    have hv : u / 10 % 10 = (u % 100) / 10 := by omega
    unfold dC
    rw [hv]
    refine congrArg (fun n : Nat => AV.d (.lit (.int .u8 (n : Int)))) ?_
    generalize (u % 100) = q at hq ⊢
    clear hv
    revert q
    decide +kernel) ?_
  refine cons_eq (by
    have hq : (u % 100) < 100 := by omega
    have hv : u / 1 % 10 = (u % 100) % 10 := by omega
    unfold dC
    rw [hv]
    refine congrArg (fun n : Nat => AV.d (.lit (.int .u8 (n : Int)))) ?_
    generalize (u % 100) = q at hq ⊢
    clear hv
    revert q
    decide +kernel) ?_
  rfl
set_option maxHeartbeats 8000000 in
theorem ok105_3 (u : Nat) (hu : u < 1000) : CallOk Tryz.prog 105 [.win 0 1 3, .d (uI u)] [.var [zC, zC, zC, zC, zC, zC, zC, zC, zC, zC, zC, zC, zC, zC, zC, zC, zC, zC, zC, zC, zC, zC, zC, zC]] (fun v s => v = .tuple [] ∧ s = [.var [zC, dC u 100, dC u 10, dC u 1, zC, zC, zC, zC, zC, zC, zC, zC, zC, zC, zC, zC, zC, zC, zC, zC, zC, zC, zC, zC]]) := by
  refine CallOk.of tysOk mixed od105 Tryz.func105 rfl rfl code105 ?_
  refine W.loop (fun k fr σ => (k = 0 ∧ fr = [(0, .win 0 1 3), (1, .d (uI ((u : Nat) : Int))), (4, .d (nI 3))] ∧ σ = [.var [zC, zC, zC, zC, zC, zC, zC, zC, zC, zC, zC, zC, zC, zC, zC, zC, zC, zC, zC, zC, zC, zC, zC, zC]])) 0
    (Start.of [0, 1, 4] [] (by simp)) ⟨rfl, rfl, rfl⟩ ?_
  rintro k fr σ ⟨rfl, rfl, rfl⟩
  refine W.ite_f rfl ?_
  refine W.ret ?_
  have T0 : IntKind.u32.wrap ((u : Nat) : Int) = ((u : Nat) : Int) := w32 (u) (by omega)
  have T5 : IntKind.u32.wrap (Int.tmod ((u : Nat) : Int) 100 * 2) = ((u % 100 * 2 : Nat) : Int) := w32 (u % 100 * 2) (by omega)
  have T6 : IntKind.u32.wrap (Int.tdiv ((u : Nat) : Int) 100) = ((u / 100 : Nat) : Int) := w32 (u / 100) (by omega)
  have Q2 : IntKind.u32.wrap (((u % 100 * 2 : Nat) : Int) + 1) = ((u % 100 * 2 + 1 : Nat) : Int) := w32 (u % 100 * 2 + 1) (by omega)
  have T7 : IntKind.u32.wrap (48 + (((u / 100) : Nat) : Int)) = ((48 + (u / 100) : Nat) : Int) := w32 (48 + (u / 100)) (by omega)
  have T8 : IntKind.u8.wrap ((48 + (u / 100) : Nat) : Int) = ((48 + (u / 100) : Nat) : Int) := w8 _ (by omega)
  refine W.ite_f rfl ?_
  refine W.ite_t rfl ?_
  iterate 2 refine W.need (by decide) ?_
  refine W.need (by simp only [T0, T5, T6, Q2, T7, T8]; exact rng _ (by omega)) ?_
  refine W.need (by simp only [T0, T5, T6, Q2, T7, T8]; exact rng _ (by omega)) ?_
  refine W.need (by decide) ?_
  refine W.need (by decide) ?_
  refine W.ite_t rfl ?_
  refine W.need (by decide) ?_
  refine W.ret (RetQ.all ⟨rfl, ?_⟩)
  show [Blk.var _] = [Blk.var [zC, dC u 100, dC u 10, dC u 1, zC, zC, zC, zC, zC, zC, zC, zC, zC, zC, zC, zC, zC, zC, zC, zC, zC, zC, zC, zC]]
  simp only [T0, T5, T6, Q2, T7, T8]
  refine congrArg (fun l => [Blk.var l]) (congrArg (List.cons zC) ?_)
  refine cons_eq (by
      have hv : u / 100 % 10 = (u / 100) := by omega
      unfold dC
      rw [hv]) ?_
  refine cons_eq (by
    have hq : (u % 100) < 100 := by omega
    have hv : u / 10 % 10 = (u % 100) / 10 := by omega
    unfold dC
    rw [hv]
    refine congrArg (fun n : Nat => AV.d (.lit (.int .u8 (n : Int)))) ?_
    generalize (u % 100) = q at hq ⊢
    clear hv
    revert q
    decide +kernel) ?_
  refine cons_eq (by
    have hq : (u % 100) < 100 := by omega
    have hv : u / 1 % 10 = (u % 100) % 10 := by omega
    unfold dC
    rw [hv]
    refine congrArg (fun n : Nat => AV.d (.lit (.int .u8 (n : Int)))) ?_
    generalize (u % 100) = q at hq ⊢
    clear hv
    revert q
    decide +kernel) ?_
  rfl
set_option maxHeartbeats 8000000 in
theorem ok105_4 (u : Nat) (hu : u < 10000) : CallOk Tryz.prog 105 [.win 0 1 4, .d (uI u)] [.var [zC, zC, zC, zC, zC, zC, zC, zC, zC, zC, zC, zC, zC, zC, zC, zC, zC, zC, zC, zC, zC, zC, zC, zC]] (fun v s => v = .tuple [] ∧ s = [.var [zC, dC u 1000, dC u 100, dC u 10, dC u 1, zC, zC, zC, zC, zC, zC, zC, zC, zC, zC, zC, zC, zC, zC, zC, zC, zC, zC, zC]]) := by
  refine CallOk.of tysOk mixed od105 Tryz.func105 rfl rfl code105 ?_
  refine W.loop (fun k fr σ => (k = 0 ∧ fr = [(0, .win 0 1 4), (1, .d (uI ((u : Nat) : Int))), (4, .d (nI 4))] ∧ σ = [.var [zC, zC, zC, zC, zC, zC, zC, zC, zC, zC, zC, zC, zC, zC, zC, zC, zC, zC, zC, zC, zC, zC, zC, zC]])) 0
    (Start.of [0, 1, 4] [] (by simp)) ⟨rfl, rfl, rfl⟩ ?_
  rintro k fr σ ⟨rfl, rfl, rfl⟩
  refine W.ite_f rfl ?_
  refine W.ret ?_
  have T0 : IntKind.u32.wrap ((u : Nat) : Int) = ((u : Nat) : Int) := w32 (u) (by omega)
  have T1 : IntKind.u32.wrap (Int.tdiv ((u : Nat) : Int) 10000) = ((u / 10000 : Nat) : Int) := w32 (u / 10000) (by omega)
  have T2 : IntKind.u32.wrap (Int.tdiv (Int.tmod ((u : Nat) : Int) 10000) 100) = ((u % 10000 / 100 : Nat) : Int) := w32 (u % 10000 / 100) (by omega)
  have T3 : IntKind.u32.wrap (((u % 10000 / 100 : Nat) : Int) * 2) = ((u % 10000 / 100 * 2 : Nat) : Int) := w32 (u % 10000 / 100 * 2) (by omega)
  have T4 : IntKind.u32.wrap (Int.tmod (Int.tmod ((u : Nat) : Int) 10000) 100 * 2) = ((u % 10000 % 100 * 2 : Nat) : Int) := w32 (u % 10000 % 100 * 2) (by omega)
  have Q0 : IntKind.u32.wrap (((u % 10000 % 100 * 2 : Nat) : Int) + 1) = ((u % 10000 % 100 * 2 + 1 : Nat) : Int) := w32 (u % 10000 % 100 * 2 + 1) (by omega)
  have Q1 : IntKind.u32.wrap (((u % 10000 / 100 * 2 : Nat) : Int) + 1) = ((u % 10000 / 100 * 2 + 1 : Nat) : Int) := w32 (u % 10000 / 100 * 2 + 1) (by omega)
  refine W.ite_t rfl ?_
  iterate 4 refine W.need (by decide) ?_
  refine W.need (by simp only [T0, T1, T2, T3, T4, Q0, Q1]; exact rng _ (by omega)) ?_
  refine W.need (by simp only [T0, T1, T2, T3, T4, Q0, Q1]; exact rng _ (by omega)) ?_
  refine W.need (by decide) ?_
  refine W.need (by decide) ?_
  refine W.need (by simp only [T0, T1, T2, T3, T4, Q0, Q1]; exact rng _ (by omega)) ?_
  refine W.need (by simp only [T0, T1, T2, T3, T4, Q0, Q1]; exact rng _ (by omega)) ?_
  refine W.need (by decide) ?_
  refine W.need (by decide) ?_
  refine W.ite_f rfl ?_
  refine W.ite_f rfl ?_
  refine W.ret (RetQ.all ⟨rfl, ?_⟩)
  show [Blk.var _] = [Blk.var [zC, dC u 1000, dC u 100, dC u 10, dC u 1, zC, zC, zC, zC, zC, zC, zC, zC, zC, zC, zC, zC, zC, zC, zC, zC, zC, zC, zC]]
  simp only [T0, T1, T2, T3, T4, Q0, Q1]
  refine congrArg (fun l => [Blk.var l]) (congrArg (List.cons zC) ?_)
  refine cons_eq (by
    have hq : (u % 10000 / 100) < 100 := by omega
    have hv : u / 1000 % 10 = (u % 10000 / 100) / 10 := by omega
    unfold dC
    rw [hv]
    refine congrArg (fun n : Nat => AV.d (.lit (.int .u8 (n : Int)))) ?_
    generalize (u % 10000 / 100) = q at hq ⊢
    clear hv
    revert q
    decide +kernel) ?_
  refine cons_eq (by
    have hq : (u % 10000 / 100) < 100 := by omega
    have hv : u / 100 % 10 = (u % 10000 / 100) % 10 := by omega
    unfold dC
    rw [hv]
    refine congrArg (fun n : Nat => AV.d (.lit (.int .u8 (n : Int)))) ?_
    generalize (u % 10000 / 100) = q at hq ⊢
    clear hv
    revert q
    decide +kernel) ?_
  refine cons_eq (by
    have hq : (u % 10000 % 100) < 100 := by omega
    have hv : u / 10 % 10 = (u % 10000 % 100) / 10 := by omega
    unfold dC
    rw [hv]
    refine congrArg (fun n : Nat => AV.d (.lit (.int .u8 (n : Int)))) ?_
    generalize (u % 10000 % 100) = q at hq ⊢
    clear hv
    revert q
    decide +kernel) ?_
  refine cons_eq (by
    have hq : (u % 10000 % 100) < 100 := by omega
    have hv : u / 1 % 10 = (u % 10000 % 100) % 10 := by omega
    unfold dC
    rw [hv]
    refine congrArg (fun n : Nat => AV.d (.lit (.int .u8 (n : Int)))) ?_
    generalize (u % 10000 % 100) = q at hq ⊢
    clear hv
    revert q
    decide +kernel) ?_
  rfl
set_option maxHeartbeats 8000000 in
theorem ok105_5 (u : Nat) (hu : u < 100000) : CallOk Tryz.prog 105 [.win 0 1 5, .d (uI u)] [.var [zC, zC, zC, zC, zC, zC, zC, zC, zC, zC, zC, zC, zC, zC, zC, zC, zC, zC, zC, zC, zC, zC, zC, zC]] (fun v s => v = .tuple [] ∧ s = [.var [zC, dC u 10000, dC u 1000, dC u 100, dC u 10, dC u 1, zC, zC, zC, zC, zC, zC, zC, zC, zC, zC, zC, zC, zC, zC, zC, zC, zC, zC]]) := by
  refine CallOk.of tysOk mixed od105 Tryz.func105 rfl rfl code105 ?_
  refine W.loop (fun k fr σ => (k = 0 ∧ fr = [(0, .win 0 1 5), (1, .d (uI ((u : Nat) : Int))), (4, .d (nI 5))] ∧ σ = [.var [zC, zC, zC, zC, zC, zC, zC, zC, zC, zC, zC, zC, zC, zC, zC, zC, zC, zC, zC, zC, zC, zC, zC, zC]])) 0
    (Start.of [0, 1, 4] [] (by simp)) ⟨rfl, rfl, rfl⟩ ?_
  rintro k fr σ ⟨rfl, rfl, rfl⟩
  refine W.ite_f rfl ?_
  refine W.ret ?_
  have T0 : IntKind.u32.wrap ((u : Nat) : Int) = ((u : Nat) : Int) := w32 (u) (by omega)
  have T1 : IntKind.u32.wrap (Int.tdiv ((u : Nat) : Int) 10000) = ((u / 10000 : Nat) : Int) := w32 (u / 10000) (by omega)
  have T2 : IntKind.u32.wrap (Int.tdiv (Int.tmod ((u : Nat) : Int) 10000) 100) = ((u % 10000 / 100 : Nat) : Int) := w32 (u % 10000 / 100) (by omega)
  have T3 : IntKind.u32.wrap (((u % 10000 / 100 : Nat) : Int) * 2) = ((u % 10000 / 100 * 2 : Nat) : Int) := w32 (u % 10000 / 100 * 2) (by omega)
  have T4 : IntKind.u32.wrap (Int.tmod (Int.tmod ((u : Nat) : Int) 10000) 100 * 2) = ((u % 10000 % 100 * 2 : Nat) : Int) := w32 (u % 10000 % 100 * 2) (by omega)
  have Q0 : IntKind.u32.wrap (((u % 10000 % 100 * 2 : Nat) : Int) + 1) = ((u % 10000 % 100 * 2 + 1 : Nat) : Int) := w32 (u % 10000 % 100 * 2 + 1) (by omega)
  have Q1 : IntKind.u32.wrap (((u % 10000 / 100 * 2 : Nat) : Int) + 1) = ((u % 10000 / 100 * 2 + 1 : Nat) : Int) := w32 (u % 10000 / 100 * 2 + 1) (by omega)
  have T7 : IntKind.u32.wrap (48 + (((u / 10000) : Nat) : Int)) = ((48 + (u / 10000) : Nat) : Int) := w32 (48 + (u / 10000)) (by omega)
  have T8 : IntKind.u8.wrap ((48 + (u / 10000) : Nat) : Int) = ((48 + (u / 10000) : Nat) : Int) := w8 _ (by omega)
  refine W.ite_t rfl ?_
  iterate 4 refine W.need (by decide) ?_
  refine W.need (by simp only [T0, T1, T2, T3, T4, Q0, Q1, T7, T8]; exact rng _ (by omega)) ?_
  refine W.need (by simp only [T0, T1, T2, T3, T4, Q0, Q1, T7, T8]; exact rng _ (by omega)) ?_
  refine W.need (by decide) ?_
  refine W.need (by decide) ?_
  refine W.need (by simp only [T0, T1, T2, T3, T4, Q0, Q1, T7, T8]; exact rng _ (by omega)) ?_
  refine W.need (by simp only [T0, T1, T2, T3, T4, Q0, Q1, T7, T8]; exact rng _ (by omega)) ?_
  refine W.need (by decide) ?_
  refine W.need (by decide) ?_
  refine W.ite_f rfl ?_
  refine W.ite_t rfl ?_
  refine W.need (by decide) ?_
  refine W.ret (RetQ.all ⟨rfl, ?_⟩)
  show [Blk.var _] = [Blk.var [zC, dC u 10000, dC u 1000, dC u 100, dC u 10, dC u 1, zC, zC, zC, zC, zC, zC, zC, zC, zC, zC, zC, zC, zC, zC, zC, zC, zC, zC]]
  simp only [T0, T1, T2, T3, T4, Q0, Q1, T7, T8]
  refine congrArg (fun l => [Blk.var l]) (congrArg (List.cons zC) ?_)
  refine cons_eq (by
      have hv : u / 10000 % 10 = (u / 10000) := by omega
      unfold dC
      rw [hv]) ?_
  refine cons_eq (by
    have hq : (u % 10000 / 100) < 100 := by omega
    have hv : u / 1000 % 10 = (u % 10000 / 100) / 10 := by omega
    unfold dC
    rw [hv]
    refine congrArg (fun n : Nat => AV.d (.lit (.int .u8 (n : Int)))) ?_
    generalize (u % 10000 / 100) = q at hq ⊢
    clear hv
    revert q
    decide +kernel) ?_
  refine cons_eq (by
    have hq : (u % 10000 / 100) < 100 := by omega
    have hv : u / 100 % 10 = (u % 10000 / 100) % 10 := by omega
    unfold dC
    rw [hv]
    refine congrArg (fun n : Nat => AV.d (.lit (.int .u8 (n : Int)))) ?_
    generalize (u % 10000 / 100) = q at hq ⊢
    clear hv
    revert q
    decide +kernel) ?_
  refine cons_eq (by
    have hq : (u % 10000 % 100) < 100 := by omega
    have hv : u / 10 % 10 = (u % 10000 % 100) / 10 := by omega
    unfold dC
    rw [hv]
    refine congrArg (fun n : Nat => AV.d (.lit (.int .u8 (n : Int)))) ?_
    generalize (u % 10000 % 100) = q at hq ⊢
    clear hv
    revert q
    decide +kernel) ?_
  refine cons_eq (by
    have hq : (u % 10000 % 100) < 100 := by omega
    have hv : u / 1 % 10 = (u % 10000 % 100) % 10 := by omega
    unfold dC
    rw [hv]
    refine congrArg (fun n : Nat => AV.d (.lit (.int .u8 (n : Int)))) ?_
    generalize (u % 10000 % 100) = q at hq ⊢
    clear hv
    revert q
    decide +kernel) ?_
  rfl
set_option maxHeartbeats 8000000 in
theorem ok105_6 (u : Nat) (hu : u < 1000000) : CallOk Tryz.prog 105 [.win 0 1 6, .d (uI u)] [.var [zC, zC, zC, zC, zC, zC, zC, zC, zC, zC, zC, zC, zC, zC, zC, zC, zC, zC, zC, zC, zC, zC, zC, zC]] (fun v s => v = .tuple [] ∧ s = [.var [zC, dC u 100000, dC u 10000, dC u 1000, dC u 100, dC u 10, dC u 1, zC, zC, zC, zC, zC, zC, zC, zC, zC, zC, zC, zC, zC, zC, zC, zC, zC]]) := by
  refine CallOk.of tysOk mixed od105 Tryz.func105 rfl rfl code105 ?_
  refine W.loop (fun k fr σ => (k = 0 ∧ fr = [(0, .win 0 1 6), (1, .d (uI ((u : Nat) : Int))), (4, .d (nI 6))] ∧ σ = [.var [zC, zC, zC, zC, zC, zC, zC, zC, zC, zC, zC, zC, zC, zC, zC, zC, zC, zC, zC, zC, zC, zC, zC, zC]])) 0
    (Start.of [0, 1, 4] [] (by simp)) ⟨rfl, rfl, rfl⟩ ?_
  rintro k fr σ ⟨rfl, rfl, rfl⟩
  refine W.ite_f rfl ?_
  refine W.ret ?_
  have T0 : IntKind.u32.wrap ((u : Nat) : Int) = ((u : Nat) : Int) := w32 (u) (by omega)
  have T1 : IntKind.u32.wrap (Int.tdiv ((u : Nat) : Int) 10000) = ((u / 10000 : Nat) : Int) := w32 (u / 10000) (by omega)
  have T2 : IntKind.u32.wrap (Int.tdiv (Int.tmod ((u : Nat) : Int) 10000) 100) = ((u % 10000 / 100 : Nat) : Int) := w32 (u % 10000 / 100) (by omega)
  have T3 : IntKind.u32.wrap (((u % 10000 / 100 : Nat) : Int) * 2) = ((u % 10000 / 100 * 2 : Nat) : Int) := w32 (u % 10000 / 100 * 2) (by omega)
  have T4 : IntKind.u32.wrap (Int.tmod (Int.tmod ((u : Nat) : Int) 10000) 100 * 2) = ((u % 10000 % 100 * 2 : Nat) : Int) := w32 (u % 10000 % 100 * 2) (by omega)
  have Q0 : IntKind.u32.wrap (((u % 10000 % 100 * 2 : Nat) : Int) + 1) = ((u % 10000 % 100 * 2 + 1 : Nat) : Int) := w32 (u % 10000 % 100 * 2 + 1) (by omega)
  have Q1 : IntKind.u32.wrap (((u % 10000 / 100 * 2 : Nat) : Int) + 1) = ((u % 10000 / 100 * 2 + 1 : Nat) : Int) := w32 (u % 10000 / 100 * 2 + 1) (by omega)
  have T5 : IntKind.u32.wrap (Int.tmod (((u / 10000) : Nat) : Int) 100 * 2) = (((u / 10000) % 100 * 2 : Nat) : Int) := w32 ((u / 10000) % 100 * 2) (by omega)
  have T6 : IntKind.u32.wrap (Int.tdiv (((u / 10000) : Nat) : Int) 100) = (((u / 10000) / 100 : Nat) : Int) := w32 ((u / 10000) / 100) (by omega)
  have Q2 : IntKind.u32.wrap ((((u / 10000) % 100 * 2 : Nat) : Int) + 1) = (((u / 10000) % 100 * 2 + 1 : Nat) : Int) := w32 ((u / 10000) % 100 * 2 + 1) (by omega)
  refine W.ite_t rfl ?_
  iterate 4 refine W.need (by decide) ?_
  refine W.need (by simp only [T0, T1, T2, T3, T4, Q0, Q1, T5, T6, Q2]; exact rng _ (by omega)) ?_
  refine W.need (by simp only [T0, T1, T2, T3, T4, Q0, Q1, T5, T6, Q2]; exact rng _ (by omega)) ?_
  refine W.need (by decide) ?_
  refine W.need (by decide) ?_
  refine W.need (by simp only [T0, T1, T2, T3, T4, Q0, Q1, T5, T6, Q2]; exact rng _ (by omega)) ?_
  refine W.need (by simp only [T0, T1, T2, T3, T4, Q0, Q1, T5, T6, Q2]; exact rng _ (by omega)) ?_
  refine W.need (by decide) ?_
  refine W.need (by decide) ?_
  refine W.ite_t rfl ?_
  iterate 2 refine W.need (by decide) ?_
  refine W.need (by simp only [T0, T1, T2, T3, T4, Q0, Q1, T5, T6, Q2]; exact rng _ (by omega)) ?_
  refine W.need (by simp only [T0, T1, T2, T3, T4, Q0, Q1, T5, T6, Q2]; exact rng _ (by omega)) ?_
  refine W.need (by decide) ?_
  refine W.need (by decide) ?_
  refine W.ite_f rfl ?_
  refine W.ret (RetQ.all ⟨rfl, ?_⟩)
  show [Blk.var _] = [Blk.var [zC, dC u 100000, dC u 10000, dC u 1000, dC u 100, dC u 10, dC u 1, zC, zC, zC, zC, zC, zC, zC, zC, zC, zC, zC, zC, zC, zC, zC, zC, zC]]
  simp only [T0, T1, T2, T3, T4, Q0, Q1, T5, T6, Q2]
  refine congrArg (fun l => [Blk.var l]) (congrArg (List.cons zC) ?_)
  refine cons_eq (by
    have hq : ((u / 10000) % 100) < 100 := by omega
    have hv : u / 100000 % 10 = ((u / 10000) % 100) / 10 := by omega
    unfold dC
    rw [hv]
    refine congrArg (fun n : Nat => AV.d (.lit (.int .u8 (n : Int)))) ?_
    generalize ((u / 10000) % 100) = q at hq ⊢
    clear hv
    revert q
    decide +kernel) ?_
  refine cons_eq (by
    have hq : ((u / 10000) % 100) < 100 := by omega
    have hv : u / 10000 % 10 = ((u / 10000) % 100) % 10 := by omega
    unfold dC
    rw [hv]
    refine congrArg (fun n : Nat => AV.d (.lit (.int .u8 (n : Int)))) ?_
    generalize ((u / 10000) % 100) = q at hq ⊢
    clear hv
    revert q
    decide +kernel) ?_
  refine cons_eq (by
    have hq : (u % 10000 / 100) < 100 := by omega
    have hv : u / 1000 % 10 = (u % 10000 / 100) / 10 := by omega
    unfold dC
    rw [hv]
    refine congrArg (fun n : Nat => AV.d (.lit (.int .u8 (n : Int)))) ?_
    generalize (u % 10000 / 100) = q at hq ⊢
    clear hv
    revert q
    decide +kernel) ?_
  refine cons_eq (by
    have hq : (u % 10000 / 100) < 100 := by omega
    have hv : u / 100 % 10 = (u % 10000 / 100) % 10 := by omega
    unfold dC
    rw [hv]
    refine congrArg (fun n : Nat => AV.d (.lit (.int .u8 (n : Int)))) ?_
    generalize (u % 10000 / 100) = q at hq ⊢
    clear hv
    revert q
    decide +kernel) ?_
  refine cons_eq (by
    have hq : (u % 10000 % 100) < 100 := by omega
    have hv : u / 10 % 10 = (u % 10000 % 100) / 10 := by omega
    unfold dC
    rw [hv]
    refine congrArg (fun n : Nat => AV.d (.lit (.int .u8 (n : Int)))) ?_
    generalize (u % 10000 % 100) = q at hq ⊢
    clear hv
    revert q
    decide +kernel) ?_
  refine cons_eq (by
    have hq : (u % 10000 % 100) < 100 := by omega
    have hv : u / 1 % 10 = (u % 10000 % 100) % 10 := by omega
    unfold dC
    rw [hv]
    refine congrArg (fun n : Nat => AV.d (.lit (.int .u8 (n : Int)))) ?_
    generalize (u % 10000 % 100) = q at hq ⊢
    clear hv
    revert q
    decide +kernel) ?_
  rfl
set_option maxHeartbeats 8000000 in
theorem ok105_7 (u : Nat) (hu : u < 10000000) : CallOk Tryz.prog 105 [.win 0 1 7, .d (uI u)] [.var [zC, zC, zC, zC, zC, zC, zC, zC, zC, zC, zC, zC, zC, zC, zC, zC, zC, zC, zC, zC, zC, zC, zC, zC]] (fun v s => v = .tuple [] ∧ s = [.var [zC, dC u 1000000, dC u 100000, dC u 10000, dC u 1000, dC u 100, dC u 10, dC u 1, zC, zC, zC, zC, zC, zC, zC, zC, zC, zC, zC, zC, zC, zC, zC, zC]]) := by
  refine CallOk.of tysOk mixed od105 Tryz.func105 rfl rfl code105 ?_
  refine W.loop (fun k fr σ => (k = 0 ∧ fr = [(0, .win 0 1 7), (1, .d (uI ((u : Nat) : Int))), (4, .d (nI 7))] ∧ σ = [.var [zC, zC, zC, zC, zC, zC, zC, zC, zC, zC, zC, zC, zC, zC, zC, zC, zC, zC, zC, zC, zC, zC, zC, zC]])) 0
    (Start.of [0, 1, 4] [] (by simp)) ⟨rfl, rfl, rfl⟩ ?_
  rintro k fr σ ⟨rfl, rfl, rfl⟩
  refine W.ite_f rfl ?_
  refine W.ret ?_
  have T0 : IntKind.u32.wrap ((u : Nat) : Int) = ((u : Nat) : Int) := w32 (u) (by omega)
  have T1 : IntKind.u32.wrap (Int.tdiv ((u : Nat) : Int) 10000) = ((u / 10000 : Nat) : Int) := w32 (u / 10000) (by omega)
  have T2 : IntKind.u32.wrap (Int.tdiv (Int.tmod ((u : Nat) : Int) 10000) 100) = ((u % 10000 / 100 : Nat) : Int) := w32 (u % 10000 / 100) (by omega)
  have T3 : IntKind.u32.wrap (((u % 10000 / 100 : Nat) : Int) * 2) = ((u % 10000 / 100 * 2 : Nat) : Int) := w32 (u % 10000 / 100 * 2) (by omega)
  have T4 : IntKind.u32.wrap (Int.tmod (Int.tmod ((u : Nat) : Int) 10000) 100 * 2) = ((u % 10000 % 100 * 2 : Nat) : Int) := w32 (u % 10000 % 100 * 2) (by omega)
  have Q0 : IntKind.u32.wrap (((u % 10000 % 100 * 2 : Nat) : Int) + 1) = ((u % 10000 % 100 * 2 + 1 : Nat) : Int) := w32 (u % 10000 % 100 * 2 + 1) (by omega)
  have Q1 : IntKind.u32.wrap (((u % 10000 / 100 * 2 : Nat) : Int) + 1) = ((u % 10000 / 100 * 2 + 1 : Nat) : Int) := w32 (u % 10000 / 100 * 2 + 1) (by omega)
  have T5 : IntKind.u32.wrap (Int.tmod (((u / 10000) : Nat) : Int) 100 * 2) = (((u / 10000) % 100 * 2 : Nat) : Int) := w32 ((u / 10000) % 100 * 2) (by omega)
  have T6 : IntKind.u32.wrap (Int.tdiv (((u / 10000) : Nat) : Int) 100) = (((u / 10000) / 100 : Nat) : Int) := w32 ((u / 10000) / 100) (by omega)
  have Q2 : IntKind.u32.wrap ((((u / 10000) % 100 * 2 : Nat) : Int) + 1) = (((u / 10000) % 100 * 2 + 1 : Nat) : Int) := w32 ((u / 10000) % 100 * 2 + 1) (by omega)
  have T7 : IntKind.u32.wrap (48 + ((((u / 10000) / 100) : Nat) : Int)) = ((48 + ((u / 10000) / 100) : Nat) : Int) := w32 (48 + ((u / 10000) / 100)) (by omega)
  have T8 : IntKind.u8.wrap ((48 + ((u / 10000) / 100) : Nat) : Int) = ((48 + ((u / 10000) / 100) : Nat) : Int) := w8 _ (by omega)
  refine W.ite_t rfl ?_
  iterate 4 refine W.need (by decide) ?_
  refine W.need (by simp only [T0, T1, T2, T3, T4, Q0, Q1, T5, T6, Q2, T7, T8]; exact rng _ (by omega)) ?_
  refine W.need (by simp only [T0, T1, T2, T3, T4, Q0, Q1, T5, T6, Q2, T7, T8]; exact rng _ (by omega)) ?_
  refine W.need (by decide) ?_
  refine W.need (by decide) ?_
  refine W.need (by simp only [T0, T1, T2, T3, T4, Q0, Q1, T5, T6, Q2, T7, T8]; exact rng _ (by omega)) ?_
  refine W.need (by simp only [T0, T1, T2, T3, T4, Q0, Q1, T5, T6, Q2, T7, T8]; exact rng _ (by omega)) ?_
  refine W.need (by decide) ?_
  refine W.need (by decide) ?_
  refine W.ite_t rfl ?_
  iterate 2 refine W.need (by decide) ?_
  refine W.need (by simp only [T0, T1, T2, T3, T4, Q0, Q1, T5, T6, Q2, T7, T8]; exact rng _ (by omega)) ?_
  refine W.need (by simp only [T0, T1, T2, T3, T4, Q0, Q1, T5, T6, Q2, T7, T8]; exact rng _ (by omega)) ?_
  refine W.need (by decide) ?_
  refine W.need (by decide) ?_
  refine W.ite_t rfl ?_
  refine W.need (by decide) ?_
  refine W.ret (RetQ.all ⟨rfl, ?_⟩)
  show [Blk.var _] = [Blk.var [zC, dC u 1000000, dC u 100000, dC u 10000, dC u 1000, dC u 100, dC u 10, dC u 1, zC, zC, zC, zC, zC, zC, zC, zC, zC, zC, zC, zC, zC, zC, zC, zC]]
  simp only [T0, T1, T2, T3, T4, Q0, Q1, T5, T6, Q2, T7, T8]
  refine congrArg (fun l => [Blk.var l]) (congrArg (List.cons zC) ?_)
  refine cons_eq (by
      have hv : u / 1000000 % 10 = ((u / 10000) / 100) := by omega
      unfold dC
      rw [hv]) ?_
  refine cons_eq (by
    have hq : ((u / 10000) % 100) < 100 := by omega
    have hv : u / 100000 % 10 = ((u / 10000) % 100) / 10 := by omega
    unfold dC
    rw [hv]
    refine congrArg (fun n : Nat => AV.d (.lit (.int .u8 (n : Int)))) ?_
    generalize ((u / 10000) % 100) = q at hq ⊢
    clear hv
    revert q
    decide +kernel) ?_
  refine cons_eq (by
    have hq : ((u / 10000) % 100) < 100 := by omega
    have hv : u / 10000 % 10 = ((u / 10000) % 100) % 10 := by omega
    unfold dC
    rw [hv]
    refine congrArg (fun n : Nat => AV.d (.lit (.int .u8 (n : Int)))) ?_
    generalize ((u / 10000) % 100) = q at hq ⊢
    clear hv
    revert q
    decide +kernel) ?_
  refine cons_eq (by
    have hq : (u % 10000 / 100) < 100 := by omega
    have hv : u / 1000 % 10 = (u % 10000 / 100) / 10 := by omega
    unfold dC
    rw [hv]
    refine congrArg (fun n : Nat => AV.d (.lit (.int .u8 (n : Int)))) ?_
    generalize (u % 10000 / 100) = q at hq ⊢
    clear hv
    revert q
    decide +kernel) ?_
  refine cons_eq (by
    have hq : (u % 10000 / 100) < 100 := by omega
    have hv : u / 100 % 10 = (u % 10000 / 100) % 10 := by omega
    unfold dC
    rw [hv]
    refine congrArg (fun n : Nat => AV.d (.lit (.int .u8 (n : Int)))) ?_
    generalize (u % 10000 / 100) = q at hq ⊢
    clear hv
    revert q
    decide +kernel) ?_
  refine cons_eq (by
    have hq : (u % 10000 % 100) < 100 := by omega
    have hv : u / 10 % 10 = (u % 10000 % 100) / 10 := by omega
    unfold dC
    rw [hv]
    refine congrArg (fun n : Nat => AV.d (.lit (.int .u8 (n : Int)))) ?_
    generalize (u % 10000 % 100) = q at hq ⊢
    clear hv
    revert q
    decide +kernel) ?_
  refine cons_eq (by
    have hq : (u % 10000 % 100) < 100 := by omega
    have hv : u / 1 % 10 = (u % 10000 % 100) % 10 := by omega
    unfold dC
    rw [hv]
    refine congrArg (fun n : Nat => AV.d (.lit (.int .u8 (n : Int)))) ?_
    generalize (u % 10000 % 100) = q at hq ⊢
    clear hv
    revert q
    decide +kernel) ?_
  rfl
set_option maxHeartbeats 8000000 in
theorem ok105_8 (u : Nat) (hu : u < 100000000) : CallOk Tryz.prog 105 [.win 0 1 8, .d (uI u)] [.var [zC, zC, zC, zC, zC, zC, zC, zC, zC, zC, zC, zC, zC, zC, zC, zC, zC, zC, zC, zC, zC, zC, zC, zC]] (fun v s => v = .tuple [] ∧ s = [.var [zC, dC u 10000000, dC u 1000000, dC u 100000, dC u 10000, dC u 1000, dC u 100, dC u 10, dC u 1, zC, zC, zC, zC, zC, zC, zC, zC, zC, zC, zC, zC, zC, zC, zC]]) := by
  refine CallOk.of tysOk mixed od105 Tryz.func105 rfl rfl code105 ?_
  refine W.loop (fun k fr σ => (k = 1 ∧ fr = [(0, .win 0 1 8), (1, .d (uI ((u : Nat) : Int))), (4, .d (nI 8))] ∧ σ = [.var [zC, zC, zC, zC, zC, zC, zC, zC, zC, zC, zC, zC, zC, zC, zC, zC, zC, zC, zC, zC, zC, zC, zC, zC]]) ∨ (k = 0 ∧ fr = [(0, .win 0 1 8), (1, .d (uI ((u / 100000000 : Nat) : Int))), (4, .d (nI 0))] ∧ σ = [.var [zC, dC u 10000000, dC u 1000000, dC u 100000, dC u 10000, dC u 1000, dC u 100, dC u 10, dC u 1, zC, zC, zC, zC, zC, zC, zC, zC, zC, zC, zC, zC, zC, zC, zC]])) 1
    (Start.of [0, 1, 4] [] (by simp)) (.inl ⟨rfl, rfl, rfl⟩) ?_
  rintro k fr σ (⟨rfl, rfl, rfl⟩ | ⟨rfl, rfl, rfl⟩)
  · refine W.ite_t rfl ?_
    have E0 : IntKind.u32.wrap (Int.tmod ((u : Nat) : Int) 100000000) = ((u % 100000000 : Nat) : Int) := w32 (u % 100000000) (by omega)
    have E1 : IntKind.u32.wrap (Int.tdiv (((u % 100000000) : Nat) : Int) 10000) = (((u % 100000000) / 10000 : Nat) : Int) := w32 ((u % 100000000) / 10000) (by omega)
    have E2 : IntKind.u32.wrap (Int.tdiv (Int.tmod (((u % 100000000) : Nat) : Int) 10000) 100) = (((u % 100000000) % 10000 / 100 : Nat) : Int) := w32 ((u % 100000000) % 10000 / 100) (by omega)
    have E3 : IntKind.u32.wrap ((((u % 100000000) % 10000 / 100 : Nat) : Int) * 2) = (((u % 100000000) % 10000 / 100 * 2 : Nat) : Int) := w32 ((u % 100000000) % 10000 / 100 * 2) (by omega)
    have E4 : IntKind.u32.wrap (Int.tmod (Int.tmod (((u % 100000000) : Nat) : Int) 10000) 100 * 2) = (((u % 100000000) % 10000 % 100 * 2 : Nat) : Int) := w32 ((u % 100000000) % 10000 % 100 * 2) (by omega)
    have E5 : IntKind.u32.wrap (Int.tdiv (((u % 100000000) / 10000 : Nat) : Int) 100) = (((u % 100000000) / 10000 / 100 : Nat) : Int) := w32 ((u % 100000000) / 10000 / 100) (by omega)
    have E6 : IntKind.u32.wrap ((((u % 100000000) / 10000 / 100 : Nat) : Int) * 2) = (((u % 100000000) / 10000 / 100 * 2 : Nat) : Int) := w32 ((u % 100000000) / 10000 / 100 * 2) (by omega)
    have E7 : IntKind.u32.wrap (Int.tmod (((u % 100000000) / 10000 : Nat) : Int) 100 * 2) = (((u % 100000000) / 10000 % 100 * 2 : Nat) : Int) := w32 ((u % 100000000) / 10000 % 100 * 2) (by omega)
    have P0 : IntKind.u32.wrap ((((u % 100000000) % 10000 % 100 * 2 : Nat) : Int) + 1) = (((u % 100000000) % 10000 % 100 * 2 + 1 : Nat) : Int) := w32 ((u % 100000000) % 10000 % 100 * 2 + 1) (by omega)
    have P1 : IntKind.u32.wrap ((((u % 100000000) % 10000 / 100 * 2 : Nat) : Int) + 1) = (((u % 100000000) % 10000 / 100 * 2 + 1 : Nat) : Int) := w32 ((u % 100000000) % 10000 / 100 * 2 + 1) (by omega)
    have P2 : IntKind.u32.wrap ((((u % 100000000) / 10000 % 100 * 2 : Nat) : Int) + 1) = (((u % 100000000) / 10000 % 100 * 2 + 1 : Nat) : Int) := w32 ((u % 100000000) / 10000 % 100 * 2 + 1) (by omega)
    have P3 : IntKind.u32.wrap ((((u % 100000000) / 10000 / 100 * 2 : Nat) : Int) + 1) = (((u % 100000000) / 10000 / 100 * 2 + 1 : Nat) : Int) := w32 ((u % 100000000) / 10000 / 100 * 2 + 1) (by omega)
    have F0 : IntKind.u64.wrap (Int.tdiv ((u : Nat) : Int) 100000000) = ((u / 100000000 : Nat) : Int) := (w64u (u / 100000000) (by omega)).trans (by omega)
    iterate 8 refine W.need (by decide) ?_
    refine W.need (by simp only [E0, E1, E2, E3, E4, E5, E6, E7, P0, P1, P2, P3]; exact rng _ (by omega)) ?_
    refine W.need (by simp only [E0, E1, E2, E3, E4, E5, E6, E7, P0, P1, P2, P3]; exact rng _ (by omega)) ?_
    refine W.need (by decide) ?_
    refine W.need (by decide) ?_
    refine W.need (by simp only [E0, E1, E2, E3, E4, E5, E6, E7, P0, P1, P2, P3]; exact rng _ (by omega)) ?_
    refine W.need (by simp only [E0, E1, E2, E3, E4, E5, E6, E7, P0, P1, P2, P3]; exact rng _ (by omega)) ?_
    refine W.need (by decide) ?_
    refine W.need (by decide) ?_
    refine W.need (by simp only [E0, E1, E2, E3, E4, E5, E6, E7, P0, P1, P2, P3]; exact rng _ (by omega)) ?_
    refine W.need (by simp only [E0, E1, E2, E3, E4, E5, E6, E7, P0, P1, P2, P3]; exact rng _ (by omega)) ?_
    refine W.need (by decide) ?_
    refine W.need (by decide) ?_
    refine W.need (by simp only [E0, E1, E2, E3, E4, E5, E6, E7, P0, P1, P2, P3]; exact rng _ (by omega)) ?_
    refine W.need (by simp only [E0, E1, E2, E3, E4, E5, E6, E7, P0, P1, P2, P3]; exact rng _ (by omega)) ?_
    refine W.need (by decide) ?_
    refine W.need (by decide) ?_
    refine W.ret ⟨_, _, _, ?_, Trim.of [0, 1, 4] [0] (by decide) (by simp) kp1, .inr (⟨rfl, ?_, ?_⟩)⟩
    · decide
    · rw [← F0]; rfl
    · show [Blk.var _] = [Blk.var [zC, dC u 10000000, dC u 1000000, dC u 100000, dC u 10000, dC u 1000, dC u 100, dC u 10, dC u 1, zC, zC, zC, zC, zC, zC, zC, zC, zC, zC, zC, zC, zC, zC, zC]]
      simp only [E0, E1, E2, E3, E4, E5, E6, E7, P0, P1, P2, P3]
      refine congrArg (fun l => [Blk.var l]) (congrArg (List.cons zC) ?_)
      refine cons_eq (by
    have hq : ((u % 100000000) / 10000 / 100) < 100 := by omega
    have hv : u / 10000000 % 10 = ((u % 100000000) / 10000 / 100) / 10 := by omega
    unfold dC
    rw [hv]
    refine congrArg (fun n : Nat => AV.d (.lit (.int .u8 (n : Int)))) ?_
    generalize ((u % 100000000) / 10000 / 100) = q at hq ⊢
    clear hv
    revert q
    decide +kernel) ?_
      refine cons_eq (by
    have hq : ((u % 100000000) / 10000 / 100) < 100 := by omega
    have hv : u / 1000000 % 10 = ((u % 100000000) / 10000 / 100) % 10 := by omega
    unfold dC
    rw [hv]
    refine congrArg (fun n : Nat => AV.d (.lit (.int .u8 (n : Int)))) ?_
    generalize ((u % 100000000) / 10000 / 100) = q at hq ⊢
    clear hv
    revert q
    decide +kernel) ?_
      refine cons_eq (by
    have hq : ((u % 100000000) / 10000 % 100) < 100 := by omega
    have hv : u / 100000 % 10 = ((u % 100000000) / 10000 % 100) / 10 := by omega
    unfold dC
    rw [hv]
    refine congrArg (fun n : Nat => AV.d (.lit (.int .u8 (n : Int)))) ?_
    generalize ((u % 100000000) / 10000 % 100) = q at hq ⊢
    clear hv
    revert q
    decide +kernel) ?_
      refine cons_eq (by
    have hq : ((u % 100000000) / 10000 % 100) < 100 := by omega
    have hv : u / 10000 % 10 = ((u % 100000000) / 10000 % 100) % 10 := by omega
    unfold dC
    rw [hv]
    refine congrArg (fun n : Nat => AV.d (.lit (.int .u8 (n : Int)))) ?_
    generalize ((u % 100000000) / 10000 % 100) = q at hq ⊢
    clear hv
    revert q
    decide +kernel) ?_
      refine cons_eq (by
    have hq : ((u % 100000000) % 10000 / 100) < 100 := by omega
    have hv : u / 1000 % 10 = ((u % 100000000) % 10000 / 100) / 10 := by omega
    unfold dC
    rw [hv]
    refine congrArg (fun n : Nat => AV.d (.lit (.int .u8 (n : Int)))) ?_
    generalize ((u % 100000000) % 10000 / 100) = q at hq ⊢
    clear hv
    revert q
    decide +kernel) ?_
      refine cons_eq (by
    have hq : ((u % 100000000) % 10000 / 100) < 100 := by omega
    have hv : u / 100 % 10 = ((u % 100000000) % 10000 / 100) % 10 := by omega
    unfold dC
    rw [hv]
    refine congrArg (fun n : Nat => AV.d (.lit (.int .u8 (n : Int)))) ?_
    generalize ((u % 100000000) % 10000 / 100) = q at hq ⊢
    clear hv
    revert q
    decide +kernel) ?_
      refine cons_eq (by
    have hq : ((u % 100000000) % 10000 % 100) < 100 := by omega
    have hv : u / 10 % 10 = ((u % 100000000) % 10000 % 100) / 10 := by omega
    unfold dC
    rw [hv]
    refine congrArg (fun n : Nat => AV.d (.lit (.int .u8 (n : Int)))) ?_
    generalize ((u % 100000000) % 10000 % 100) = q at hq ⊢
    clear hv
    revert q
    decide +kernel) ?_
      refine cons_eq (by
    have hq : ((u % 100000000) % 10000 % 100) < 100 := by omega
    have hv : u / 1 % 10 = ((u % 100000000) % 10000 % 100) % 10 := by omega
    unfold dC
    rw [hv]
    refine congrArg (fun n : Nat => AV.d (.lit (.int .u8 (n : Int)))) ?_
    generalize ((u % 100000000) % 10000 % 100) = q at hq ⊢
    clear hv
    revert q
    decide +kernel) ?_
      rfl
  · refine W.ite_f rfl ?_
    refine W.ret ?_
    have T0 : IntKind.u32.wrap (((u / 100000000) : Nat) : Int) = (((u / 100000000) : Nat) : Int) := w32 ((u / 100000000)) (by omega)
    refine W.ite_f rfl ?_
    refine W.ite_f rfl ?_
    refine W.ite_f rfl ?_
    refine W.ret (RetQ.all ⟨rfl, ?_⟩)
    rfl
set_option maxHeartbeats 8000000 in
theorem ok105_9 (u : Nat) (hu : u < 1000000000) : CallOk Tryz.prog 105 [.win 0 1 9, .d (uI u)] [.var [zC, zC, zC, zC, zC, zC, zC, zC, zC, zC, zC, zC, zC, zC, zC, zC, zC, zC, zC, zC, zC, zC, zC, zC]] (fun v s => v = .tuple [] ∧ s = [.var [zC, dC u 100000000, dC u 10000000, dC u 1000000, dC u 100000, dC u 10000, dC u 1000, dC u 100, dC u 10, dC u 1, zC, zC, zC, zC, zC, zC, zC, zC, zC, zC, zC, zC, zC, zC]]) := by
  refine CallOk.of tysOk mixed od105 Tryz.func105 rfl rfl code105 ?_
  refine W.loop (fun k fr σ => (k = 1 ∧ fr = [(0, .win 0 1 9), (1, .d (uI ((u : Nat) : Int))), (4, .d (nI 9))] ∧ σ = [.var [zC, zC, zC, zC, zC, zC, zC, zC, zC, zC, zC, zC, zC, zC, zC, zC, zC, zC, zC, zC, zC, zC, zC, zC]]) ∨ (k = 0 ∧ fr = [(0, .win 0 1 9), (1, .d (uI ((u / 100000000 : Nat) : Int))), (4, .d (nI 1))] ∧ σ = [.var [zC, zC, dC u 10000000, dC u 1000000, dC u 100000, dC u 10000, dC u 1000, dC u 100, dC u 10, dC u 1, zC, zC, zC, zC, zC, zC, zC, zC, zC, zC, zC, zC, zC, zC]])) 1
    (Start.of [0, 1, 4] [] (by simp)) (.inl ⟨rfl, rfl, rfl⟩) ?_
  rintro k fr σ (⟨rfl, rfl, rfl⟩ | ⟨rfl, rfl, rfl⟩)
  · refine W.ite_t rfl ?_
    have E0 : IntKind.u32.wrap (Int.tmod ((u : Nat) : Int) 100000000) = ((u % 100000000 : Nat) : Int) := w32 (u % 100000000) (by omega)
    have E1 : IntKind.u32.wrap (Int.tdiv (((u % 100000000) : Nat) : Int) 10000) = (((u % 100000000) / 10000 : Nat) : Int) := w32 ((u % 100000000) / 10000) (by omega)
    have E2 : IntKind.u32.wrap (Int.tdiv (Int.tmod (((u % 100000000) : Nat) : Int) 10000) 100) = (((u % 100000000) % 10000 / 100 : Nat) : Int) := w32 ((u % 100000000) % 10000 / 100) (by omega)
    have E3 : IntKind.u32.wrap ((((u % 100000000) % 10000 / 100 : Nat) : Int) * 2) = (((u % 100000000) % 10000 / 100 * 2 : Nat) : Int) := w32 ((u % 100000000) % 10000 / 100 * 2) (by omega)
    have E4 : IntKind.u32.wrap (Int.tmod (Int.tmod (((u % 100000000) : Nat) : Int) 10000) 100 * 2) = (((u % 100000000) % 10000 % 100 * 2 : Nat) : Int) := w32 ((u % 100000000) % 10000 % 100 * 2) (by omega)
    have E5 : IntKind.u32.wrap (Int.tdiv (((u % 100000000) / 10000 : Nat) : Int) 100) = (((u % 100000000) / 10000 / 100 : Nat) : Int) := w32 ((u % 100000000) / 10000 / 100) (by omega)
    have E6 : IntKind.u32.wrap ((((u % 100000000) / 10000 / 100 : Nat) : Int) * 2) = (((u % 100000000) / 10000 / 100 * 2 : Nat) : Int) := w32 ((u % 100000000) / 10000 / 100 * 2) (by omega)
    have E7 : IntKind.u32.wrap (Int.tmod (((u % 100000000) / 10000 : Nat) : Int) 100 * 2) = (((u % 100000000) / 10000 % 100 * 2 : Nat) : Int) := w32 ((u % 100000000) / 10000 % 100 * 2) (by omega)
    have P0 : IntKind.u32.wrap ((((u % 100000000) % 10000 % 100 * 2 : Nat) : Int) + 1) = (((u % 100000000) % 10000 % 100 * 2 + 1 : Nat) : Int) := w32 ((u % 100000000) % 10000 % 100 * 2 + 1) (by omega)
    have P1 : IntKind.u32.wrap ((((u % 100000000) % 10000 / 100 * 2 : Nat) : Int) + 1) = (((u % 100000000) % 10000 / 100 * 2 + 1 : Nat) : Int) := w32 ((u % 100000000) % 10000 / 100 * 2 + 1) (by omega)
    have P2 : IntKind.u32.wrap ((((u % 100000000) / 10000 % 100 * 2 : Nat) : Int) + 1) = (((u % 100000000) / 10000 % 100 * 2 + 1 : Nat) : Int) := w32 ((u % 100000000) / 10000 % 100 * 2 + 1) (by omega)
    have P3 : IntKind.u32.wrap ((((u % 100000000) / 10000 / 100 * 2 : Nat) : Int) + 1) = (((u % 100000000) / 10000 / 100 * 2 + 1 : Nat) : Int) := w32 ((u % 100000000) / 10000 / 100 * 2 + 1) (by omega)
    have F0 : IntKind.u64.wrap (Int.tdiv ((u : Nat) : Int) 100000000) = ((u / 100000000 : Nat) : Int) := (w64u (u / 100000000) (by omega)).trans (by omega)
    iterate 8 refine W.need (by decide) ?_
    refine W.need (by simp only [E0, E1, E2, E3, E4, E5, E6, E7, P0, P1, P2, P3]; exact rng _ (by omega)) ?_
    refine W.need (by simp only [E0, E1, E2, E3, E4, E5, E6, E7, P0, P1, P2, P3]; exact rng _ (by omega)) ?_
    refine W.need (by decide) ?_
    refine W.need (by decide) ?_
    refine W.need (by simp only [E0, E1, E2, E3, E4, E5, E6, E7, P0, P1, P2, P3]; exact rng _ (by omega)) ?_
    refine W.need (by simp only [E0, E1, E2, E3, E4, E5, E6, E7, P0, P1, P2, P3]; exact rng _ (by omega)) ?_
    refine W.need (by decide) ?_
    refine W.need (by decide) ?_
    refine W.need (by simp only [E0, E1, E2, E3, E4, E5, E6, E7, P0, P1, P2, P3]; exact rng _ (by omega)) ?_
    refine W.need (by simp only [E0, E1, E2, E3, E4, E5, E6, E7, P0, P1, P2, P3]; exact rng _ (by omega)) ?_
    refine W.need (by decide) ?_
    refine W.need (by decide) ?_
    refine W.need (by simp only [E0, E1, E2, E3, E4, E5, E6, E7, P0, P1, P2, P3]; exact rng _ (by omega)) ?_
    refine W.need (by simp only [E0, E1, E2, E3, E4, E5, E6, E7, P0, P1, P2, P3]; exact rng _ (by omega)) ?_
    refine W.need (by decide) ?_
    refine W.need (by decide) ?_
    refine W.ret ⟨_, _, _, ?_, Trim.of [0, 1, 4] [0] (by decide) (by simp) kp1, .inr (⟨rfl, ?_, ?_⟩)⟩
    · decide
    · rw [← F0]; rfl
    · show [Blk.var _] = [Blk.var [zC, zC, dC u 10000000, dC u 1000000, dC u 100000, dC u 10000, dC u 1000, dC u 100, dC u 10, dC u 1, zC, zC, zC, zC, zC, zC, zC, zC, zC, zC, zC, zC, zC, zC]]
      simp only [E0, E1, E2, E3, E4, E5, E6, E7, P0, P1, P2, P3]
      refine congrArg (fun l => [Blk.var l]) (congrArg (List.cons zC) ?_)
      refine congrArg (List.cons zC) ?_
      refine cons_eq (by
    have hq : ((u % 100000000) / 10000 / 100) < 100 := by omega
    have hv : u / 10000000 % 10 = ((u % 100000000) / 10000 / 100) / 10 := by omega
    unfold dC
    rw [hv]
    refine congrArg (fun n : Nat => AV.d (.lit (.int .u8 (n : Int)))) ?_
    generalize ((u % 100000000) / 10000 / 100) = q at hq ⊢
    clear hv
    revert q
    decide +kernel) ?_
      refine cons_eq (by
    have hq : ((u % 100000000) / 10000 / 100) < 100 := by omega
    have hv : u / 1000000 % 10 = ((u % 100000000) / 10000 / 100) % 10 := by omega
    unfold dC
    rw [hv]
    refine congrArg (fun n : Nat => AV.d (.lit (.int .u8 (n : Int)))) ?_
    generalize ((u % 100000000) / 10000 / 100) = q at hq ⊢
    clear hv
    revert q
    decide +kernel) ?_
      refine cons_eq (by
    have hq : ((u % 100000000) / 10000 % 100) < 100 := by omega
    have hv : u / 100000 % 10 = ((u % 100000000) / 10000 % 100) / 10 := by omega
    unfold dC
    rw [hv]
    refine congrArg (fun n : Nat => AV.d (.lit (.int .u8 (n : Int)))) ?_
    generalize ((u % 100000000) / 10000 % 100) = q at hq ⊢
    clear hv
    revert q
    decide +kernel) ?_
      refine cons_eq (by
    have hq : ((u % 100000000) / 10000 % 100) < 100 := by omega
    have hv : u / 10000 % 10 = ((u % 100000000) / 10000 % 100) % 10 := by omega
    unfold dC
    rw [hv]
    refine congrArg (fun n : Nat => AV.d (.lit (.int .u8 (n : Int)))) ?_
    generalize ((u % 100000000) / 10000 % 100) = q at hq ⊢
    clear hv
    revert q
    decide +kernel) ?_
      refine cons_eq (by
    have hq : ((u % 100000000) % 10000 / 100) < 100 := by omega
    have hv : u / 1000 % 10 = ((u % 100000000) % 10000 / 100) / 10 := by omega
    unfold dC
    rw [hv]
    refine congrArg (fun n : Nat => AV.d (.lit (.int .u8 (n : Int)))) ?_
    generalize ((u % 100000000) % 10000 / 100) = q at hq ⊢
    clear hv
    revert q
    decide +kernel) ?_
      refine cons_eq (by
    have hq : ((u % 100000000) % 10000 / 100) < 100 := by omega
    have hv : u / 100 % 10 = ((u % 100000000) % 10000 / 100) % 10 := by omega
    unfold dC
    rw [hv]
    refine congrArg (fun n : Nat => AV.d (.lit (.int .u8 (n : Int)))) ?_
    generalize ((u % 100000000) % 10000 / 100) = q at hq ⊢
    clear hv
    revert q
    decide +kernel) ?_
      refine cons_eq (by
    have hq : ((u % 100000000) % 10000 % 100) < 100 := by omega
    have hv : u / 10 % 10 = ((u % 100000000) % 10000 % 100) / 10 := by omega
    unfold dC
    rw [hv]
    refine congrArg (fun n : Nat => AV.d (.lit (.int .u8 (n : Int)))) ?_
    generalize ((u % 100000000) % 10000 % 100) = q at hq ⊢
    clear hv
    revert q
    decide +kernel) ?_
      refine cons_eq (by
    have hq : ((u % 100000000) % 10000 % 100) < 100 := by omega
    have hv : u / 1 % 10 = ((u % 100000000) % 10000 % 100) % 10 := by omega
    unfold dC
    rw [hv]
    refine congrArg (fun n : Nat => AV.d (.lit (.int .u8 (n : Int)))) ?_
    generalize ((u % 100000000) % 10000 % 100) = q at hq ⊢
    clear hv
    revert q
    decide +kernel) ?_
      rfl
  · refine W.ite_f rfl ?_
    refine W.ret ?_
    have T0 : IntKind.u32.wrap (((u / 100000000) : Nat) : Int) = (((u / 100000000) : Nat) : Int) := w32 ((u / 100000000)) (by omega)
    have T7 : IntKind.u32.wrap (48 + (((u / 100000000) : Nat) : Int)) = ((48 + (u / 100000000) : Nat) : Int) := w32 (48 + (u / 100000000)) (by omega)
    have T8 : IntKind.u8.wrap ((48 + (u / 100000000) : Nat) : Int) = ((48 + (u / 100000000) : Nat) : Int) := w8 _ (by omega)
    refine W.ite_f rfl ?_
    refine W.ite_f rfl ?_
    refine W.ite_t rfl ?_
    refine W.need (by decide) ?_
    refine W.ret (RetQ.all ⟨rfl, ?_⟩)
    show [Blk.var _] = [Blk.var [zC, dC u 100000000, dC u 10000000, dC u 1000000, dC u 100000, dC u 10000, dC u 1000, dC u 100, dC u 10, dC u 1, zC, zC, zC, zC, zC, zC, zC, zC, zC, zC, zC, zC, zC, zC]]
    simp only [T0, T7, T8]
    refine congrArg (fun l => [Blk.var l]) (congrArg (List.cons zC) ?_)
    refine cons_eq (by
        have hv : u / 100000000 % 10 = (u / 100000000) := by omega
        unfold dC
        rw [hv]) ?_
    rfl
set_option maxHeartbeats 8000000 in
theorem ok105_10 (u : Nat) (hu : u < 10000000000) : CallOk Tryz.prog 105 [.win 0 1 10, .d (uI u)] [.var [zC, zC, zC, zC, zC, zC, zC, zC, zC, zC, zC, zC, zC, zC, zC, zC, zC, zC, zC, zC, zC, zC, zC, zC]] (fun v s => v = .tuple [] ∧ s = [.var [zC, dC u 1000000000, dC u 100000000, dC u 10000000, dC u 1000000, dC u 100000, dC u 10000, dC u 1000, dC u 100, dC u 10, dC u 1, zC, zC, zC, zC, zC, zC, zC, zC, zC, zC, zC, zC, zC]]) := by
  refine CallOk.of tysOk mixed od105 Tryz.func105 rfl rfl code105 ?_
  refine W.loop (fun k fr σ => (k = 1 ∧ fr = [(0, .win 0 1 10), (1, .d (uI ((u : Nat) : Int))), (4, .d (nI 10))] ∧ σ = [.var [zC, zC, zC, zC, zC, zC, zC, zC, zC, zC, zC, zC, zC, zC, zC, zC, zC, zC, zC, zC, zC, zC, zC, zC]]) ∨ (k = 0 ∧ fr = [(0, .win 0 1 10), (1, .d (uI ((u / 100000000 : Nat) : Int))), (4, .d (nI 2))] ∧ σ = [.var [zC, zC, zC, dC u 10000000, dC u 1000000, dC u 100000, dC u 10000, dC u 1000, dC u 100, dC u 10, dC u 1, zC, zC, zC, zC, zC, zC, zC, zC, zC, zC, zC, zC, zC]])) 1
    (Start.of [0, 1, 4] [] (by simp)) (.inl ⟨rfl, rfl, rfl⟩) ?_
  rintro k fr σ (⟨rfl, rfl, rfl⟩ | ⟨rfl, rfl, rfl⟩)
  · refine W.ite_t rfl ?_
    have E0 : IntKind.u32.wrap (Int.tmod ((u : Nat) : Int) 100000000) = ((u % 100000000 : Nat) : Int) := w32 (u % 100000000) (by omega)
    have E1 : IntKind.u32.wrap (Int.tdiv (((u % 100000000) : Nat) : Int) 10000) = (((u % 100000000) / 10000 : Nat) : Int) := w32 ((u % 100000000) / 10000) (by omega)
    have E2 : IntKind.u32.wrap (Int.tdiv (Int.tmod (((u % 100000000) : Nat) : Int) 10000) 100) = (((u % 100000000) % 10000 / 100 : Nat) : Int) := w32 ((u % 100000000) % 10000 / 100) (by omega)
    have E3 : IntKind.u32.wrap ((((u % 100000000) % 10000 / 100 : Nat) : Int) * 2) = (((u % 100000000) % 10000 / 100 * 2 : Nat) : Int) := w32 ((u % 100000000) % 10000 / 100 * 2) (by omega)
    have E4 : IntKind.u32.wrap (Int.tmod (Int.tmod (((u % 100000000) : Nat) : Int) 10000) 100 * 2) = (((u % 100000000) % 10000 % 100 * 2 : Nat) : Int) := w32 ((u % 100000000) % 10000 % 100 * 2) (by omega)
    have E5 : IntKind.u32.wrap (Int.tdiv (((u % 100000000) / 10000 : Nat) : Int) 100) = (((u % 100000000) / 10000 / 100 : Nat) : Int) := w32 ((u % 100000000) / 10000 / 100) (by omega)
    have E6 : IntKind.u32.wrap ((((u % 100000000) / 10000 / 100 : Nat) : Int) * 2) = (((u % 100000000) / 10000 / 100 * 2 : Nat) : Int) := w32 ((u % 100000000) / 10000 / 100 * 2) (by omega)
    have E7 : IntKind.u32.wrap (Int.tmod (((u % 100000000) / 10000 : Nat) : Int) 100 * 2) = (((u % 100000000) / 10000 % 100 * 2 : Nat) : Int) := w32 ((u % 100000000) / 10000 % 100 * 2) (by omega)
    have P0 : IntKind.u32.wrap ((((u % 100000000) % 10000 % 100 * 2 : Nat) : Int) + 1) = (((u % 100000000) % 10000 % 100 * 2 + 1 : Nat) : Int) := w32 ((u % 100000000) % 10000 % 100 * 2 + 1) (by omega)
    have P1 : IntKind.u32.wrap ((((u % 100000000) % 10000 / 100 * 2 : Nat) : Int) + 1) = (((u % 100000000) % 10000 / 100 * 2 + 1 : Nat) : Int) := w32 ((u % 100000000) % 10000 / 100 * 2 + 1) (by omega)
    have P2 : IntKind.u32.wrap ((((u % 100000000) / 10000 % 100 * 2 : Nat) : Int) + 1) = (((u % 100000000) / 10000 % 100 * 2 + 1 : Nat) : Int) := w32 ((u % 100000000) / 10000 % 100 * 2 + 1) (by omega)
    have P3 : IntKind.u32.wrap ((((u % 100000000) / 10000 / 100 * 2 : Nat) : Int) + 1) = (((u % 100000000) / 10000 / 100 * 2 + 1 : Nat) : Int) := w32 ((u % 100000000) / 10000 / 100 * 2 + 1) (by omega)
    have F0 : IntKind.u64.wrap (Int.tdiv ((u : Nat) : Int) 100000000) = ((u / 100000000 : Nat) : Int) := (w64u (u / 100000000) (by omega)).trans (by omega)
    iterate 8 refine W.need (by decide) ?_
    refine W.need (by simp only [E0, E1, E2, E3, E4, E5, E6, E7, P0, P1, P2, P3]; exact rng _ (by omega)) ?_
    refine W.need (by simp only [E0, E1, E2, E3, E4, E5, E6, E7, P0, P1, P2, P3]; exact rng _ (by omega)) ?_
    refine W.need (by decide) ?_
    refine W.need (by decide) ?_
    refine W.need (by simp only [E0, E1, E2, E3, E4, E5, E6, E7, P0, P1, P2, P3]; exact rng _ (by omega)) ?_
    refine W.need (by simp only [E0, E1, E2, E3, E4, E5, E6, E7, P0, P1, P2, P3]; exact rng _ (by omega)) ?_
    refine W.need (by decide) ?_
    refine W.need (by decide) ?_
    refine W.need (by simp only [E0, E1, E2, E3, E4, E5, E6, E7, P0, P1, P2, P3]; exact rng _ (by omega)) ?_
    refine W.need (by simp only [E0, E1, E2, E3, E4, E5, E6, E7, P0, P1, P2, P3]; exact rng _ (by omega)) ?_
    refine W.need (by decide) ?_
    refine W.need (by decide) ?_
    refine W.need (by simp only [E0, E1, E2, E3, E4, E5, E6, E7, P0, P1, P2, P3]; exact rng _ (by omega)) ?_
    refine W.need (by simp only [E0, E1, E2, E3, E4, E5, E6, E7, P0, P1, P2, P3]; exact rng _ (by omega)) ?_
    refine W.need (by decide) ?_
    refine W.need (by decide) ?_
    refine W.ret ⟨_, _, _, ?_, Trim.of [0, 1, 4] [0] (by decide) (by simp) kp1, .inr (⟨rfl, ?_, ?_⟩)⟩
    · decide
    · rw [← F0]; rfl
    · show [Blk.var _] = [Blk.var [zC, zC, zC, dC u 10000000, dC u 1000000, dC u 100000, dC u 10000, dC u 1000, dC u 100, dC u 10, dC u 1, zC, zC, zC, zC, zC, zC, zC, zC, zC, zC, zC, zC, zC]]
      simp only [E0, E1, E2, E3, E4, E5, E6, E7, P0, P1, P2, P3]
      refine congrArg (fun l => [Blk.var l]) (congrArg (List.cons zC) ?_)
      refine congrArg (List.cons zC) ?_
      refine congrArg (List.cons zC) ?_
      refine cons_eq (by
    have hq : ((u % 100000000) / 10000 / 100) < 100 := by omega
    have hv : u / 10000000 % 10 = ((u % 100000000) / 10000 / 100) / 10 := by omega
    unfold dC
    rw [hv]
    refine congrArg (fun n : Nat => AV.d (.lit (.int .u8 (n : Int)))) ?_
    generalize ((u % 100000000) / 10000 / 100) = q at hq ⊢
    clear hv
    revert q
    decide +kernel) ?_
      refine cons_eq (by
    have hq : ((u % 100000000) / 10000 / 100) < 100 := by omega
    have hv : u / 1000000 % 10 = ((u % 100000000) / 10000 / 100) % 10 := by omega
    unfold dC
    rw [hv]
    refine congrArg (fun n : Nat => AV.d (.lit (.int .u8 (n : Int)))) ?_
    generalize ((u % 100000000) / 10000 / 100) = q at hq ⊢
    clear hv
    revert q
    decide +kernel) ?_
      refine cons_eq (by
    have hq : ((u % 100000000) / 10000 % 100) < 100 := by omega
    have hv : u / 100000 % 10 = ((u % 100000000) / 10000 % 100) / 10 := by omega
    unfold dC
    rw [hv]
    refine congrArg (fun n : Nat => AV.d (.lit (.int .u8 (n : Int)))) ?_
    generalize ((u % 100000000) / 10000 % 100) = q at hq ⊢
    clear hv
    revert q
    decide +kernel) ?_
      refine cons_eq (by
    have hq : ((u % 100000000) / 10000 % 100) < 100 := by omega
    have hv : u / 10000 % 10 = ((u % 100000000) / 10000 % 100) % 10 := by omega
    unfold dC
    rw [hv]
    refine congrArg (fun n : Nat => AV.d (.lit (.int .u8 (n : Int)))) ?_
    generalize ((u % 100000000) / 10000 % 100) = q at hq ⊢
    clear hv
    revert q
    decide +kernel) ?_
      refine cons_eq (by
    have hq : ((u % 100000000) % 10000 / 100) < 100 := by omega
    have hv : u / 1000 % 10 = ((u % 100000000) % 10000 / 100) / 10 := by omega
    unfold dC
    rw [hv]
    refine congrArg (fun n : Nat => AV.d (.lit (.int .u8 (n : Int)))) ?_
    generalize ((u % 100000000) % 10000 / 100) = q at hq ⊢
    clear hv
    revert q
    decide +kernel) ?_
      refine cons_eq (by
    have hq : ((u % 100000000) % 10000 / 100) < 100 := by omega
    have hv : u / 100 % 10 = ((u % 100000000) % 10000 / 100) % 10 := by omega
    unfold dC
    rw [hv]
    refine congrArg (fun n : Nat => AV.d (.lit (.int .u8 (n : Int)))) ?_
    generalize ((u % 100000000) % 10000 / 100) = q at hq ⊢
    clear hv
    revert q
    decide +kernel) ?_
      refine cons_eq (by
    have hq : ((u % 100000000) % 10000 % 100) < 100 := by omega
    have hv : u / 10 % 10 = ((u % 100000000) % 10000 % 100) / 10 := by omega
    unfold dC
    rw [hv]
    refine congrArg (fun n : Nat => AV.d (.lit (.int .u8 (n : Int)))) ?_
    generalize ((u % 100000000) % 10000 % 100) = q at hq ⊢
    clear hv
    revert q
    decide +kernel) ?_
      refine cons_eq (by
    have hq : ((u % 100000000) % 10000 % 100) < 100 := by omega
    have hv : u / 1 % 10 = ((u % 100000000) % 10000 % 100) % 10 := by omega
    unfold dC
    rw [hv]
    refine congrArg (fun n : Nat => AV.d (.lit (.int .u8 (n : Int)))) ?_
    generalize ((u % 100000000) % 10000 % 100) = q at hq ⊢
    clear hv
    revert q
    decide +kernel) ?_
      rfl
  · refine W.ite_f rfl ?_
    refine W.ret ?_
    have T0 : IntKind.u32.wrap (((u / 100000000) : Nat) : Int) = (((u / 100000000) : Nat) : Int) := w32 ((u / 100000000)) (by omega)
    have T5 : IntKind.u32.wrap (Int.tmod (((u / 100000000) : Nat) : Int) 100 * 2) = (((u / 100000000) % 100 * 2 : Nat) : Int) := w32 ((u / 100000000) % 100 * 2) (by omega)
    have T6 : IntKind.u32.wrap (Int.tdiv (((u / 100000000) : Nat) : Int) 100) = (((u / 100000000) / 100 : Nat) : Int) := w32 ((u / 100000000) / 100) (by omega)
    have Q2 : IntKind.u32.wrap ((((u / 100000000) % 100 * 2 : Nat) : Int) + 1) = (((u / 100000000) % 100 * 2 + 1 : Nat) : Int) := w32 ((u / 100000000) % 100 * 2 + 1) (by omega)
    refine W.ite_f rfl ?_
    refine W.ite_t rfl ?_
    iterate 2 refine W.need (by decide) ?_
    refine W.need (by simp only [T0, T5, T6, Q2]; exact rng _ (by omega)) ?_
    refine W.need (by simp only [T0, T5, T6, Q2]; exact rng _ (by omega)) ?_
    refine W.need (by decide) ?_
    refine W.need (by decide) ?_
    refine W.ite_f rfl ?_
    refine W.ret (RetQ.all ⟨rfl, ?_⟩)
    show [Blk.var _] = [Blk.var [zC, dC u 1000000000, dC u 100000000, dC u 10000000, dC u 1000000, dC u 100000, dC u 10000, dC u 1000, dC u 100, dC u 10, dC u 1, zC, zC, zC, zC, zC, zC, zC, zC, zC, zC, zC, zC, zC]]
    simp only [T0, T5, T6, Q2]
    refine congrArg (fun l => [Blk.var l]) (congrArg (List.cons zC) ?_)
    refine cons_eq (by
    have hq : ((u / 100000000) % 100) < 100 := by omega
    have hv : u / 1000000000 % 10 = ((u / 100000000) % 100) / 10 := by omega
    unfold dC
    rw [hv]
    refine congrArg (fun n : Nat => AV.d (.lit (.int .u8 (n : Int)))) ?_
    generalize ((u / 100000000) % 100) = q at hq ⊢
    clear hv
    revert q
    decide +kernel) ?_
    refine cons_eq (by
    have hq : ((u / 100000000) % 100) < 100 := by omega
    have hv : u / 100000000 % 10 = ((u / 100000000) % 100) % 10 := by omega
    unfold dC
    rw [hv]
    refine congrArg (fun n : Nat => AV.d (.lit (.int .u8 (n : Int)))) ?_
    generalize ((u / 100000000) % 100) = q at hq ⊢
    clear hv
    revert q
    decide +kernel) ?_
    rfl
set_option maxHeartbeats 8000000 in
theorem ok105_11 (u : Nat) (hu : u < 100000000000) : CallOk Tryz.prog 105 [.win 0 1 11, .d (uI u)] [.var [zC, zC, zC, zC, zC, zC, zC, zC, zC, zC, zC, zC, zC, zC, zC, zC, zC, zC, zC, zC, zC, zC, zC, zC]] (fun v s => v = .tuple [] ∧ s = [.var [zC, dC u 10000000000, dC u 1000000000, dC u 100000000, dC u 10000000, dC u 1000000, dC u 100000, dC u 10000, dC u 1000, dC u 100, dC u 10, dC u 1, zC, zC, zC, zC, zC, zC, zC, zC, zC, zC, zC, zC]]) := by
  refine CallOk.of tysOk mixed od105 Tryz.func105 rfl rfl code105 ?_
  refine W.loop (fun k fr σ => (k = 1 ∧ fr = [(0, .win 0 1 11), (1, .d (uI ((u : Nat) : Int))), (4, .d (nI 11))] ∧ σ = [.var [zC, zC, zC, zC, zC, zC, zC, zC, zC, zC, zC, zC, zC, zC, zC, zC, zC, zC, zC, zC, zC, zC, zC, zC]]) ∨ (k = 0 ∧ fr = [(0, .win 0 1 11), (1, .d (uI ((u / 100000000 : Nat) : Int))), (4, .d (nI 3))] ∧ σ = [.var [zC, zC, zC, zC, dC u 10000000, dC u 1000000, dC u 100000, dC u 10000, dC u 1000, dC u 100, dC u 10, dC u 1, zC, zC, zC, zC, zC, zC, zC, zC, zC, zC, zC, zC]])) 1
    (Start.of [0, 1, 4] [] (by simp)) (.inl ⟨rfl, rfl, rfl⟩) ?_
  rintro k fr σ (⟨rfl, rfl, rfl⟩ | ⟨rfl, rfl, rfl⟩)
  · refine W.ite_t rfl ?_
    have E0 : IntKind.u32.wrap (Int.tmod ((u : Nat) : Int) 100000000) = ((u % 100000000 : Nat) : Int) := w32 (u % 100000000) (by omega)
    have E1 : IntKind.u32.wrap (Int.tdiv (((u % 100000000) : Nat) : Int) 10000) = (((u % 100000000) / 10000 : Nat) : Int) := w32 ((u % 100000000) / 10000) (by omega)
    have E2 : IntKind.u32.wrap (Int.tdiv (Int.tmod (((u % 100000000) : Nat) : Int) 10000) 100) = (((u % 100000000) % 10000 / 100 : Nat) : Int) := w32 ((u % 100000000) % 10000 / 100) (by omega)
    have E3 : IntKind.u32.wrap ((((u % 100000000) % 10000 / 100 : Nat) : Int) * 2) = (((u % 100000000) % 10000 / 100 * 2 : Nat) : Int) := w32 ((u % 100000000) % 10000 / 100 * 2) (by omega)
    have E4 : IntKind.u32.wrap (Int.tmod (Int.tmod (((u % 100000000) : Nat) : Int) 10000) 100 * 2) = (((u % 100000000) % 10000 % 100 * 2 : Nat) : Int) := w32 ((u % 100000000) % 10000 % 100 * 2) (by omega)
    have E5 : IntKind.u32.wrap (Int.tdiv (((u % 100000000) / 10000 : Nat) : Int) 100) = (((u % 100000000) / 10000 / 100 : Nat) : Int) := w32 ((u % 100000000) / 10000 / 100) (by omega)
    have E6 : IntKind.u32.wrap ((((u % 100000000) / 10000 / 100 : Nat) : Int) * 2) = (((u % 100000000) / 10000 / 100 * 2 : Nat) : Int) := w32 ((u % 100000000) / 10000 / 100 * 2) (by omega)
    have E7 : IntKind.u32.wrap (Int.tmod (((u % 100000000) / 10000 : Nat) : Int) 100 * 2) = (((u % 100000000) / 10000 % 100 * 2 : Nat) : Int) := w32 ((u % 100000000) / 10000 % 100 * 2) (by omega)
    have P0 : IntKind.u32.wrap ((((u % 100000000) % 10000 % 100 * 2 : Nat) : Int) + 1) = (((u % 100000000) % 10000 % 100 * 2 + 1 : Nat) : Int) := w32 ((u % 100000000) % 10000 % 100 * 2 + 1) (by omega)
    have P1 : IntKind.u32.wrap ((((u % 100000000) % 10000 / 100 * 2 : Nat) : Int) + 1) = (((u % 100000000) % 10000 / 100 * 2 + 1 : Nat) : Int) := w32 ((u % 100000000) % 10000 / 100 * 2 + 1) (by omega)
    have P2 : IntKind.u32.wrap ((((u % 100000000) / 10000 % 100 * 2 : Nat) : Int) + 1) = (((u % 100000000) / 10000 % 100 * 2 + 1 : Nat) : Int) := w32 ((u % 100000000) / 10000 % 100 * 2 + 1) (by omega)
    have P3 : IntKind.u32.wrap ((((u % 100000000) / 10000 / 100 * 2 : Nat) : Int) + 1) = (((u % 100000000) / 10000 / 100 * 2 + 1 : Nat) : Int) := w32 ((u % 100000000) / 10000 / 100 * 2 + 1) (by omega)
    have F0 : IntKind.u64.wrap (Int.tdiv ((u : Nat) : Int) 100000000) = ((u / 100000000 : Nat) : Int) := (w64u (u / 100000000) (by omega)).trans (by omega)
    iterate 8 refine W.need (by decide) ?_
    refine W.need (by simp only [E0, E1, E2, E3, E4, E5, E6, E7, P0, P1, P2, P3]; exact rng _ (by omega)) ?_
    refine W.need (by simp only [E0, E1, E2, E3, E4, E5, E6, E7, P0, P1, P2, P3]; exact rng _ (by omega)) ?_
    refine W.need (by decide) ?_
    refine W.need (by decide) ?_
    refine W.need (by simp only [E0, E1, E2, E3, E4, E5, E6, E7, P0, P1, P2, P3]; exact rng _ (by omega)) ?_
    refine W.need (by simp only [E0, E1, E2, E3, E4, E5, E6, E7, P0, P1, P2, P3]; exact rng _ (by omega)) ?_
    refine W.need (by decide) ?_
    refine W.need (by decide) ?_
    refine W.need (by simp only [E0, E1, E2, E3, E4, E5, E6, E7, P0, P1, P2, P3]; exact rng _ (by omega)) ?_
    refine W.need (by simp only [E0, E1, E2, E3, E4, E5, E6, E7, P0, P1, P2, P3]; exact rng _ (by omega)) ?_
    refine W.need (by decide) ?_
    refine W.need (by decide) ?_
    refine W.need (by simp only [E0, E1, E2, E3, E4, E5, E6, E7, P0, P1, P2, P3]; exact rng _ (by omega)) ?_
    refine W.need (by simp only [E0, E1, E2, E3, E4, E5, E6, E7, P0, P1, P2, P3]; exact rng _ (by omega)) ?_
    refine W.need (by decide) ?_
    refine W.need (by decide) ?_
    refine W.ret ⟨_, _, _, ?_, Trim.of [0, 1, 4] [0] (by decide) (by simp) kp1, .inr (⟨rfl, ?_, ?_⟩)⟩
    · decide
    · rw [← F0]; rfl
    · show [Blk.var _] = [Blk.var [zC, zC, zC, zC, dC u 10000000, dC u 1000000, dC u 100000, dC u 10000, dC u 1000, dC u 100, dC u 10, dC u 1, zC, zC, zC, zC, zC, zC, zC, zC, zC, zC, zC, zC]]
      simp only [E0, E1, E2, E3, E4, E5, E6, E7, P0, P1, P2, P3]
      refine congrArg (fun l => [Blk.var l]) (congrArg (List.cons zC) ?_)
      refine congrArg (List.cons zC) ?_
      refine congrArg (List.cons zC) ?_
      refine congrArg (List.cons zC) ?_
      refine cons_eq (by
    have hq : ((u % 100000000) / 10000 / 100) < 100 := by omega
    have hv : u / 10000000 % 10 = ((u % 100000000) / 10000 / 100) / 10 := by omega
    unfold dC
    rw [hv]
    refine congrArg (fun n : Nat => AV.d (.lit (.int .u8 (n : Int)))) ?_
    generalize ((u % 100000000) / 10000 / 100) = q at hq ⊢
    clear hv
    revert q
    decide +kernel) ?_
      refine cons_eq (by
    have hq : ((u % 100000000) / 10000 / 100) < 100 := by omega
    have hv : u / 1000000 % 10 = ((u % 100000000) / 10000 / 100) % 10 := by omega
    unfold dC
    rw [hv]
    refine congrArg (fun n : Nat => AV.d (.lit (.int .u8 (n : Int)))) ?_
    generalize ((u % 100000000) / 10000 / 100) = q at hq ⊢
    clear hv
    revert q
    decide +kernel) ?_
      refine cons_eq (by
    have hq : ((u % 100000000) / 10000 % 100) < 100 := by omega
    have hv : u / 100000 % 10 = ((u % 100000000) / 10000 % 100) / 10 := by omega
    unfold dC
    rw [hv]
    refine congrArg (fun n : Nat => AV.d (.lit (.int .u8 (n : Int)))) ?_
    generalize ((u % 100000000) / 10000 % 100) = q at hq ⊢
    clear hv
    revert q
    decide +kernel) ?_
      refine cons_eq (by
    have hq : ((u % 100000000) / 10000 % 100) < 100 := by omega
    have hv : u / 10000 % 10 = ((u % 100000000) / 10000 % 100) % 10 := by omega
    unfold dC
    rw [hv]
    refine congrArg (fun n : Nat => AV.d (.lit (.int .u8 (n : Int)))) ?_
    generalize ((u % 100000000) / 10000 % 100) = q at hq ⊢
    clear hv
    revert q
    decide +kernel) ?_
      refine cons_eq (by
    have hq : ((u % 100000000) % 10000 / 100) < 100 := by omega
    have hv : u / 1000 % 10 = ((u % 100000000) % 10000 / 100) / 10 := by omega
    unfold dC
    rw [hv]
    refine congrArg (fun n : Nat => AV.d (.lit (.int .u8 (n : Int)))) ?_
    generalize ((u % 100000000) % 10000 / 100) = q at hq ⊢
    clear hv
    revert q
    decide +kernel) ?_
      refine cons_eq (by
    have hq : ((u % 100000000) % 10000 / 100) < 100 := by omega
    have hv : u / 100 % 10 = ((u % 100000000) % 10000 / 100) % 10 := by omega
    unfold dC
    rw [hv]
    refine congrArg (fun n : Nat => AV.d (.lit (.int .u8 (n : Int)))) ?_
    generalize ((u % 100000000) % 10000 / 100) = q at hq ⊢
    clear hv
    revert q
    decide +kernel) ?_
      refine cons_eq (by
    have hq : ((u % 100000000) % 10000 % 100) < 100 := by omega
    have hv : u / 10 % 10 = ((u % 100000000) % 10000 % 100) / 10 := by omega
    unfold dC
    rw [hv]
    refine congrArg (fun n : Nat => AV.d (.lit (.int .u8 (n : Int)))) ?_
    generalize ((u % 100000000) % 10000 % 100) = q at hq ⊢
    clear hv
    revert q
    decide +kernel) ?_
      refine cons_eq (by
    have hq : ((u % 100000000) % 10000 % 100) < 100 := by omega
    have hv : u / 1 % 10 = ((u % 100000000) % 10000 % 100) % 10 := by omega
    unfold dC
    rw [hv]
    refine congrArg (fun n : Nat => AV.d (.lit (.int .u8 (n : Int)))) ?_
    generalize ((u % 100000000) % 10000 % 100) = q at hq ⊢
    clear hv
    revert q
    decide +kernel) ?_
      rfl
  · refine W.ite_f rfl ?_
    refine W.ret ?_
    have T0 : IntKind.u32.wrap (((u / 100000000) : Nat) : Int) = (((u / 100000000) : Nat) : Int) := w32 ((u / 100000000)) (by omega)
    have T5 : IntKind.u32.wrap (Int.tmod (((u / 100000000) : Nat) : Int) 100 * 2) = (((u / 100000000) % 100 * 2 : Nat) : Int) := w32 ((u / 100000000) % 100 * 2) (by omega)
    have T6 : IntKind.u32.wrap (Int.tdiv (((u / 100000000) : Nat) : Int) 100) = (((u / 100000000) / 100 : Nat) : Int) := w32 ((u / 100000000) / 100) (by omega)
    have Q2 : IntKind.u32.wrap ((((u / 100000000) % 100 * 2 : Nat) : Int) + 1) = (((u / 100000000) % 100 * 2 + 1 : Nat) : Int) := w32 ((u / 100000000) % 100 * 2 + 1) (by omega)
    have T7 : IntKind.u32.wrap (48 + ((((u / 100000000) / 100) : Nat) : Int)) = ((48 + ((u / 100000000) / 100) : Nat) : Int) := w32 (48 + ((u / 100000000) / 100)) (by omega)
    have T8 : IntKind.u8.wrap ((48 + ((u / 100000000) / 100) : Nat) : Int) = ((48 + ((u / 100000000) / 100) : Nat) : Int) := w8 _ (by omega)
    refine W.ite_f rfl ?_
    refine W.ite_t rfl ?_
    iterate 2 refine W.need (by decide) ?_
    refine W.need (by simp only [T0, T5, T6, Q2, T7, T8]; exact rng _ (by omega)) ?_
    refine W.need (by simp only [T0, T5, T6, Q2, T7, T8]; exact rng _ (by omega)) ?_
    refine W.need (by decide) ?_
    refine W.need (by decide) ?_
    refine W.ite_t rfl ?_
    refine W.need (by decide) ?_
    refine W.ret (RetQ.all ⟨rfl, ?_⟩)
    show [Blk.var _] = [Blk.var [zC, dC u 10000000000, dC u 1000000000, dC u 100000000, dC u 10000000, dC u 1000000, dC u 100000, dC u 10000, dC u 1000, dC u 100, dC u 10, dC u 1, zC, zC, zC, zC, zC, zC, zC, zC, zC, zC, zC, zC]]
    simp only [T0, T5, T6, Q2, T7, T8]
    refine congrArg (fun l => [Blk.var l]) (congrArg (List.cons zC) ?_)
    refine cons_eq (by
        have hv : u / 10000000000 % 10 = ((u / 100000000) / 100) := by omega
        unfold dC
        rw [hv]) ?_
    refine cons_eq (by
    have hq : ((u / 100000000) % 100) < 100 := by omega
    have hv : u / 1000000000 % 10 = ((u / 100000000) % 100) / 10 := by omega
    unfold dC
    rw [hv]
    refine congrArg (fun n : Nat => AV.d (.lit (.int .u8 (n : Int)))) ?_
    generalize ((u / 100000000) % 100) = q at hq ⊢
    clear hv
    revert q
    decide +kernel) ?_
    refine cons_eq (by
    have hq : ((u / 100000000) % 100) < 100 := by omega
    have hv : u / 100000000 % 10 = ((u / 100000000) % 100) % 10 := by omega
    unfold dC
    rw [hv]
    refine congrArg (fun n : Nat => AV.d (.lit (.int .u8 (n : Int)))) ?_
    generalize ((u / 100000000) % 100) = q at hq ⊢
    clear hv
    revert q
    decide +kernel) ?_
    rfl
set_option maxHeartbeats 8000000 in
theorem ok105_12 (u : Nat) (hu : u < 1000000000000) : CallOk Tryz.prog 105 [.win 0 1 12, .d (uI u)] [.var [zC, zC, zC, zC, zC, zC, zC, zC, zC, zC, zC, zC, zC, zC, zC, zC, zC, zC, zC, zC, zC, zC, zC, zC]] (fun v s => v = .tuple [] ∧ s = [.var [zC, dC u 100000000000, dC u 10000000000, dC u 1000000000, dC u 100000000, dC u 10000000, dC u 1000000, dC u 100000, dC u 10000, dC u 1000, dC u 100, dC u 10, dC u 1, zC, zC, zC, zC, zC, zC, zC, zC, zC, zC, zC]]) := by
  refine CallOk.of tysOk mixed od105 Tryz.func105 rfl rfl code105 ?_
  refine W.loop (fun k fr σ => (k = 1 ∧ fr = [(0, .win 0 1 12), (1, .d (uI ((u : Nat) : Int))), (4, .d (nI 12))] ∧ σ = [.var [zC, zC, zC, zC, zC, zC, zC, zC, zC, zC, zC, zC, zC, zC, zC, zC, zC, zC, zC, zC, zC, zC, zC, zC]]) ∨ (k = 0 ∧ fr = [(0, .win 0 1 12), (1, .d (uI ((u / 100000000 : Nat) : Int))), (4, .d (nI 4))] ∧ σ = [.var [zC, zC, zC, zC, zC, dC u 10000000, dC u 1000000, dC u 100000, dC u 10000, dC u 1000, dC u 100, dC u 10, dC u 1, zC, zC, zC, zC, zC, zC, zC, zC, zC, zC, zC]])) 1
    (Start.of [0, 1, 4] [] (by simp)) (.inl ⟨rfl, rfl, rfl⟩) ?_
  rintro k fr σ (⟨rfl, rfl, rfl⟩ | ⟨rfl, rfl, rfl⟩)
  · refine W.ite_t rfl ?_
    have E0 : IntKind.u32.wrap (Int.tmod ((u : Nat) : Int) 100000000) = ((u % 100000000 : Nat) : Int) := w32 (u % 100000000) (by omega)
    have E1 : IntKind.u32.wrap (Int.tdiv (((u % 100000000) : Nat) : Int) 10000) = (((u % 100000000) / 10000 : Nat) : Int) := w32 ((u % 100000000) / 10000) (by omega)
    have E2 : IntKind.u32.wrap (Int.tdiv (Int.tmod (((u % 100000000) : Nat) : Int) 10000) 100) = (((u % 100000000) % 10000 / 100 : Nat) : Int) := w32 ((u % 100000000) % 10000 / 100) (by omega)
    have E3 : IntKind.u32.wrap ((((u % 100000000) % 10000 / 100 : Nat) : Int) * 2) = (((u % 100000000) % 10000 / 100 * 2 : Nat) : Int) := w32 ((u % 100000000) % 10000 / 100 * 2) (by omega)
    have E4 : IntKind.u32.wrap (Int.tmod (Int.tmod (((u % 100000000) : Nat) : Int) 10000) 100 * 2) = (((u % 100000000) % 10000 % 100 * 2 : Nat) : Int) := w32 ((u % 100000000) % 10000 % 100 * 2) (by omega)
    have E5 : IntKind.u32.wrap (Int.tdiv (((u % 100000000) / 10000 : Nat) : Int) 100) = (((u % 100000000) / 10000 / 100 : Nat) : Int) := w32 ((u % 100000000) / 10000 / 100) (by omega)
    have E6 : IntKind.u32.wrap ((((u % 100000000) / 10000 / 100 : Nat) : Int) * 2) = (((u % 100000000) / 10000 / 100 * 2 : Nat) : Int) := w32 ((u % 100000000) / 10000 / 100 * 2) (by omega)
    have E7 : IntKind.u32.wrap (Int.tmod (((u % 100000000) / 10000 : Nat) : Int) 100 * 2) = (((u % 100000000) / 10000 % 100 * 2 : Nat) : Int) := w32 ((u % 100000000) / 10000 % 100 * 2) (by omega)
    have P0 : IntKind.u32.wrap ((((u % 100000000) % 10000 % 100 * 2 : Nat) : Int) + 1) = (((u % 100000000) % 10000 % 100 * 2 + 1 : Nat) : Int) := w32 ((u % 100000000) % 10000 % 100 * 2 + 1) (by omega)
    have P1 : IntKind.u32.wrap ((((u % 100000000) % 10000 / 100 * 2 : Nat) : Int) + 1) = (((u % 100000000) % 10000 / 100 * 2 + 1 : Nat) : Int) := w32 ((u % 100000000) % 10000 / 100 * 2 + 1) (by omega)
    have P2 : IntKind.u32.wrap ((((u % 100000000) / 10000 % 100 * 2 : Nat) : Int) + 1) = (((u % 100000000) / 10000 % 100 * 2 + 1 : Nat) : Int) := w32 ((u % 100000000) / 10000 % 100 * 2 + 1) (by omega)
    have P3 : IntKind.u32.wrap ((((u % 100000000) / 10000 / 100 * 2 : Nat) : Int) + 1) = (((u % 100000000) / 10000 / 100 * 2 + 1 : Nat) : Int) := w32 ((u % 100000000) / 10000 / 100 * 2 + 1) (by omega)
    have F0 : IntKind.u64.wrap (Int.tdiv ((u : Nat) : Int) 100000000) = ((u / 100000000 : Nat) : Int) := (w64u (u / 100000000) (by omega)).trans (by omega)
    iterate 8 refine W.need (by decide) ?_
    refine W.need (by simp only [E0, E1, E2, E3, E4, E5, E6, E7, P0, P1, P2, P3]; exact rng _ (by omega)) ?_
    refine W.need (by simp only [E0, E1, E2, E3, E4, E5, E6, E7, P0, P1, P2, P3]; exact rng _ (by omega)) ?_
    refine W.need (by decide) ?_
    refine W.need (by decide) ?_
    refine W.need (by simp only [E0, E1, E2, E3, E4, E5, E6, E7, P0, P1, P2, P3]; exact rng _ (by omega)) ?_
    refine W.need (by simp only [E0, E1, E2, E3, E4, E5, E6, E7, P0, P1, P2, P3]; exact rng _ (by omega)) ?_
    refine W.need (by decide) ?_
    refine W.need (by decide) ?_
    refine W.need (by simp only [E0, E1, E2, E3, E4, E5, E6, E7, P0, P1, P2, P3]; exact rng _ (by omega)) ?_
    refine W.need (by simp only [E0, E1, E2, E3, E4, E5, E6, E7, P0, P1, P2, P3]; exact rng _ (by omega)) ?_
    refine W.need (by decide) ?_
    refine W.need (by decide) ?_
    refine W.need (by simp only [E0, E1, E2, E3, E4, E5, E6, E7, P0, P1, P2, P3]; exact rng _ (by omega)) ?_
    refine W.need (by simp only [E0, E1, E2, E3, E4, E5, E6, E7, P0, P1, P2, P3]; exact rng _ (by omega)) ?_
    refine W.need (by decide) ?_
    refine W.need (by decide) ?_
    refine W.ret ⟨_, _, _, ?_, Trim.of [0, 1, 4] [0] (by decide) (by simp) kp1, .inr (⟨rfl, ?_, ?_⟩)⟩
    · decide
    · rw [← F0]; rfl
    · show [Blk.var _] = [Blk.var [zC, zC, zC, zC, zC, dC u 10000000, dC u 1000000, dC u 100000, dC u 10000, dC u 1000, dC u 100, dC u 10, dC u 1, zC, zC, zC, zC, zC, zC, zC, zC, zC, zC, zC]]
      simp only [E0, E1, E2, E3, E4, E5, E6, E7, P0, P1, P2, P3]
      refine congrArg (fun l => [Blk.var l]) (congrArg (List.cons zC) ?_)
      refine congrArg (List.cons zC) ?_
      refine congrArg (List.cons zC) ?_
      refine congrArg (List.cons zC) ?_
      refine congrArg (List.cons zC) ?_
      refine cons_eq (by
    have hq : ((u % 100000000) / 10000 / 100) < 100 := by omega
    have hv : u / 10000000 % 10 = ((u % 100000000) / 10000 / 100) / 10 := by omega
    unfold dC
    rw [hv]
    refine congrArg (fun n : Nat => AV.d (.lit (.int .u8 (n : Int)))) ?_
    generalize ((u % 100000000) / 10000 / 100) = q at hq ⊢
    clear hv
    revert q
    decide +kernel) ?_
      refine cons_eq (by
    have hq : ((u % 100000000) / 10000 / 100) < 100 := by omega
    have hv : u / 1000000 % 10 = ((u % 100000000) / 10000 / 100) % 10 := by omega
    unfold dC
    rw [hv]
    refine congrArg (fun n : Nat => AV.d (.lit (.int .u8 (n : Int)))) ?_
    generalize ((u % 100000000) / 10000 / 100) = q at hq ⊢
    clear hv
    revert q
    decide +kernel) ?_
      refine cons_eq (by
    have hq : ((u % 100000000) / 10000 % 100) < 100 := by omega
    have hv : u / 100000 % 10 = ((u % 100000000) / 10000 % 100) / 10 := by omega
    unfold dC
    rw [hv]
    refine congrArg (fun n : Nat => AV.d (.lit (.int .u8 (n : Int)))) ?_
    generalize ((u % 100000000) / 10000 % 100) = q at hq ⊢
    clear hv
    revert q
    decide +kernel) ?_
      refine cons_eq (by
    have hq : ((u % 100000000) / 10000 % 100) < 100 := by omega
    have hv : u / 10000 % 10 = ((u % 100000000) / 10000 % 100) % 10 := by omega
    unfold dC
    rw [hv]
    refine congrArg (fun n : Nat => AV.d (.lit (.int .u8 (n : Int)))) ?_
    generalize ((u % 100000000) / 10000 % 100) = q at hq ⊢
    clear hv
    revert q
    decide +kernel) ?_
      refine cons_eq (by
    have hq : ((u % 100000000) % 10000 / 100) < 100 := by omega
    have hv : u / 1000 % 10 = ((u % 100000000) % 10000 / 100) / 10 := by omega
    unfold dC
    rw [hv]
    refine congrArg (fun n : Nat => AV.d (.lit (.int .u8 (n : Int)))) ?_
    generalize ((u % 100000000) % 10000 / 100) = q at hq ⊢
    clear hv
    revert q
    decide +kernel) ?_
      refine cons_eq (by
    have hq : ((u % 100000000) % 10000 / 100) < 100 := by omega
    have hv : u / 100 % 10 = ((u % 100000000) % 10000 / 100) % 10 := by omega
    unfold dC
    rw [hv]
    refine congrArg (fun n : Nat => AV.d (.lit (.int .u8 (n : Int)))) ?_
    generalize ((u % 100000000) % 10000 / 100) = q at hq ⊢
    clear hv
    revert q
    decide +kernel) ?_
      refine cons_eq (by
    have hq : ((u % 100000000) % 10000 % 100) < 100 := by omega
    have hv : u / 10 % 10 = ((u % 100000000) % 10000 % 100) / 10 := by omega
    unfold dC
    rw [hv]
    refine congrArg (fun n : Nat => AV.d (.lit (.int .u8 (n : Int)))) ?_
    generalize ((u % 100000000) % 10000 % 100) = q at hq ⊢
    clear hv
    revert q
    decide +kernel) ?_
      refine cons_eq (by
    have hq : ((u % 100000000) % 10000 % 100) < 100 := by omega
    have hv : u / 1 % 10 = ((u % 100000000) % 10000 % 100) % 10 := by omega
    unfold dC
    rw [hv]
    refine congrArg (fun n : Nat => AV.d (.lit (.int .u8 (n : Int)))) ?_
    generalize ((u % 100000000) % 10000 % 100) = q at hq ⊢
    clear hv
    revert q
    decide +kernel) ?_
      rfl
  · refine W.ite_f rfl ?_
    refine W.ret ?_
    have T0 : IntKind.u32.wrap (((u / 100000000) : Nat) : Int) = (((u / 100000000) : Nat) : Int) := w32 ((u / 100000000)) (by omega)
    have T1 : IntKind.u32.wrap (Int.tdiv (((u / 100000000) : Nat) : Int) 10000) = (((u / 100000000) / 10000 : Nat) : Int) := w32 ((u / 100000000) / 10000) (by omega)
    have T2 : IntKind.u32.wrap (Int.tdiv (Int.tmod (((u / 100000000) : Nat) : Int) 10000) 100) = (((u / 100000000) % 10000 / 100 : Nat) : Int) := w32 ((u / 100000000) % 10000 / 100) (by omega)
    have T3 : IntKind.u32.wrap ((((u / 100000000) % 10000 / 100 : Nat) : Int) * 2) = (((u / 100000000) % 10000 / 100 * 2 : Nat) : Int) := w32 ((u / 100000000) % 10000 / 100 * 2) (by omega)
    have T4 : IntKind.u32.wrap (Int.tmod (Int.tmod (((u / 100000000) : Nat) : Int) 10000) 100 * 2) = (((u / 100000000) % 10000 % 100 * 2 : Nat) : Int) := w32 ((u / 100000000) % 10000 % 100 * 2) (by omega)
    have Q0 : IntKind.u32.wrap ((((u / 100000000) % 10000 % 100 * 2 : Nat) : Int) + 1) = (((u / 100000000) % 10000 % 100 * 2 + 1 : Nat) : Int) := w32 ((u / 100000000) % 10000 % 100 * 2 + 1) (by omega)
    have Q1 : IntKind.u32.wrap ((((u / 100000000) % 10000 / 100 * 2 : Nat) : Int) + 1) = (((u / 100000000) % 10000 / 100 * 2 + 1 : Nat) : Int) := w32 ((u / 100000000) % 10000 / 100 * 2 + 1) (by omega)
    refine W.ite_t rfl ?_
    iterate 4 refine W.need (by decide) ?_
    refine W.need (by simp only [T0, T1, T2, T3, T4, Q0, Q1]; exact rng _ (by omega)) ?_
    refine W.need (by simp only [T0, T1, T2, T3, T4, Q0, Q1]; exact rng _ (by omega)) ?_
    refine W.need (by decide) ?_
    refine W.need (by decide) ?_
    refine W.need (by simp only [T0, T1, T2, T3, T4, Q0, Q1]; exact rng _ (by omega)) ?_
    refine W.need (by simp only [T0, T1, T2, T3, T4, Q0, Q1]; exact rng _ (by omega)) ?_
    refine W.need (by decide) ?_
    refine W.need (by decide) ?_
    refine W.ite_f rfl ?_
    refine W.ite_f rfl ?_
    refine W.ret (RetQ.all ⟨rfl, ?_⟩)
    show [Blk.var _] = [Blk.var [zC, dC u 100000000000, dC u 10000000000, dC u 1000000000, dC u 100000000, dC u 10000000, dC u 1000000, dC u 100000, dC u 10000, dC u 1000, dC u 100, dC u 10, dC u 1, zC, zC, zC, zC, zC, zC, zC, zC, zC, zC, zC]]
    simp only [T0, T1, T2, T3, T4, Q0, Q1]
    refine congrArg (fun l => [Blk.var l]) (congrArg (List.cons zC) ?_)
    refine cons_eq (by
    have hq : ((u / 100000000) % 10000 / 100) < 100 := by omega
    have hv : u / 100000000000 % 10 = ((u / 100000000) % 10000 / 100) / 10 := by omega
    unfold dC
    rw [hv]
    refine congrArg (fun n : Nat => AV.d (.lit (.int .u8 (n : Int)))) ?_
    generalize ((u / 100000000) % 10000 / 100) = q at hq ⊢
    clear hv
    revert q
    decide +kernel) ?_
    refine cons_eq (by
    have hq : ((u / 100000000) % 10000 / 100) < 100 := by omega
    have hv : u / 10000000000 % 10 = ((u / 100000000) % 10000 / 100) % 10 := by omega
    unfold dC
    rw [hv]
    refine congrArg (fun n : Nat => AV.d (.lit (.int .u8 (n : Int)))) ?_
    generalize ((u / 100000000) % 10000 / 100) = q at hq ⊢
    clear hv
    revert q
    decide +kernel) ?_
    refine cons_eq (by
    have hq : ((u / 100000000) % 10000 % 100) < 100 := by omega
    have hv : u / 1000000000 % 10 = ((u / 100000000) % 10000 % 100) / 10 := by omega
    unfold dC
    rw [hv]
    refine congrArg (fun n : Nat => AV.d (.lit (.int .u8 (n : Int)))) ?_
    generalize ((u / 100000000) % 10000 % 100) = q at hq ⊢
    clear hv
    revert q
    decide +kernel) ?_
    refine cons_eq (by
    have hq : ((u / 100000000) % 10000 % 100) < 100 := by omega
    have hv : u / 100000000 % 10 = ((u / 100000000) % 10000 % 100) % 10 := by omega
    unfold dC
    rw [hv]
    refine congrArg (fun n : Nat => AV.d (.lit (.int .u8 (n : Int)))) ?_
    generalize ((u / 100000000) % 10000 % 100) = q at hq ⊢
    clear hv
    revert q
    decide +kernel) ?_
    rfl
set_option maxHeartbeats 8000000 in
theorem ok105_13 (u : Nat) (hu : u < 10000000000000) : CallOk Tryz.prog 105 [.win 0 1 13, .d (uI u)] [.var [zC, zC, zC, zC, zC, zC, zC, zC, zC, zC, zC, zC, zC, zC, zC, zC, zC, zC, zC, zC, zC, zC, zC, zC]] (fun v s => v = .tuple [] ∧ s = [.var [zC, dC u 1000000000000, dC u 100000000000, dC u 10000000000, dC u 1000000000, dC u 100000000, dC u 10000000, dC u 1000000, dC u 100000, dC u 10000, dC u 1000, dC u 100, dC u 10, dC u 1, zC, zC, zC, zC, zC, zC, zC, zC, zC, zC]]) := by
  refine CallOk.of tysOk mixed od105 Tryz.func105 rfl rfl code105 ?_
  refine W.loop (fun k fr σ => (k = 1 ∧ fr = [(0, .win 0 1 13), (1, .d (uI ((u : Nat) : Int))), (4, .d (nI 13))] ∧ σ = [.var [zC, zC, zC, zC, zC, zC, zC, zC, zC, zC, zC, zC, zC, zC, zC, zC, zC, zC, zC, zC, zC, zC, zC, zC]]) ∨ (k = 0 ∧ fr = [(0, .win 0 1 13), (1, .d (uI ((u / 100000000 : Nat) : Int))), (4, .d (nI 5))] ∧ σ = [.var [zC, zC, zC, zC, zC, zC, dC u 10000000, dC u 1000000, dC u 100000, dC u 10000, dC u 1000, dC u 100, dC u 10, dC u 1, zC, zC, zC, zC, zC, zC, zC, zC, zC, zC]])) 1
    (Start.of [0, 1, 4] [] (by simp)) (.inl ⟨rfl, rfl, rfl⟩) ?_
  rintro k fr σ (⟨rfl, rfl, rfl⟩ | ⟨rfl, rfl, rfl⟩)
  · refine W.ite_t rfl ?_
    have E0 : IntKind.u32.wrap (Int.tmod ((u : Nat) : Int) 100000000) = ((u % 100000000 : Nat) : Int) := w32 (u % 100000000) (by omega)
    have E1 : IntKind.u32.wrap (Int.tdiv (((u % 100000000) : Nat) : Int) 10000) = (((u % 100000000) / 10000 : Nat) : Int) := w32 ((u % 100000000) / 10000) (by omega)
    have E2 : IntKind.u32.wrap (Int.tdiv (Int.tmod (((u % 100000000) : Nat) : Int) 10000) 100) = (((u % 100000000) % 10000 / 100 : Nat) : Int) := w32 ((u % 100000000) % 10000 / 100) (by omega)
    have E3 : IntKind.u32.wrap ((((u % 100000000) % 10000 / 100 : Nat) : Int) * 2) = (((u % 100000000) % 10000 / 100 * 2 : Nat) : Int) := w32 ((u % 100000000) % 10000 / 100 * 2) (by omega)
    have E4 : IntKind.u32.wrap (Int.tmod (Int.tmod (((u % 100000000) : Nat) : Int) 10000) 100 * 2) = (((u % 100000000) % 10000 % 100 * 2 : Nat) : Int) := w32 ((u % 100000000) % 10000 % 100 * 2) (by omega)
    have E5 : IntKind.u32.wrap (Int.tdiv (((u % 100000000) / 10000 : Nat) : Int) 100) = (((u % 100000000) / 10000 / 100 : Nat) : Int) := w32 ((u % 100000000) / 10000 / 100) (by omega)
    have E6 : IntKind.u32.wrap ((((u % 100000000) / 10000 / 100 : Nat) : Int) * 2) = (((u % 100000000) / 10000 / 100 * 2 : Nat) : Int) := w32 ((u % 100000000) / 10000 / 100 * 2) (by omega)
    have E7 : IntKind.u32.wrap (Int.tmod (((u % 100000000) / 10000 : Nat) : Int) 100 * 2) = (((u % 100000000) / 10000 % 100 * 2 : Nat) : Int) := w32 ((u % 100000000) / 10000 % 100 * 2) (by omega)
    have P0 : IntKind.u32.wrap ((((u % 100000000) % 10000 % 100 * 2 : Nat) : Int) + 1) = (((u % 100000000) % 10000 % 100 * 2 + 1 : Nat) : Int) := w32 ((u % 100000000) % 10000 % 100 * 2 + 1) (by omega)
    have P1 : IntKind.u32.wrap ((((u % 100000000) % 10000 / 100 * 2 : Nat) : Int) + 1) = (((u % 100000000) % 10000 / 100 * 2 + 1 : Nat) : Int) := w32 ((u % 100000000) % 10000 / 100 * 2 + 1) (by omega)
    have P2 : IntKind.u32.wrap ((((u % 100000000) / 10000 % 100 * 2 : Nat) : Int) + 1) = (((u % 100000000) / 10000 % 100 * 2 + 1 : Nat) : Int) := w32 ((u % 100000000) / 10000 % 100 * 2 + 1) (by omega)
    have P3 : IntKind.u32.wrap ((((u % 100000000) / 10000 / 100 * 2 : Nat) : Int) + 1) = (((u % 100000000) / 10000 / 100 * 2 + 1 : Nat) : Int) := w32 ((u % 100000000) / 10000 / 100 * 2 + 1) (by omega)
    have F0 : IntKind.u64.wrap (Int.tdiv ((u : Nat) : Int) 100000000) = ((u / 100000000 : Nat) : Int) := (w64u (u / 100000000) (by omega)).trans (by omega)
    iterate 8 refine W.need (by decide) ?_
    refine W.need (by simp only [E0, E1, E2, E3, E4, E5, E6, E7, P0, P1, P2, P3]; exact rng _ (by omega)) ?_
    refine W.need (by simp only [E0, E1, E2, E3, E4, E5, E6, E7, P0, P1, P2, P3]; exact rng _ (by omega)) ?_
    refine W.need (by decide) ?_
    refine W.need (by decide) ?_
    refine W.need (by simp only [E0, E1, E2, E3, E4, E5, E6, E7, P0, P1, P2, P3]; exact rng _ (by omega)) ?_
    refine W.need (by simp only [E0, E1, E2, E3, E4, E5, E6, E7, P0, P1, P2, P3]; exact rng _ (by omega)) ?_
    refine W.need (by decide) ?_
    refine W.need (by decide) ?_
    refine W.need (by simp only [E0, E1, E2, E3, E4, E5, E6, E7, P0, P1, P2, P3]; exact rng _ (by omega)) ?_
    refine W.need (by simp only [E0, E1, E2, E3, E4, E5, E6, E7, P0, P1, P2, P3]; exact rng _ (by omega)) ?_
    refine W.need (by decide) ?_
    refine W.need (by decide) ?_
    refine W.need (by simp only [E0, E1, E2, E3, E4, E5, E6, E7, P0, P1, P2, P3]; exact rng _ (by omega)) ?_
    refine W.need (by simp only [E0, E1, E2, E3, E4, E5, E6, E7, P0, P1, P2, P3]; exact rng _ (by omega)) ?_
    refine W.need (by decide) ?_
    refine W.need (by decide) ?_
    refine W.ret ⟨_, _, _, ?_, Trim.of [0, 1, 4] [0] (by decide) (by simp) kp1, .inr (⟨rfl, ?_, ?_⟩)⟩
    · decide
    · rw [← F0]; rfl
    · show [Blk.var _] = [Blk.var [zC, zC, zC, zC, zC, zC, dC u 10000000, dC u 1000000, dC u 100000, dC u 10000, dC u 1000, dC u 100, dC u 10, dC u 1, zC, zC, zC, zC, zC, zC, zC, zC, zC, zC]]
      simp only [E0, E1, E2, E3, E4, E5, E6, E7, P0, P1, P2, P3]
      refine congrArg (fun l => [Blk.var l]) (congrArg (List.cons zC) ?_)
      refine congrArg (List.cons zC) ?_
      refine congrArg (List.cons zC) ?_
      refine congrArg (List.cons zC) ?_
      refine congrArg (List.cons zC) ?_
      refine congrArg (List.cons zC) ?_
      refine cons_eq (by
    have hq : ((u % 100000000) / 10000 / 100) < 100 := by omega
    have hv : u / 10000000 % 10 = ((u % 100000000) / 10000 / 100) / 10 := by omega
    unfold dC
    rw [hv]
    refine congrArg (fun n : Nat => AV.d (.lit (.int .u8 (n : Int)))) ?_
    generalize ((u % 100000000) / 10000 / 100) = q at hq ⊢
    clear hv
    revert q
    decide +kernel) ?_
      refine cons_eq (by
    have hq : ((u % 100000000) / 10000 / 100) < 100 := by omega
    have hv : u / 1000000 % 10 = ((u % 100000000) / 10000 / 100) % 10 := by omega
    unfold dC
    rw [hv]
    refine congrArg (fun n : Nat => AV.d (.lit (.int .u8 (n : Int)))) ?_
    generalize ((u % 100000000) / 10000 / 100) = q at hq ⊢
    clear hv
    revert q
    decide +kernel) ?_
      refine cons_eq (by
    have hq : ((u % 100000000) / 10000 % 100) < 100 := by omega
    have hv : u / 100000 % 10 = ((u % 100000000) / 10000 % 100) / 10 := by omega
    unfold dC
    rw [hv]
    refine congrArg (fun n : Nat => AV.d (.lit (.int .u8 (n : Int)))) ?_
    generalize ((u % 100000000) / 10000 % 100) = q at hq ⊢
    clear hv
    revert q
    decide +kernel) ?_
      refine cons_eq (by
    have hq : ((u % 100000000) / 10000 % 100) < 100 := by omega
    have hv : u / 10000 % 10 = ((u % 100000000) / 10000 % 100) % 10 := by omega
    unfold dC
    rw [hv]
    refine congrArg (fun n : Nat => AV.d (.lit (.int .u8 (n : Int)))) ?_
    generalize ((u % 100000000) / 10000 % 100) = q at hq ⊢
    clear hv
    revert q
    decide +kernel) ?_
      refine cons_eq (by
    have hq : ((u % 100000000) % 10000 / 100) < 100 := by omega
    have hv : u / 1000 % 10 = ((u % 100000000) % 10000 / 100) / 10 := by omega
    unfold dC
    rw [hv]
    refine congrArg (fun n : Nat => AV.d (.lit (.int .u8 (n : Int)))) ?_
    generalize ((u % 100000000) % 10000 / 100) = q at hq ⊢
    clear hv
    revert q
    decide +kernel) ?_
      refine cons_eq (by
    have hq : ((u % 100000000) % 10000 / 100) < 100 := by omega
    have hv : u / 100 % 10 = ((u % 100000000) % 10000 / 100) % 10 := by omega
    unfold dC
    rw [hv]
    refine congrArg (fun n : Nat => AV.d (.lit (.int .u8 (n : Int)))) ?_
    generalize ((u % 100000000) % 10000 / 100) = q at hq ⊢
    clear hv
    revert q
    decide +kernel) ?_
      refine cons_eq (by
    have hq : ((u % 100000000) % 10000 % 100) < 100 := by omega
    have hv : u / 10 % 10 = ((u % 100000000) % 10000 % 100) / 10 := by omega
    unfold dC
    rw [hv]
    refine congrArg (fun n : Nat => AV.d (.lit (.int .u8 (n : Int)))) ?_
    generalize ((u % 100000000) % 10000 % 100) = q at hq ⊢
    clear hv
    revert q
    decide +kernel) ?_
      refine cons_eq (by
    have hq : ((u % 100000000) % 10000 % 100) < 100 := by omega
    have hv : u / 1 % 10 = ((u % 100000000) % 10000 % 100) % 10 := by omega
    unfold dC
    rw [hv]
    refine congrArg (fun n : Nat => AV.d (.lit (.int .u8 (n : Int)))) ?_
    generalize ((u % 100000000) % 10000 % 100) = q at hq ⊢
    clear hv
    revert q
    decide +kernel) ?_
      rfl
  · refine W.ite_f rfl ?_
    refine W.ret ?_
    have T0 : IntKind.u32.wrap (((u / 100000000) : Nat) : Int) = (((u / 100000000) : Nat) : Int) := w32 ((u / 100000000)) (by omega)
    have T1 : IntKind.u32.wrap (Int.tdiv (((u / 100000000) : Nat) : Int) 10000) = (((u / 100000000) / 10000 : Nat) : Int) := w32 ((u / 100000000) / 10000) (by omega)
    have T2 : IntKind.u32.wrap (Int.tdiv (Int.tmod (((u / 100000000) : Nat) : Int) 10000) 100) = (((u / 100000000) % 10000 / 100 : Nat) : Int) := w32 ((u / 100000000) % 10000 / 100) (by omega)
    have T3 : IntKind.u32.wrap ((((u / 100000000) % 10000 / 100 : Nat) : Int) * 2) = (((u / 100000000) % 10000 / 100 * 2 : Nat) : Int) := w32 ((u / 100000000) % 10000 / 100 * 2) (by omega)
    have T4 : IntKind.u32.wrap (Int.tmod (Int.tmod (((u / 100000000) : Nat) : Int) 10000) 100 * 2) = (((u / 100000000) % 10000 % 100 * 2 : Nat) : Int) := w32 ((u / 100000000) % 10000 % 100 * 2) (by omega)
    have Q0 : IntKind.u32.wrap ((((u / 100000000) % 10000 % 100 * 2 : Nat) : Int) + 1) = (((u / 100000000) % 10000 % 100 * 2 + 1 : Nat) : Int) := w32 ((u / 100000000) % 10000 % 100 * 2 + 1) (by omega)
    have Q1 : IntKind.u32.wrap ((((u / 100000000) % 10000 / 100 * 2 : Nat) : Int) + 1) = (((u / 100000000) % 10000 / 100 * 2 + 1 : Nat) : Int) := w32 ((u / 100000000) % 10000 / 100 * 2 + 1) (by omega)
    have T7 : IntKind.u32.wrap (48 + ((((u / 100000000) / 10000) : Nat) : Int)) = ((48 + ((u / 100000000) / 10000) : Nat) : Int) := w32 (48 + ((u / 100000000) / 10000)) (by omega)
    have T8 : IntKind.u8.wrap ((48 + ((u / 100000000) / 10000) : Nat) : Int) = ((48 + ((u / 100000000) / 10000) : Nat) : Int) := w8 _ (by omega)
    refine W.ite_t rfl ?_
    iterate 4 refine W.need (by decide) ?_
    refine W.need (by simp only [T0, T1, T2, T3, T4, Q0, Q1, T7, T8]; exact rng _ (by omega)) ?_
    refine W.need (by simp only [T0, T1, T2, T3, T4, Q0, Q1, T7, T8]; exact rng _ (by omega)) ?_
    refine W.need (by decide) ?_
    refine W.need (by decide) ?_
    refine W.need (by simp only [T0, T1, T2, T3, T4, Q0, Q1, T7, T8]; exact rng _ (by omega)) ?_
    refine W.need (by simp only [T0, T1, T2, T3, T4, Q0, Q1, T7, T8]; exact rng _ (by omega)) ?_
    refine W.need (by decide) ?_
    refine W.need (by decide) ?_
    refine W.ite_f rfl ?_
    refine W.ite_t rfl ?_
    refine W.need (by decide) ?_
    refine W.ret (RetQ.all ⟨rfl, ?_⟩)
    show [Blk.var _] = [Blk.var [zC, dC u 1000000000000, dC u 100000000000, dC u 10000000000, dC u 1000000000, dC u 100000000, dC u 10000000, dC u 1000000, dC u 100000, dC u 10000, dC u 1000, dC u 100, dC u 10, dC u 1, zC, zC, zC, zC, zC, zC, zC, zC, zC, zC]]
    simp only [T0, T1, T2, T3, T4, Q0, Q1, T7, T8]
    refine congrArg (fun l => [Blk.var l]) (congrArg (List.cons zC) ?_)
    refine cons_eq (by
        have hv : u / 1000000000000 % 10 = ((u / 100000000) / 10000) := by omega
        unfold dC
        rw [hv]) ?_
    refine cons_eq (by
    have hq : ((u / 100000000) % 10000 / 100) < 100 := by omega
    have hv : u / 100000000000 % 10 = ((u / 100000000) % 10000 / 100) / 10 := by omega
    unfold dC
    rw [hv]
    refine congrArg (fun n : Nat => AV.d (.lit (.int .u8 (n : Int)))) ?_
    generalize ((u / 100000000) % 10000 / 100) = q at hq ⊢
    clear hv
    revert q
    decide +kernel) ?_
    refine cons_eq (by
    have hq : ((u / 100000000) % 10000 / 100) < 100 := by omega
    have hv : u / 10000000000 % 10 = ((u / 100000000) % 10000 / 100) % 10 := by omega
    unfold dC
    rw [hv]
    refine congrArg (fun n : Nat => AV.d (.lit (.int .u8 (n : Int)))) ?_
    generalize ((u / 100000000) % 10000 / 100) = q at hq ⊢
    clear hv
    revert q
    decide +kernel) ?_
    refine cons_eq (by
    have hq : ((u / 100000000) % 10000 % 100) < 100 := by omega
    have hv : u / 1000000000 % 10 = ((u / 100000000) % 10000 % 100) / 10 := by omega
    unfold dC
    rw [hv]
    refine congrArg (fun n : Nat => AV.d (.lit (.int .u8 (n : Int)))) ?_
    generalize ((u / 100000000) % 10000 % 100) = q at hq ⊢
    clear hv
    revert q
    decide +kernel) ?_
    refine cons_eq (by
    have hq : ((u / 100000000) % 10000 % 100) < 100 := by omega
    have hv : u / 100000000 % 10 = ((u / 100000000) % 10000 % 100) % 10 := by omega
    unfold dC
    rw [hv]
    refine congrArg (fun n : Nat => AV.d (.lit (.int .u8 (n : Int)))) ?_
    generalize ((u / 100000000) % 10000 % 100) = q at hq ⊢
    clear hv
    revert q
    decide +kernel) ?_
    rfl
set_option maxHeartbeats 8000000 in
theorem ok105_14 (u : Nat) (hu : u < 100000000000000) : CallOk Tryz.prog 105 [.win 0 1 14, .d (uI u)] [.var [zC, zC, zC, zC, zC, zC, zC, zC, zC, zC, zC, zC, zC, zC, zC, zC, zC, zC, zC, zC, zC, zC, zC, zC]] (fun v s => v = .tuple [] ∧ s = [.var [zC, dC u 10000000000000, dC u 1000000000000, dC u 100000000000, dC u 10000000000, dC u 1000000000, dC u 100000000, dC u 10000000, dC u 1000000, dC u 100000, dC u 10000, dC u 1000, dC u 100, dC u 10, dC u 1, zC, zC, zC, zC, zC, zC, zC, zC, zC]]) := by
  refine CallOk.of tysOk mixed od105 Tryz.func105 rfl rfl code105 ?_
  refine W.loop (fun k fr σ => (k = 1 ∧ fr = [(0, .win 0 1 14), (1, .d (uI ((u : Nat) : Int))), (4, .d (nI 14))] ∧ σ = [.var [zC, zC, zC, zC, zC, zC, zC, zC, zC, zC, zC, zC, zC, zC, zC, zC, zC, zC, zC, zC, zC, zC, zC, zC]]) ∨ (k = 0 ∧ fr = [(0, .win 0 1 14), (1, .d (uI ((u / 100000000 : Nat) : Int))), (4, .d (nI 6))] ∧ σ = [.var [zC, zC, zC, zC, zC, zC, zC, dC u 10000000, dC u 1000000, dC u 100000, dC u 10000, dC u 1000, dC u 100, dC u 10, dC u 1, zC, zC, zC, zC, zC, zC, zC, zC, zC]])) 1
    (Start.of [0, 1, 4] [] (by simp)) (.inl ⟨rfl, rfl, rfl⟩) ?_
  rintro k fr σ (⟨rfl, rfl, rfl⟩ | ⟨rfl, rfl, rfl⟩)
  · refine W.ite_t rfl ?_
    have E0 : IntKind.u32.wrap (Int.tmod ((u : Nat) : Int) 100000000) = ((u % 100000000 : Nat) : Int) := w32 (u % 100000000) (by omega)
    have E1 : IntKind.u32.wrap (Int.tdiv (((u % 100000000) : Nat) : Int) 10000) = (((u % 100000000) / 10000 : Nat) : Int) := w32 ((u % 100000000) / 10000) (by omega)
    have E2 : IntKind.u32.wrap (Int.tdiv (Int.tmod (((u % 100000000) : Nat) : Int) 10000) 100) = (((u % 100000000) % 10000 / 100 : Nat) : Int) := w32 ((u % 100000000) % 10000 / 100) (by omega)
    have E3 : IntKind.u32.wrap ((((u % 100000000) % 10000 / 100 : Nat) : Int) * 2) = (((u % 100000000) % 10000 / 100 * 2 : Nat) : Int) := w32 ((u % 100000000) % 10000 / 100 * 2) (by omega)
    have E4 : IntKind.u32.wrap (Int.tmod (Int.tmod (((u % 100000000) : Nat) : Int) 10000) 100 * 2) = (((u % 100000000) % 10000 % 100 * 2 : Nat) : Int) := w32 ((u % 100000000) % 10000 % 100 * 2) (by omega)
    have E5 : IntKind.u32.wrap (Int.tdiv (((u % 100000000) / 10000 : Nat) : Int) 100) = (((u % 100000000) / 10000 / 100 : Nat) : Int) := w32 ((u % 100000000) / 10000 / 100) (by omega)
    have E6 : IntKind.u32.wrap ((((u % 100000000) / 10000 / 100 : Nat) : Int) * 2) = (((u % 100000000) / 10000 / 100 * 2 : Nat) : Int) := w32 ((u % 100000000) / 10000 / 100 * 2) (by omega)
    have E7 : IntKind.u32.wrap (Int.tmod (((u % 100000000) / 10000 : Nat) : Int) 100 * 2) = (((u % 100000000) / 10000 % 100 * 2 : Nat) : Int) := w32 ((u % 100000000) / 10000 % 100 * 2) (by omega)
    have P0 : IntKind.u32.wrap ((((u % 100000000) % 10000 % 100 * 2 : Nat) : Int) + 1) = (((u % 100000000) % 10000 % 100 * 2 + 1 : Nat) : Int) := w32 ((u % 100000000) % 10000 % 100 * 2 + 1) (by omega)
    have P1 : IntKind.u32.wrap ((((u % 100000000) % 10000 / 100 * 2 : Nat) : Int) + 1) = (((u % 100000000) % 10000 / 100 * 2 + 1 : Nat) : Int) := w32 ((u % 100000000) % 10000 / 100 * 2 + 1) (by omega)
    have P2 : IntKind.u32.wrap ((((u % 100000000) / 10000 % 100 * 2 : Nat) : Int) + 1) = (((u % 100000000) / 10000 % 100 * 2 + 1 : Nat) : Int) := w32 ((u % 100000000) / 10000 % 100 * 2 + 1) (by omega)
    have P3 : IntKind.u32.wrap ((((u % 100000000) / 10000 / 100 * 2 : Nat) : Int) + 1) = (((u % 100000000) / 10000 / 100 * 2 + 1 : Nat) : Int) := w32 ((u % 100000000) / 10000 / 100 * 2 + 1) (by omega)
    have F0 : IntKind.u64.wrap (Int.tdiv ((u : Nat) : Int) 100000000) = ((u / 100000000 : Nat) : Int) := (w64u (u / 100000000) (by omega)).trans (by omega)
    iterate 8 refine W.need (by decide) ?_
    refine W.need (by simp only [E0, E1, E2, E3, E4, E5, E6, E7, P0, P1, P2, P3]; exact rng _ (by omega)) ?_
    refine W.need (by simp only [E0, E1, E2, E3, E4, E5, E6, E7, P0, P1, P2, P3]; exact rng _ (by omega)) ?_
    refine W.need (by decide) ?_
    refine W.need (by decide) ?_
    refine W.need (by simp only [E0, E1, E2, E3, E4, E5, E6, E7, P0, P1, P2, P3]; exact rng _ (by omega)) ?_
    refine W.need (by simp only [E0, E1, E2, E3, E4, E5, E6, E7, P0, P1, P2, P3]; exact rng _ (by omega)) ?_
    refine W.need (by decide) ?_
    refine W.need (by decide) ?_
    refine W.need (by simp only [E0, E1, E2, E3, E4, E5, E6, E7, P0, P1, P2, P3]; exact rng _ (by omega)) ?_
    refine W.need (by simp only [E0, E1, E2, E3, E4, E5, E6, E7, P0, P1, P2, P3]; exact rng _ (by omega)) ?_
    refine W.need (by decide) ?_
    refine W.need (by decide) ?_
    refine W.need (by simp only [E0, E1, E2, E3, E4, E5, E6, E7, P0, P1, P2, P3]; exact rng _ (by omega)) ?_
    refine W.need (by simp only [E0, E1, E2, E3, E4, E5, E6, E7, P0, P1, P2, P3]; exact rng _ (by omega)) ?_
    refine W.need (by decide) ?_
    refine W.need (by decide) ?_
    refine W.ret ⟨_, _, _, ?_, Trim.of [0, 1, 4] [0] (by decide) (by simp) kp1, .inr (⟨rfl, ?_, ?_⟩)⟩
    · decide
    · rw [← F0]; rfl
    · show [Blk.var _] = [Blk.var [zC, zC, zC, zC, zC, zC, zC, dC u 10000000, dC u 1000000, dC u 100000, dC u 10000, dC u 1000, dC u 100, dC u 10, dC u 1, zC, zC, zC, zC, zC, zC, zC, zC, zC]]
      simp only [E0, E1, E2, E3, E4, E5, E6, E7, P0, P1, P2, P3]
      refine congrArg (fun l => [Blk.var l]) (congrArg (List.cons zC) ?_)
      refine congrArg (List.cons zC) ?_
      refine congrArg (List.cons zC) ?_
      refine congrArg (List.cons zC) ?_
      refine congrArg (List.cons zC) ?_
      refine congrArg (List.cons zC) ?_
      refine congrArg (List.cons zC) ?_
      refine cons_eq (by
    have hq : ((u % 100000000) / 10000 / 100) < 100 := by omega
    have hv : u / 10000000 % 10 = ((u % 100000000) / 10000 / 100) / 10 := by omega
    unfold dC
    rw [hv]
    refine congrArg (fun n : Nat => AV.d (.lit (.int .u8 (n : Int)))) ?_
    generalize ((u % 100000000) / 10000 / 100) = q at hq ⊢
    clear hv
    revert q
    decide +kernel) ?_
      refine cons_eq (by
    have hq : ((u % 100000000) / 10000 / 100) < 100 := by omega
    have hv : u / 1000000 % 10 = ((u % 100000000) / 10000 / 100) % 10 := by omega
    unfold dC
    rw [hv]
    refine congrArg (fun n : Nat => AV.d (.lit (.int .u8 (n : Int)))) ?_
    generalize ((u % 100000000) / 10000 / 100) = q at hq ⊢
    clear hv
    revert q
    decide +kernel) ?_
      refine cons_eq (by
    have hq : ((u % 100000000) / 10000 % 100) < 100 := by omega
    have hv : u / 100000 % 10 = ((u % 100000000) / 10000 % 100) / 10 := by omega
    unfold dC
    rw [hv]
    refine congrArg (fun n : Nat => AV.d (.lit (.int .u8 (n : Int)))) ?_
    generalize ((u % 100000000) / 10000 % 100) = q at hq ⊢
    clear hv
    revert q
    decide +kernel) ?_
      refine cons_eq (by
    have hq : ((u % 100000000) / 10000 % 100) < 100 := by omega
    have hv : u / 10000 % 10 = ((u % 100000000) / 10000 % 100) % 10 := by omega
    unfold dC
    rw [hv]
    refine congrArg (fun n : Nat => AV.d (.lit (.int .u8 (n : Int)))) ?_
    generalize ((u % 100000000) / 10000 % 100) = q at hq ⊢
    clear hv
    revert q
    decide +kernel) ?_
      refine cons_eq (by
    have hq : ((u % 100000000) % 10000 / 100) < 100 := by omega
    have hv : u / 1000 % 10 = ((u % 100000000) % 10000 / 100) / 10 := by omega
    unfold dC
    rw [hv]
    refine congrArg (fun n : Nat => AV.d (.lit (.int .u8 (n : Int)))) ?_
    generalize ((u % 100000000) % 10000 / 100) = q at hq ⊢
    clear hv
    revert q
    decide +kernel) ?_
      refine cons_eq (by
    have hq : ((u % 100000000) % 10000 / 100) < 100 := by omega
    have hv : u / 100 % 10 = ((u % 100000000) % 10000 / 100) % 10 := by omega
    unfold dC
    rw [hv]
    refine congrArg (fun n : Nat => AV.d (.lit (.int .u8 (n : Int)))) ?_
    generalize ((u % 100000000) % 10000 / 100) = q at hq ⊢
    clear hv
    revert q
    decide +kernel) ?_
      refine cons_eq (by
    have hq : ((u % 100000000) % 10000 % 100) < 100 := by omega
    have hv : u / 10 % 10 = ((u % 100000000) % 10000 % 100) / 10 := by omega
    unfold dC
    rw [hv]
    refine congrArg (fun n : Nat => AV.d (.lit (.int .u8 (n : Int)))) ?_
    generalize ((u % 100000000) % 10000 % 100) = q at hq ⊢
    clear hv
    revert q
    decide +kernel) ?_
      refine cons_eq (by
    have hq : ((u % 100000000) % 10000 % 100) < 100 := by omega
    have hv : u / 1 % 10 = ((u % 100000000) % 10000 % 100) % 10 := by omega
    unfold dC
    rw [hv]
    refine congrArg (fun n : Nat => AV.d (.lit (.int .u8 (n : Int)))) ?_
    generalize ((u % 100000000) % 10000 % 100) = q at hq ⊢
    clear hv
    revert q
    decide +kernel) ?_
      rfl
  · refine W.ite_f rfl ?_
    refine W.ret ?_
    have T0 : IntKind.u32.wrap (((u / 100000000) : Nat) : Int) = (((u / 100000000) : Nat) : Int) := w32 ((u / 100000000)) (by omega)
    have T1 : IntKind.u32.wrap (Int.tdiv (((u / 100000000) : Nat) : Int) 10000) = (((u / 100000000) / 10000 : Nat) : Int) := w32 ((u / 100000000) / 10000) (by omega)
    have T2 : IntKind.u32.wrap (Int.tdiv (Int.tmod (((u / 100000000) : Nat) : Int) 10000) 100) = (((u / 100000000) % 10000 / 100 : Nat) : Int) := w32 ((u / 100000000) % 10000 / 100) (by omega)
    have T3 : IntKind.u32.wrap ((((u / 100000000) % 10000 / 100 : Nat) : Int) * 2) = (((u / 100000000) % 10000 / 100 * 2 : Nat) : Int) := w32 ((u / 100000000) % 10000 / 100 * 2) (by omega)
    have T4 : IntKind.u32.wrap (Int.tmod (Int.tmod (((u / 100000000) : Nat) : Int) 10000) 100 * 2) = (((u / 100000000) % 10000 % 100 * 2 : Nat) : Int) := w32 ((u / 100000000) % 10000 % 100 * 2) (by omega)
    have Q0 : IntKind.u32.wrap ((((u / 100000000) % 10000 % 100 * 2 : Nat) : Int) + 1) = (((u / 100000000) % 10000 % 100 * 2 + 1 : Nat) : Int) := w32 ((u / 100000000) % 10000 % 100 * 2 + 1) (by omega)
    have Q1 : IntKind.u32.wrap ((((u / 100000000) % 10000 / 100 * 2 : Nat) : Int) + 1) = (((u / 100000000) % 10000 / 100 * 2 + 1 : Nat) : Int) := w32 ((u / 100000000) % 10000 / 100 * 2 + 1) (by omega)
    have T5 : IntKind.u32.wrap (Int.tmod ((((u / 100000000) / 10000) : Nat) : Int) 100 * 2) = ((((u / 100000000) / 10000) % 100 * 2 : Nat) : Int) := w32 (((u / 100000000) / 10000) % 100 * 2) (by omega)
    have T6 : IntKind.u32.wrap (Int.tdiv ((((u / 100000000) / 10000) : Nat) : Int) 100) = ((((u / 100000000) / 10000) / 100 : Nat) : Int) := w32 (((u / 100000000) / 10000) / 100) (by omega)
    have Q2 : IntKind.u32.wrap (((((u / 100000000) / 10000) % 100 * 2 : Nat) : Int) + 1) = ((((u / 100000000) / 10000) % 100 * 2 + 1 : Nat) : Int) := w32 (((u / 100000000) / 10000) % 100 * 2 + 1) (by omega)
    refine W.ite_t rfl ?_
    iterate 4 refine W.need (by decide) ?_
    refine W.need (by simp only [T0, T1, T2, T3, T4, Q0, Q1, T5, T6, Q2]; exact rng _ (by omega)) ?_
    refine W.need (by simp only [T0, T1, T2, T3, T4, Q0, Q1, T5, T6, Q2]; exact rng _ (by omega)) ?_
    refine W.need (by decide) ?_
    refine W.need (by decide) ?_
    refine W.need (by simp only [T0, T1, T2, T3, T4, Q0, Q1, T5, T6, Q2]; exact rng _ (by omega)) ?_
    refine W.need (by simp only [T0, T1, T2, T3, T4, Q0, Q1, T5, T6, Q2]; exact rng _ (by omega)) ?_
    refine W.need (by decide) ?_
    refine W.need (by decide) ?_
    refine W.ite_t rfl ?_
    iterate 2 refine W.need (by decide) ?_
    refine W.need (by simp only [T0, T1, T2, T3, T4, Q0, Q1, T5, T6, Q2]; exact rng _ (by omega)) ?_
    refine W.need (by simp only [T0, T1, T2, T3, T4, Q0, Q1, T5, T6, Q2]; exact rng _ (by omega)) ?_
    refine W.need (by decide) ?_
    refine W.need (by decide) ?_
    refine W.ite_f rfl ?_
    refine W.ret (RetQ.all ⟨rfl, ?_⟩)
    show [Blk.var _] = [Blk.var [zC, dC u 10000000000000, dC u 1000000000000, dC u 100000000000, dC u 10000000000, dC u 1000000000, dC u 100000000, dC u 10000000, dC u 1000000, dC u 100000, dC u 10000, dC u 1000, dC u 100, dC u 10, dC u 1, zC, zC, zC, zC, zC, zC, zC, zC, zC]]
    simp only [T0, T1, T2, T3, T4, Q0, Q1, T5, T6, Q2]
    refine congrArg (fun l => [Blk.var l]) (congrArg (List.cons zC) ?_)
    refine cons_eq (by
    have hq : (((u / 100000000) / 10000) % 100) < 100 := by omega
    have hv : u / 10000000000000 % 10 = (((u / 100000000) / 10000) % 100) / 10 := by omega
    unfold dC
    rw [hv]
    refine congrArg (fun n : Nat => AV.d (.lit (.int .u8 (n : Int)))) ?_
    generalize (((u / 100000000) / 10000) % 100) = q at hq ⊢
    clear hv
    revert q
    decide +kernel) ?_
    refine cons_eq (by
    have hq : (((u / 100000000) / 10000) % 100) < 100 := by omega
    have hv : u / 1000000000000 % 10 = (((u / 100000000) / 10000) % 100) % 10 := by omega
    unfold dC
    rw [hv]
    refine congrArg (fun n : Nat => AV.d (.lit (.int .u8 (n : Int)))) ?_
    generalize (((u / 100000000) / 10000) % 100) = q at hq ⊢
    clear hv
    revert q
    decide +kernel) ?_
    refine cons_eq (by
    have hq : ((u / 100000000) % 10000 / 100) < 100 := by omega
    have hv : u / 100000000000 % 10 = ((u / 100000000) % 10000 / 100) / 10 := by omega
    unfold dC
    rw [hv]
    refine congrArg (fun n : Nat => AV.d (.lit (.int .u8 (n : Int)))) ?_
    generalize ((u / 100000000) % 10000 / 100) = q at hq ⊢
    clear hv
    revert q
    decide +kernel) ?_
    refine cons_eq (by
    have hq : ((u / 100000000) % 10000 / 100) < 100 := by omega
    have hv : u / 10000000000 % 10 = ((u / 100000000) % 10000 / 100) % 10 := by omega
    unfold dC
    rw [hv]
    refine congrArg (fun n : Nat => AV.d (.lit (.int .u8 (n : Int)))) ?_
    generalize ((u / 100000000) % 10000 / 100) = q at hq ⊢
    clear hv
    revert q
    decide +kernel) ?_
    refine cons_eq (by
    have hq : ((u / 100000000) % 10000 % 100) < 100 := by omega
    have hv : u / 1000000000 % 10 = ((u / 100000000) % 10000 % 100) / 10 := by omega
    unfold dC
    rw [hv]
    refine congrArg (fun n : Nat => AV.d (.lit (.int .u8 (n : Int)))) ?_
    generalize ((u / 100000000) % 10000 % 100) = q at hq ⊢
    clear hv
    revert q
    decide +kernel) ?_
    refine cons_eq (by
    have hq : ((u / 100000000) % 10000 % 100) < 100 := by omega
    have hv : u / 100000000 % 10 = ((u / 100000000) % 10000 % 100) % 10 := by omega
    unfold dC
    rw [hv]
    refine congrArg (fun n : Nat => AV.d (.lit (.int .u8 (n : Int)))) ?_
    generalize ((u / 100000000) % 10000 % 100) = q at hq ⊢
    clear hv
    revert q
    decide +kernel) ?_
    rfl
set_option maxHeartbeats 8000000 in
theorem ok105_15 (u : Nat) (hu : u < 1000000000000000) : CallOk Tryz.prog 105 [.win 0 1 15, .d (uI u)] [.var [zC, zC, zC, zC, zC, zC, zC, zC, zC, zC, zC, zC, zC, zC, zC, zC, zC, zC, zC, zC, zC, zC, zC, zC]] (fun v s => v = .tuple [] ∧ s = [.var [zC, dC u 100000000000000, dC u 10000000000000, dC u 1000000000000, dC u 100000000000, dC u 10000000000, dC u 1000000000, dC u 100000000, dC u 10000000, dC u 1000000, dC u 100000, dC u 10000, dC u 1000, dC u 100, dC u 10, dC u 1, zC, zC, zC, zC, zC, zC, zC, zC]]) := by
  refine CallOk.of tysOk mixed od105 Tryz.func105 rfl rfl code105 ?_
  refine W.loop (fun k fr σ => (k = 1 ∧ fr = [(0, .win 0 1 15), (1, .d (uI ((u : Nat) : Int))), (4, .d (nI 15))] ∧ σ = [.var [zC, zC, zC, zC, zC, zC, zC, zC, zC, zC, zC, zC, zC, zC, zC, zC, zC, zC, zC, zC, zC, zC, zC, zC]]) ∨ (k = 0 ∧ fr = [(0, .win 0 1 15), (1, .d (uI ((u / 100000000 : Nat) : Int))), (4, .d (nI 7))] ∧ σ = [.var [zC, zC, zC, zC, zC, zC, zC, zC, dC u 10000000, dC u 1000000, dC u 100000, dC u 10000, dC u 1000, dC u 100, dC u 10, dC u 1, zC, zC, zC, zC, zC, zC, zC, zC]])) 1
    (Start.of [0, 1, 4] [] (by simp)) (.inl ⟨rfl, rfl, rfl⟩) ?_
  rintro k fr σ (⟨rfl, rfl, rfl⟩ | ⟨rfl, rfl, rfl⟩)
  · refine W.ite_t rfl ?_
    have E0 : IntKind.u32.wrap (Int.tmod ((u : Nat) : Int) 100000000) = ((u % 100000000 : Nat) : Int) := w32 (u % 100000000) (by omega)
    have E1 : IntKind.u32.wrap (Int.tdiv (((u % 100000000) : Nat) : Int) 10000) = (((u % 100000000) / 10000 : Nat) : Int) := w32 ((u % 100000000) / 10000) (by omega)
    have E2 : IntKind.u32.wrap (Int.tdiv (Int.tmod (((u % 100000000) : Nat) : Int) 10000) 100) = (((u % 100000000) % 10000 / 100 : Nat) : Int) := w32 ((u % 100000000) % 10000 / 100) (by omega)
    have E3 : IntKind.u32.wrap ((((u % 100000000) % 10000 / 100 : Nat) : Int) * 2) = (((u % 100000000) % 10000 / 100 * 2 : Nat) : Int) := w32 ((u % 100000000) % 10000 / 100 * 2) (by omega)
    have E4 : IntKind.u32.wrap (Int.tmod (Int.tmod (((u % 100000000) : Nat) : Int) 10000) 100 * 2) = (((u % 100000000) % 10000 % 100 * 2 : Nat) : Int) := w32 ((u % 100000000) % 10000 % 100 * 2) (by omega)
    have E5 : IntKind.u32.wrap (Int.tdiv (((u % 100000000) / 10000 : Nat) : Int) 100) = (((u % 100000000) / 10000 / 100 : Nat) : Int) := w32 ((u % 100000000) / 10000 / 100) (by omega)
    have E6 : IntKind.u32.wrap ((((u % 100000000) / 10000 / 100 : Nat) : Int) * 2) = (((u % 100000000) / 10000 / 100 * 2 : Nat) : Int) := w32 ((u % 100000000) / 10000 / 100 * 2) (by omega)
    have E7 : IntKind.u32.wrap (Int.tmod (((u % 100000000) / 10000 : Nat) : Int) 100 * 2) = (((u % 100000000) / 10000 % 100 * 2 : Nat) : Int) := w32 ((u % 100000000) / 10000 % 100 * 2) (by omega)
    have P0 : IntKind.u32.wrap ((((u % 100000000) % 10000 % 100 * 2 : Nat) : Int) + 1) = (((u % 100000000) % 10000 % 100 * 2 + 1 : Nat) : Int) := w32 ((u % 100000000) % 10000 % 100 * 2 + 1) (by omega)
    have P1 : IntKind.u32.wrap ((((u % 100000000) % 10000 / 100 * 2 : Nat) : Int) + 1) = (((u % 100000000) % 10000 / 100 * 2 + 1 : Nat) : Int) := w32 ((u % 100000000) % 10000 / 100 * 2 + 1) (by omega)
    have P2 : IntKind.u32.wrap ((((u % 100000000) / 10000 % 100 * 2 : Nat) : Int) + 1) = (((u % 100000000) / 10000 % 100 * 2 + 1 : Nat) : Int) := w32 ((u % 100000000) / 10000 % 100 * 2 + 1) (by omega)
    have P3 : IntKind.u32.wrap ((((u % 100000000) / 10000 / 100 * 2 : Nat) : Int) + 1) = (((u % 100000000) / 10000 / 100 * 2 + 1 : Nat) : Int) := w32 ((u % 100000000) / 10000 / 100 * 2 + 1) (by omega)
    have F0 : IntKind.u64.wrap (Int.tdiv ((u : Nat) : Int) 100000000) = ((u / 100000000 : Nat) : Int) := (w64u (u / 100000000) (by omega)).trans (by omega)
    iterate 8 refine W.need (by decide) ?_
    refine W.need (by simp only [E0, E1, E2, E3, E4, E5, E6, E7, P0, P1, P2, P3]; exact rng _ (by omega)) ?_
    refine W.need (by simp only [E0, E1, E2, E3, E4, E5, E6, E7, P0, P1, P2, P3]; exact rng _ (by omega)) ?_
    refine W.need (by decide) ?_
    refine W.need (by decide) ?_
    refine W.need (by simp only [E0, E1, E2, E3, E4, E5, E6, E7, P0, P1, P2, P3]; exact rng _ (by omega)) ?_
    refine W.need (by simp only [E0, E1, E2, E3, E4, E5, E6, E7, P0, P1, P2, P3]; exact rng _ (by omega)) ?_
    refine W.need (by decide) ?_
    refine W.need (by decide) ?_
    refine W.need (by simp only [E0, E1, E2, E3, E4, E5, E6, E7, P0, P1, P2, P3]; exact rng _ (by omega)) ?_
    refine W.need (by simp only [E0, E1, E2, E3, E4, E5, E6, E7, P0, P1, P2, P3]; exact rng _ (by omega)) ?_
    refine W.need (by decide) ?_
    refine W.need (by decide) ?_
    refine W.need (by simp only [E0, E1, E2, E3, E4, E5, E6, E7, P0, P1, P2, P3]; exact rng _ (by omega)) ?_
    refine W.need (by simp only [E0, E1, E2, E3, E4, E5, E6, E7, P0, P1, P2, P3]; exact rng _ (by omega)) ?_
    refine W.need (by decide) ?_
    refine W.need (by decide) ?_
    refine W.ret ⟨_, _, _, ?_, Trim.of [0, 1, 4] [0] (by decide) (by simp) kp1, .inr (⟨rfl, ?_, ?_⟩)⟩
    · decide
    · rw [← F0]; rfl
    · show [Blk.var _] = [Blk.var [zC, zC, zC, zC, zC, zC, zC, zC, dC u 10000000, dC u 1000000, dC u 100000, dC u 10000, dC u 1000, dC u 100, dC u 10, dC u 1, zC, zC, zC, zC, zC, zC, zC, zC]]
      simp only [E0, E1, E2, E3, E4, E5, E6, E7, P0, P1, P2, P3]
      refine congrArg (fun l => [Blk.var l]) (congrArg (List.cons zC) ?_)
      refine congrArg (List.cons zC) ?_
      refine congrArg (List.cons zC) ?_
      refine congrArg (List.cons zC) ?_
      refine congrArg (List.cons zC) ?_
      refine congrArg (List.cons zC) ?_
      refine congrArg (List.cons zC) ?_
      refine congrArg (List.cons zC) ?_
      refine cons_eq (by
    have hq : ((u % 100000000) / 10000 / 100) < 100 := by omega
    have hv : u / 10000000 % 10 = ((u % 100000000) / 10000 / 100) / 10 := by omega
    unfold dC
    rw [hv]
    refine congrArg (fun n : Nat => AV.d (.lit (.int .u8 (n : Int)))) ?_
    generalize ((u % 100000000) / 10000 / 100) = q at hq ⊢
    clear hv
    revert q
    decide +kernel) ?_
      refine cons_eq (by
    have hq : ((u % 100000000) / 10000 / 100) < 100 := by omega
    have hv : u / 1000000 % 10 = ((u % 100000000) / 10000 / 100) % 10 := by omega
    unfold dC
    rw [hv]
    refine congrArg (fun n : Nat => AV.d (.lit (.int .u8 (n : Int)))) ?_
    generalize ((u % 100000000) / 10000 / 100) = q at hq ⊢
    clear hv
    revert q
    decide +kernel) ?_
      refine cons_eq (by
    have hq : ((u % 100000000) / 10000 % 100) < 100 := by omega
    have hv : u / 100000 % 10 = ((u % 100000000) / 10000 % 100) / 10 := by omega
    unfold dC
    rw [hv]
    refine congrArg (fun n : Nat => AV.d (.lit (.int .u8 (n : Int)))) ?_
    generalize ((u % 100000000) / 10000 % 100) = q at hq ⊢
    clear hv
    revert q
    decide +kernel) ?_
      refine cons_eq (by
    have hq : ((u % 100000000) / 10000 % 100) < 100 := by omega
    have hv : u / 10000 % 10 = ((u % 100000000) / 10000 % 100) % 10 := by omega
    unfold dC
    rw [hv]
    refine congrArg (fun n : Nat => AV.d (.lit (.int .u8 (n : Int)))) ?_
    generalize ((u % 100000000) / 10000 % 100) = q at hq ⊢
    clear hv
    revert q
    decide +kernel) ?_
      refine cons_eq (by
    have hq : ((u % 100000000) % 10000 / 100) < 100 := by omega
    have hv : u / 1000 % 10 = ((u % 100000000) % 10000 / 100) / 10 := by omega
    unfold dC
    rw [hv]
    refine congrArg (fun n : Nat => AV.d (.lit (.int .u8 (n : Int)))) ?_
    generalize ((u % 100000000) % 10000 / 100) = q at hq ⊢
    clear hv
    revert q
    decide +kernel) ?_
      refine cons_eq (by
    have hq : ((u % 100000000) % 10000 / 100) < 100 := by omega
    have hv : u / 100 % 10 = ((u % 100000000) % 10000 / 100) % 10 := by omega
    unfold dC
    rw [hv]
    refine congrArg (fun n : Nat => AV.d (.lit (.int .u8 (n : Int)))) ?_
    generalize ((u % 100000000) % 10000 / 100) = q at hq ⊢
    clear hv
    revert q
    decide +kernel) ?_
      refine cons_eq (by
    have hq : ((u % 100000000) % 10000 % 100) < 100 := by omega
    have hv : u / 10 % 10 = ((u % 100000000) % 10000 % 100) / 10 := by omega
    unfold dC
    rw [hv]
    refine congrArg (fun n : Nat => AV.d (.lit (.int .u8 (n : Int)))) ?_
    generalize ((u % 100000000) % 10000 % 100) = q at hq ⊢
    clear hv
    revert q
    decide +kernel) ?_
      refine cons_eq (by
    have hq : ((u % 100000000) % 10000 % 100) < 100 := by omega
    have hv : u / 1 % 10 = ((u % 100000000) % 10000 % 100) % 10 := by omega
    unfold dC
    rw [hv]
    refine congrArg (fun n : Nat => AV.d (.lit (.int .u8 (n : Int)))) ?_
    generalize ((u % 100000000) % 10000 % 100) = q at hq ⊢
    clear hv
    revert q
    decide +kernel) ?_
      rfl
  · refine W.ite_f rfl ?_
    refine W.ret ?_
    have T0 : IntKind.u32.wrap (((u / 100000000) : Nat) : Int) = (((u / 100000000) : Nat) : Int) := w32 ((u / 100000000)) (by omega)
    have T1 : IntKind.u32.wrap (Int.tdiv (((u / 100000000) : Nat) : Int) 10000) = (((u / 100000000) / 10000 : Nat) : Int) := w32 ((u / 100000000) / 10000) (by omega)
    have T2 : IntKind.u32.wrap (Int.tdiv (Int.tmod (((u / 100000000) : Nat) : Int) 10000) 100) = (((u / 100000000) % 10000 / 100 : Nat) : Int) := w32 ((u / 100000000) % 10000 / 100) (by omega)
    have T3 : IntKind.u32.wrap ((((u / 100000000) % 10000 / 100 : Nat) : Int) * 2) = (((u / 100000000) % 10000 / 100 * 2 : Nat) : Int) := w32 ((u / 100000000) % 10000 / 100 * 2) (by omega)
    have T4 : IntKind.u32.wrap (Int.tmod (Int.tmod (((u / 100000000) : Nat) : Int) 10000) 100 * 2) = (((u / 100000000) % 10000 % 100 * 2 : Nat) : Int) := w32 ((u / 100000000) % 10000 % 100 * 2) (by omega)
    have Q0 : IntKind.u32.wrap ((((u / 100000000) % 10000 % 100 * 2 : Nat) : Int) + 1) = (((u / 100000000) % 10000 % 100 * 2 + 1 : Nat) : Int) := w32 ((u / 100000000) % 10000 % 100 * 2 + 1) (by omega)
    have Q1 : IntKind.u32.wrap ((((u / 100000000) % 10000 / 100 * 2 : Nat) : Int) + 1) = (((u / 100000000) % 10000 / 100 * 2 + 1 : Nat) : Int) := w32 ((u / 100000000) % 10000 / 100 * 2 + 1) (by omega)
    have T5 : IntKind.u32.wrap (Int.tmod ((((u / 100000000) / 10000) : Nat) : Int) 100 * 2) = ((((u / 100000000) / 10000) % 100 * 2 : Nat) : Int) := w32 (((u / 100000000) / 10000) % 100 * 2) (by omega)
    have T6 : IntKind.u32.wrap (Int.tdiv ((((u / 100000000) / 10000) : Nat) : Int) 100) = ((((u / 100000000) / 10000) / 100 : Nat) : Int) := w32 (((u / 100000000) / 10000) / 100) (by omega)
    have Q2 : IntKind.u32.wrap (((((u / 100000000) / 10000) % 100 * 2 : Nat) : Int) + 1) = ((((u / 100000000) / 10000) % 100 * 2 + 1 : Nat) : Int) := w32 (((u / 100000000) / 10000) % 100 * 2 + 1) (by omega)
    have T7 : IntKind.u32.wrap (48 + (((((u / 100000000) / 10000) / 100) : Nat) : Int)) = ((48 + (((u / 100000000) / 10000) / 100) : Nat) : Int) := w32 (48 + (((u / 100000000) / 10000) / 100)) (by omega)
    have T8 : IntKind.u8.wrap ((48 + (((u / 100000000) / 10000) / 100) : Nat) : Int) = ((48 + (((u / 100000000) / 10000) / 100) : Nat) : Int) := w8 _ (by omega)
    refine W.ite_t rfl ?_
    iterate 4 refine W.need (by decide) ?_
    refine W.need (by simp only [T0, T1, T2, T3, T4, Q0, Q1, T5, T6, Q2, T7, T8]; exact rng _ (by omega)) ?_
    refine W.need (by simp only [T0, T1, T2, T3, T4, Q0, Q1, T5, T6, Q2, T7, T8]; exact rng _ (by omega)) ?_
    refine W.need (by decide) ?_
    refine W.need (by decide) ?_
    refine W.need (by simp only [T0, T1, T2, T3, T4, Q0, Q1, T5, T6, Q2, T7, T8]; exact rng _ (by omega)) ?_
    refine W.need (by simp only [T0, T1, T2, T3, T4, Q0, Q1, T5, T6, Q2, T7, T8]; exact rng _ (by omega)) ?_
    refine W.need (by decide) ?_
    refine W.need (by decide) ?_
    refine W.ite_t rfl ?_
    iterate 2 refine W.need (by decide) ?_
    refine W.need (by simp only [T0, T1, T2, T3, T4, Q0, Q1, T5, T6, Q2, T7, T8]; exact rng _ (by omega)) ?_
    refine W.need (by simp only [T0, T1, T2, T3, T4, Q0, Q1, T5, T6, Q2, T7, T8]; exact rng _ (by omega)) ?_
    refine W.need (by decide) ?_
    refine W.need (by decide) ?_
    refine W.ite_t rfl ?_
    refine W.need (by decide) ?_
    refine W.ret (RetQ.all ⟨rfl, ?_⟩)
    show [Blk.var _] = [Blk.var [zC, dC u 100000000000000, dC u 10000000000000, dC u 1000000000000, dC u 100000000000, dC u 10000000000, dC u 1000000000, dC u 100000000, dC u 10000000, dC u 1000000, dC u 100000, dC u 10000, dC u 1000, dC u 100, dC u 10, dC u 1, zC, zC, zC, zC, zC, zC, zC, zC]]
    simp only [T0, T1, T2, T3, T4, Q0, Q1, T5, T6, Q2, T7, T8]
    refine congrArg (fun l => [Blk.var l]) (congrArg (List.cons zC) ?_)
    refine cons_eq (by
        have hv : u / 100000000000000 % 10 = (((u / 100000000) / 10000) / 100) := by omega
        unfold dC
        rw [hv]) ?_
    refine cons_eq (by
    have hq : (((u / 100000000) / 10000) % 100) < 100 := by omega
    have hv : u / 10000000000000 % 10 = (((u / 100000000) / 10000) % 100) / 10 := by omega
    unfold dC
    rw [hv]
    refine congrArg (fun n : Nat => AV.d (.lit (.int .u8 (n : Int)))) ?_
    generalize (((u / 100000000) / 10000) % 100) = q at hq ⊢
    clear hv
    revert q
    decide +kernel) ?_
    refine cons_eq (by
    have hq : (((u / 100000000) / 10000) % 100) < 100 := by omega
    have hv : u / 1000000000000 % 10 = (((u / 100000000) / 10000) % 100) % 10 := by omega
    unfold dC
    rw [hv]
    refine congrArg (fun n : Nat => AV.d (.lit (.int .u8 (n : Int)))) ?_
    generalize (((u / 100000000) / 10000) % 100) = q at hq ⊢
    clear hv
    revert q
    decide +kernel) ?_
    refine cons_eq (by
    have hq : ((u / 100000000) % 10000 / 100) < 100 := by omega
    have hv : u / 100000000000 % 10 = ((u / 100000000) % 10000 / 100) / 10 := by omega
    unfold dC
    rw [hv]
    refine congrArg (fun n : Nat => AV.d (.lit (.int .u8 (n : Int)))) ?_
    generalize ((u / 100000000) % 10000 / 100) = q at hq ⊢
    clear hv
    revert q
    decide +kernel) ?_
    refine cons_eq (by
    have hq : ((u / 100000000) % 10000 / 100) < 100 := by omega
    have hv : u / 10000000000 % 10 = ((u / 100000000) % 10000 / 100) % 10 := by omega
    unfold dC
    rw [hv]
    refine congrArg (fun n : Nat => AV.d (.lit (.int .u8 (n : Int)))) ?_
    generalize ((u / 100000000) % 10000 / 100) = q at hq ⊢
    clear hv
    revert q
    decide +kernel) ?_
    refine cons_eq (by
    have hq : ((u / 100000000) % 10000 % 100) < 100 := by omega
    have hv : u / 1000000000 % 10 = ((u / 100000000) % 10000 % 100) / 10 := by omega
    unfold dC
    rw [hv]
    refine congrArg (fun n : Nat => AV.d (.lit (.int .u8 (n : Int)))) ?_
    generalize ((u / 100000000) % 10000 % 100) = q at hq ⊢
    clear hv
    revert q
    decide +kernel) ?_
    refine cons_eq (by
    have hq : ((u / 100000000) % 10000 % 100) < 100 := by omega
    have hv : u / 100000000 % 10 = ((u / 100000000) % 10000 % 100) % 10 := by omega
    unfold dC
    rw [hv]
    refine congrArg (fun n : Nat => AV.d (.lit (.int .u8 (n : Int)))) ?_
    generalize ((u / 100000000) % 10000 % 100) = q at hq ⊢
    clear hv
    revert q
    decide +kernel) ?_
    rfl
set_option maxHeartbeats 8000000 in
theorem ok105_16 (u : Nat) (hu : u < 10000000000000000) : CallOk Tryz.prog 105 [.win 0 1 16, .d (uI u)] [.var [zC, zC, zC, zC, zC, zC, zC, zC, zC, zC, zC, zC, zC, zC, zC, zC, zC, zC, zC, zC, zC, zC, zC, zC]] (fun v s => v = .tuple [] ∧ s = [.var [zC, dC u 1000000000000000, dC u 100000000000000, dC u 10000000000000, dC u 1000000000000, dC u 100000000000, dC u 10000000000, dC u 1000000000, dC u 100000000, dC u 10000000, dC u 1000000, dC u 100000, dC u 10000, dC u 1000, dC u 100, dC u 10, dC u 1, zC, zC, zC, zC, zC, zC, zC]]) := by
  refine CallOk.of tysOk mixed od105 Tryz.func105 rfl rfl code105 ?_
  refine W.loop (fun k fr σ => (k = 2 ∧ fr = [(0, .win 0 1 16), (1, .d (uI ((u : Nat) : Int))), (4, .d (nI 16))] ∧ σ = [.var [zC, zC, zC, zC, zC, zC, zC, zC, zC, zC, zC, zC, zC, zC, zC, zC, zC, zC, zC, zC, zC, zC, zC, zC]]) ∨ (k = 1 ∧ fr = [(0, .win 0 1 16), (1, .d (uI ((u / 100000000 : Nat) : Int))), (4, .d (nI 8))] ∧ σ = [.var [zC, zC, zC, zC, zC, zC, zC, zC, zC, dC u 10000000, dC u 1000000, dC u 100000, dC u 10000, dC u 1000, dC u 100, dC u 10, dC u 1, zC, zC, zC, zC, zC, zC, zC]]) ∨ (k = 0 ∧ fr = [(0, .win 0 1 16), (1, .d (uI ((u / 10000000000000000 : Nat) : Int))), (4, .d (nI 0))] ∧ σ = [.var [zC, dC u 1000000000000000, dC u 100000000000000, dC u 10000000000000, dC u 1000000000000, dC u 100000000000, dC u 10000000000, dC u 1000000000, dC u 100000000, dC u 10000000, dC u 1000000, dC u 100000, dC u 10000, dC u 1000, dC u 100, dC u 10, dC u 1, zC, zC, zC, zC, zC, zC, zC]])) 2
    (Start.of [0, 1, 4] [] (by simp)) (.inl ⟨rfl, rfl, rfl⟩) ?_
  rintro k fr σ (⟨rfl, rfl, rfl⟩ | ⟨rfl, rfl, rfl⟩ | ⟨rfl, rfl, rfl⟩)
  · refine W.ite_t rfl ?_
    have E0 : IntKind.u32.wrap (Int.tmod ((u : Nat) : Int) 100000000) = ((u % 100000000 : Nat) : Int) := w32 (u % 100000000) (by omega)
    have E1 : IntKind.u32.wrap (Int.tdiv (((u % 100000000) : Nat) : Int) 10000) = (((u % 100000000) / 10000 : Nat) : Int) := w32 ((u % 100000000) / 10000) (by omega)
    have E2 : IntKind.u32.wrap (Int.tdiv (Int.tmod (((u % 100000000) : Nat) : Int) 10000) 100) = (((u % 100000000) % 10000 / 100 : Nat) : Int) := w32 ((u % 100000000) % 10000 / 100) (by omega)
    have E3 : IntKind.u32.wrap ((((u % 100000000) % 10000 / 100 : Nat) : Int) * 2) = (((u % 100000000) % 10000 / 100 * 2 : Nat) : Int) := w32 ((u % 100000000) % 10000 / 100 * 2) (by omega)
    have E4 : IntKind.u32.wrap (Int.tmod (Int.tmod (((u % 100000000) : Nat) : Int) 10000) 100 * 2) = (((u % 100000000) % 10000 % 100 * 2 : Nat) : Int) := w32 ((u % 100000000) % 10000 % 100 * 2) (by omega)
    have E5 : IntKind.u32.wrap (Int.tdiv (((u % 100000000) / 10000 : Nat) : Int) 100) = (((u % 100000000) / 10000 / 100 : Nat) : Int) := w32 ((u % 100000000) / 10000 / 100) (by omega)
    have E6 : IntKind.u32.wrap ((((u % 100000000) / 10000 / 100 : Nat) : Int) * 2) = (((u % 100000000) / 10000 / 100 * 2 : Nat) : Int) := w32 ((u % 100000000) / 10000 / 100 * 2) (by omega)
    have E7 : IntKind.u32.wrap (Int.tmod (((u % 100000000) / 10000 : Nat) : Int) 100 * 2) = (((u % 100000000) / 10000 % 100 * 2 : Nat) : Int) := w32 ((u % 100000000) / 10000 % 100 * 2) (by omega)
    have P0 : IntKind.u32.wrap ((((u % 100000000) % 10000 % 100 * 2 : Nat) : Int) + 1) = (((u % 100000000) % 10000 % 100 * 2 + 1 : Nat) : Int) := w32 ((u % 100000000) % 10000 % 100 * 2 + 1) (by omega)
    have P1 : IntKind.u32.wrap ((((u % 100000000) % 10000 / 100 * 2 : Nat) : Int) + 1) = (((u % 100000000) % 10000 / 100 * 2 + 1 : Nat) : Int) := w32 ((u % 100000000) % 10000 / 100 * 2 + 1) (by omega)
    have P2 : IntKind.u32.wrap ((((u % 100000000) / 10000 % 100 * 2 : Nat) : Int) + 1) = (((u % 100000000) / 10000 % 100 * 2 + 1 : Nat) : Int) := w32 ((u % 100000000) / 10000 % 100 * 2 + 1) (by omega)
    have P3 : IntKind.u32.wrap ((((u % 100000000) / 10000 / 100 * 2 : Nat) : Int) + 1) = (((u % 100000000) / 10000 / 100 * 2 + 1 : Nat) : Int) := w32 ((u % 100000000) / 10000 / 100 * 2 + 1) (by omega)
    have F0 : IntKind.u64.wrap (Int.tdiv ((u : Nat) : Int) 100000000) = ((u / 100000000 : Nat) : Int) := (w64u (u / 100000000) (by omega)).trans (by omega)
    iterate 8 refine W.need (by decide) ?_
    refine W.need (by simp only [E0, E1, E2, E3, E4, E5, E6, E7, P0, P1, P2, P3]; exact rng _ (by omega)) ?_
    refine W.need (by simp only [E0, E1, E2, E3, E4, E5, E6, E7, P0, P1, P2, P3]; exact rng _ (by omega)) ?_
    refine W.need (by decide) ?_
    refine W.need (by decide) ?_
    refine W.need (by simp only [E0, E1, E2, E3, E4, E5, E6, E7, P0, P1, P2, P3]; exact rng _ (by omega)) ?_
    refine W.need (by simp only [E0, E1, E2, E3, E4, E5, E6, E7, P0, P1, P2, P3]; exact rng _ (by omega)) ?_
    refine W.need (by decide) ?_
    refine W.need (by decide) ?_
    refine W.need (by simp only [E0, E1, E2, E3, E4, E5, E6, E7, P0, P1, P2, P3]; exact rng _ (by omega)) ?_
    refine W.need (by simp only [E0, E1, E2, E3, E4, E5, E6, E7, P0, P1, P2, P3]; exact rng _ (by omega)) ?_
    refine W.need (by decide) ?_
    refine W.need (by decide) ?_
    refine W.need (by simp only [E0, E1, E2, E3, E4, E5, E6, E7, P0, P1, P2, P3]; exact rng _ (by omega)) ?_
    refine W.need (by simp only [E0, E1, E2, E3, E4, E5, E6, E7, P0, P1, P2, P3]; exact rng _ (by omega)) ?_
    refine W.need (by decide) ?_
    refine W.need (by decide) ?_
    refine W.ret ⟨_, _, _, ?_, Trim.of [0, 1, 4] [0] (by decide) (by simp) kp1, .inr (.inl ⟨rfl, ?_, ?_⟩)⟩
    · decide
    · rw [← F0]; rfl
    · show [Blk.var _] = [Blk.var [zC, zC, zC, zC, zC, zC, zC, zC, zC, dC u 10000000, dC u 1000000, dC u 100000, dC u 10000, dC u 1000, dC u 100, dC u 10, dC u 1, zC, zC, zC, zC, zC, zC, zC]]
      simp only [E0, E1, E2, E3, E4, E5, E6, E7, P0, P1, P2, P3]
      refine congrArg (fun l => [Blk.var l]) (congrArg (List.cons zC) ?_)
      refine congrArg (List.cons zC) ?_
      refine congrArg (List.cons zC) ?_
      refine congrArg (List.cons zC) ?_
      refine congrArg (List.cons zC) ?_
      refine congrArg (List.cons zC) ?_
      refine congrArg (List.cons zC) ?_
      refine congrArg (List.cons zC) ?_
      refine congrArg (List.cons zC) ?_
      refine cons_eq (by
    have hq : ((u % 100000000) / 10000 / 100) < 100 := by omega
    have hv : u / 10000000 % 10 = ((u % 100000000) / 10000 / 100) / 10 := by omega
    unfold dC
    rw [hv]
    refine congrArg (fun n : Nat => AV.d (.lit (.int .u8 (n : Int)))) ?_
    generalize ((u % 100000000) / 10000 / 100) = q at hq ⊢
    clear hv
    revert q
    decide +kernel) ?_
      refine cons_eq (by
    have hq : ((u % 100000000) / 10000 / 100) < 100 := by omega
    have hv : u / 1000000 % 10 = ((u % 100000000) / 10000 / 100) % 10 := by omega
    unfold dC
    rw [hv]
    refine congrArg (fun n : Nat => AV.d (.lit (.int .u8 (n : Int)))) ?_
    generalize ((u % 100000000) / 10000 / 100) = q at hq ⊢
    clear hv
    revert q
    decide +kernel) ?_
      refine cons_eq (by
    have hq : ((u % 100000000) / 10000 % 100) < 100 := by omega
    have hv : u / 100000 % 10 = ((u % 100000000) / 10000 % 100) / 10 := by omega
    unfold dC
    rw [hv]
    refine congrArg (fun n : Nat => AV.d (.lit (.int .u8 (n : Int)))) ?_
    generalize ((u % 100000000) / 10000 % 100) = q at hq ⊢
    clear hv
    revert q
    decide +kernel) ?_
      refine cons_eq (by
    have hq : ((u % 100000000) / 10000 % 100) < 100 := by omega
    have hv : u / 10000 % 10 = ((u % 100000000) / 10000 % 100) % 10 := by omega
    unfold dC
    rw [hv]
    refine congrArg (fun n : Nat => AV.d (.lit (.int .u8 (n : Int)))) ?_
    generalize ((u % 100000000) / 10000 % 100) = q at hq ⊢
    clear hv
    revert q
    decide +kernel) ?_
      refine cons_eq (by
    have hq : ((u % 100000000) % 10000 / 100) < 100 := by omega
    have hv : u / 1000 % 10 = ((u % 100000000) % 10000 / 100) / 10 := by omega
    unfold dC
    rw [hv]
    refine congrArg (fun n : Nat => AV.d (.lit (.int .u8 (n : Int)))) ?_
    generalize ((u % 100000000) % 10000 / 100) = q at hq ⊢
    clear hv
    revert q
    decide +kernel) ?_
      refine cons_eq (by
    have hq : ((u % 100000000) % 10000 / 100) < 100 := by omega
    have hv : u / 100 % 10 = ((u % 100000000) % 10000 / 100) % 10 := by omega
    unfold dC
    rw [hv]
    refine congrArg (fun n : Nat => AV.d (.lit (.int .u8 (n : Int)))) ?_
    generalize ((u % 100000000) % 10000 / 100) = q at hq ⊢
    clear hv
    revert q
    decide +kernel) ?_
      refine cons_eq (by
    have hq : ((u % 100000000) % 10000 % 100) < 100 := by omega
    have hv : u / 10 % 10 = ((u % 100000000) % 10000 % 100) / 10 := by omega
    unfold dC
    rw [hv]
    refine congrArg (fun n : Nat => AV.d (.lit (.int .u8 (n : Int)))) ?_
    generalize ((u % 100000000) % 10000 % 100) = q at hq ⊢
    clear hv
    revert q
    decide +kernel) ?_
      refine cons_eq (by
    have hq : ((u % 100000000) % 10000 % 100) < 100 := by omega
    have hv : u / 1 % 10 = ((u % 100000000) % 10000 % 100) % 10 := by omega
    unfold dC
    rw [hv]
    refine congrArg (fun n : Nat => AV.d (.lit (.int .u8 (n : Int)))) ?_
    generalize ((u % 100000000) % 10000 % 100) = q at hq ⊢
    clear hv
    revert q
    decide +kernel) ?_
      rfl
  · refine W.ite_t rfl ?_
    have E0 : IntKind.u32.wrap (Int.tmod (((u / 100000000) : Nat) : Int) 100000000) = (((u / 100000000) % 100000000 : Nat) : Int) := w32 ((u / 100000000) % 100000000) (by omega)
    have E1 : IntKind.u32.wrap (Int.tdiv ((((u / 100000000) % 100000000) : Nat) : Int) 10000) = ((((u / 100000000) % 100000000) / 10000 : Nat) : Int) := w32 (((u / 100000000) % 100000000) / 10000) (by omega)
    have E2 : IntKind.u32.wrap (Int.tdiv (Int.tmod ((((u / 100000000) % 100000000) : Nat) : Int) 10000) 100) = ((((u / 100000000) % 100000000) % 10000 / 100 : Nat) : Int) := w32 (((u / 100000000) % 100000000) % 10000 / 100) (by omega)
    have E3 : IntKind.u32.wrap (((((u / 100000000) % 100000000) % 10000 / 100 : Nat) : Int) * 2) = ((((u / 100000000) % 100000000) % 10000 / 100 * 2 : Nat) : Int) := w32 (((u / 100000000) % 100000000) % 10000 / 100 * 2) (by omega)
    have E4 : IntKind.u32.wrap (Int.tmod (Int.tmod ((((u / 100000000) % 100000000) : Nat) : Int) 10000) 100 * 2) = ((((u / 100000000) % 100000000) % 10000 % 100 * 2 : Nat) : Int) := w32 (((u / 100000000) % 100000000) % 10000 % 100 * 2) (by omega)
    have E5 : IntKind.u32.wrap (Int.tdiv ((((u / 100000000) % 100000000) / 10000 : Nat) : Int) 100) = ((((u / 100000000) % 100000000) / 10000 / 100 : Nat) : Int) := w32 (((u / 100000000) % 100000000) / 10000 / 100) (by omega)
    have E6 : IntKind.u32.wrap (((((u / 100000000) % 100000000) / 10000 / 100 : Nat) : Int) * 2) = ((((u / 100000000) % 100000000) / 10000 / 100 * 2 : Nat) : Int) := w32 (((u / 100000000) % 100000000) / 10000 / 100 * 2) (by omega)
    have E7 : IntKind.u32.wrap (Int.tmod ((((u / 100000000) % 100000000) / 10000 : Nat) : Int) 100 * 2) = ((((u / 100000000) % 100000000) / 10000 % 100 * 2 : Nat) : Int) := w32 (((u / 100000000) % 100000000) / 10000 % 100 * 2) (by omega)
    have P0 : IntKind.u32.wrap (((((u / 100000000) % 100000000) % 10000 % 100 * 2 : Nat) : Int) + 1) = ((((u / 100000000) % 100000000) % 10000 % 100 * 2 + 1 : Nat) : Int) := w32 (((u / 100000000) % 100000000) % 10000 % 100 * 2 + 1) (by omega)
    have P1 : IntKind.u32.wrap (((((u / 100000000) % 100000000) % 10000 / 100 * 2 : Nat) : Int) + 1) = ((((u / 100000000) % 100000000) % 10000 / 100 * 2 + 1 : Nat) : Int) := w32 (((u / 100000000) % 100000000) % 10000 / 100 * 2 + 1) (by omega)
    have P2 : IntKind.u32.wrap (((((u / 100000000) % 100000000) / 10000 % 100 * 2 : Nat) : Int) + 1) = ((((u / 100000000) % 100000000) / 10000 % 100 * 2 + 1 : Nat) : Int) := w32 (((u / 100000000) % 100000000) / 10000 % 100 * 2 + 1) (by omega)
    have P3 : IntKind.u32.wrap (((((u / 100000000) % 100000000) / 10000 / 100 * 2 : Nat) : Int) + 1) = ((((u / 100000000) % 100000000) / 10000 / 100 * 2 + 1 : Nat) : Int) := w32 (((u / 100000000) % 100000000) / 10000 / 100 * 2 + 1) (by omega)
    have F0 : IntKind.u64.wrap (Int.tdiv (((u / 100000000) : Nat) : Int) 100000000) = ((u / 10000000000000000 : Nat) : Int) := (w64u ((u / 100000000) / 100000000) (by omega)).trans (by omega)
    iterate 8 refine W.need (by decide) ?_
    refine W.need (by simp only [E0, E1, E2, E3, E4, E5, E6, E7, P0, P1, P2, P3]; exact rng _ (by omega)) ?_
    refine W.need (by simp only [E0, E1, E2, E3, E4, E5, E6, E7, P0, P1, P2, P3]; exact rng _ (by omega)) ?_
    refine W.need (by decide) ?_
    refine W.need (by decide) ?_
    refine W.need (by simp only [E0, E1, E2, E3, E4, E5, E6, E7, P0, P1, P2, P3]; exact rng _ (by omega)) ?_
    refine W.need (by simp only [E0, E1, E2, E3, E4, E5, E6, E7, P0, P1, P2, P3]; exact rng _ (by omega)) ?_
    refine W.need (by decide) ?_
    refine W.need (by decide) ?_
    refine W.need (by simp only [E0, E1, E2, E3, E4, E5, E6, E7, P0, P1, P2, P3]; exact rng _ (by omega)) ?_
    refine W.need (by simp only [E0, E1, E2, E3, E4, E5, E6, E7, P0, P1, P2, P3]; exact rng _ (by omega)) ?_
    refine W.need (by decide) ?_
    refine W.need (by decide) ?_
    refine W.need (by simp only [E0, E1, E2, E3, E4, E5, E6, E7, P0, P1, P2, P3]; exact rng _ (by omega)) ?_
    refine W.need (by simp only [E0, E1, E2, E3, E4, E5, E6, E7, P0, P1, P2, P3]; exact rng _ (by omega)) ?_
    refine W.need (by decide) ?_
    refine W.need (by decide) ?_
    refine W.ret ⟨_, _, _, ?_, Trim.of [0, 1, 4] [0] (by decide) (by simp) kp1, .inr (.inr (⟨rfl, ?_, ?_⟩))⟩
    · decide
    · rw [← F0]; rfl
    · show [Blk.var _] = [Blk.var [zC, dC u 1000000000000000, dC u 100000000000000, dC u 10000000000000, dC u 1000000000000, dC u 100000000000, dC u 10000000000, dC u 1000000000, dC u 100000000, dC u 10000000, dC u 1000000, dC u 100000, dC u 10000, dC u 1000, dC u 100, dC u 10, dC u 1, zC, zC, zC, zC, zC, zC, zC]]
      simp only [E0, E1, E2, E3, E4, E5, E6, E7, P0, P1, P2, P3]
      refine congrArg (fun l => [Blk.var l]) (congrArg (List.cons zC) ?_)
      refine cons_eq (by
    have hq : (((u / 100000000) % 100000000) / 10000 / 100) < 100 := by omega
    have hv : u / 1000000000000000 % 10 = (((u / 100000000) % 100000000) / 10000 / 100) / 10 := by omega
    unfold dC
    rw [hv]
    refine congrArg (fun n : Nat => AV.d (.lit (.int .u8 (n : Int)))) ?_
    generalize (((u / 100000000) % 100000000) / 10000 / 100) = q at hq ⊢
    clear hv
    revert q
    decide +kernel) ?_
      refine cons_eq (by
    have hq : (((u / 100000000) % 100000000) / 10000 / 100) < 100 := by omega
    have hv : u / 100000000000000 % 10 = (((u / 100000000) % 100000000) / 10000 / 100) % 10 := by omega
    unfold dC
    rw [hv]
    refine congrArg (fun n : Nat => AV.d (.lit (.int .u8 (n : Int)))) ?_
    generalize (((u / 100000000) % 100000000) / 10000 / 100) = q at hq ⊢
    clear hv
    revert q
    decide +kernel) ?_
      refine cons_eq (by
    have hq : (((u / 100000000) % 100000000) / 10000 % 100) < 100 := by omega
    have hv : u / 10000000000000 % 10 = (((u / 100000000) % 100000000) / 10000 % 100) / 10 := by omega
    unfold dC
    rw [hv]
    refine congrArg (fun n : Nat => AV.d (.lit (.int .u8 (n : Int)))) ?_
    generalize (((u / 100000000) % 100000000) / 10000 % 100) = q at hq ⊢
    clear hv
    revert q
    decide +kernel) ?_
      refine cons_eq (by
    have hq : (((u / 100000000) % 100000000) / 10000 % 100) < 100 := by omega
    have hv : u / 1000000000000 % 10 = (((u / 100000000) % 100000000) / 10000 % 100) % 10 := by omega
    unfold dC
    rw [hv]
    refine congrArg (fun n : Nat => AV.d (.lit (.int .u8 (n : Int)))) ?_
    generalize (((u / 100000000) % 100000000) / 10000 % 100) = q at hq ⊢
    clear hv
    revert q
    decide +kernel) ?_
      refine cons_eq (by
    have hq : (((u / 100000000) % 100000000) % 10000 / 100) < 100 := by omega
    have hv : u / 100000000000 % 10 = (((u / 100000000) % 100000000) % 10000 / 100) / 10 := by omega
    unfold dC
    rw [hv]
    refine congrArg (fun n : Nat => AV.d (.lit (.int .u8 (n : Int)))) ?_
    generalize (((u / 100000000) % 100000000) % 10000 / 100) = q at hq ⊢
    clear hv
    revert q
    decide +kernel) ?_
      refine cons_eq (by
    have hq : (((u / 100000000) % 100000000) % 10000 / 100) < 100 := by omega
    have hv : u / 10000000000 % 10 = (((u / 100000000) % 100000000) % 10000 / 100) % 10 := by omega
    unfold dC
    rw [hv]
    refine congrArg (fun n : Nat => AV.d (.lit (.int .u8 (n : Int)))) ?_
    generalize (((u / 100000000) % 100000000) % 10000 / 100) = q at hq ⊢
    clear hv
    revert q
    decide +kernel) ?_
      refine cons_eq (by
    have hq : (((u / 100000000) % 100000000) % 10000 % 100) < 100 := by omega
    have hv : u / 1000000000 % 10 = (((u / 100000000) % 100000000) % 10000 % 100) / 10 := by omega
    unfold dC
    rw [hv]
    refine congrArg (fun n : Nat => AV.d (.lit (.int .u8 (n : Int)))) ?_
    generalize (((u / 100000000) % 100000000) % 10000 % 100) = q at hq ⊢
    clear hv
    revert q
    decide +kernel) ?_
      refine cons_eq (by
    have hq : (((u / 100000000) % 100000000) % 10000 % 100) < 100 := by omega
    have hv : u / 100000000 % 10 = (((u / 100000000) % 100000000) % 10000 % 100) % 10 := by omega
    unfold dC
    rw [hv]
    refine congrArg (fun n : Nat => AV.d (.lit (.int .u8 (n : Int)))) ?_
    generalize (((u / 100000000) % 100000000) % 10000 % 100) = q at hq ⊢
    clear hv
    revert q
    decide +kernel) ?_
      rfl
  · refine W.ite_f rfl ?_
    refine W.ret ?_
    have T0 : IntKind.u32.wrap (((u / 10000000000000000) : Nat) : Int) = (((u / 10000000000000000) : Nat) : Int) := w32 ((u / 10000000000000000)) (by omega)
    refine W.ite_f rfl ?_
    refine W.ite_f rfl ?_
    refine W.ite_f rfl ?_
    refine W.ret (RetQ.all ⟨rfl, ?_⟩)
    rfl
set_option maxHeartbeats 8000000 in
theorem ok105_17 (u : Nat) (hu : u < 100000000000000000) : CallOk Tryz.prog 105 [.win 0 1 17, .d (uI u)] [.var [zC, zC, zC, zC, zC, zC, zC, zC, zC, zC, zC, zC, zC, zC, zC, zC, zC, zC, zC, zC, zC, zC, zC, zC]] (fun v s => v = .tuple [] ∧ s = [.var [zC, dC u 10000000000000000, dC u 1000000000000000, dC u 100000000000000, dC u 10000000000000, dC u 1000000000000, dC u 100000000000, dC u 10000000000, dC u 1000000000, dC u 100000000, dC u 10000000, dC u 1000000, dC u 100000, dC u 10000, dC u 1000, dC u 100, dC u 10, dC u 1, zC, zC, zC, zC, zC, zC]]) := by
  refine CallOk.of tysOk mixed od105 Tryz.func105 rfl rfl code105 ?_
  refine W.loop (fun k fr σ => (k = 2 ∧ fr = [(0, .win 0 1 17), (1, .d (uI ((u : Nat) : Int))), (4, .d (nI 17))] ∧ σ = [.var [zC, zC, zC, zC, zC, zC, zC, zC, zC, zC, zC, zC, zC, zC, zC, zC, zC, zC, zC, zC, zC, zC, zC, zC]]) ∨ (k = 1 ∧ fr = [(0, .win 0 1 17), (1, .d (uI ((u / 100000000 : Nat) : Int))), (4, .d (nI 9))] ∧ σ = [.var [zC, zC, zC, zC, zC, zC, zC, zC, zC, zC, dC u 10000000, dC u 1000000, dC u 100000, dC u 10000, dC u 1000, dC u 100, dC u 10, dC u 1, zC, zC, zC, zC, zC, zC]]) ∨ (k = 0 ∧ fr = [(0, .win 0 1 17), (1, .d (uI ((u / 10000000000000000 : Nat) : Int))), (4, .d (nI 1))] ∧ σ = [.var [zC, zC, dC u 1000000000000000, dC u 100000000000000, dC u 10000000000000, dC u 1000000000000, dC u 100000000000, dC u 10000000000, dC u 1000000000, dC u 100000000, dC u 10000000, dC u 1000000, dC u 100000, dC u 10000, dC u 1000, dC u 100, dC u 10, dC u 1, zC, zC, zC, zC, zC, zC]])) 2
    (Start.of [0, 1, 4] [] (by simp)) (.inl ⟨rfl, rfl, rfl⟩) ?_
  rintro k fr σ (⟨rfl, rfl, rfl⟩ | ⟨rfl, rfl, rfl⟩ | ⟨rfl, rfl, rfl⟩)
  · refine W.ite_t rfl ?_
    have E0 : IntKind.u32.wrap (Int.tmod ((u : Nat) : Int) 100000000) = ((u % 100000000 : Nat) : Int) := w32 (u % 100000000) (by omega)
    have E1 : IntKind.u32.wrap (Int.tdiv (((u % 100000000) : Nat) : Int) 10000) = (((u % 100000000) / 10000 : Nat) : Int) := w32 ((u % 100000000) / 10000) (by omega)
    have E2 : IntKind.u32.wrap (Int.tdiv (Int.tmod (((u % 100000000) : Nat) : Int) 10000) 100) = (((u % 100000000) % 10000 / 100 : Nat) : Int) := w32 ((u % 100000000) % 10000 / 100) (by omega)
    have E3 : IntKind.u32.wrap ((((u % 100000000) % 10000 / 100 : Nat) : Int) * 2) = (((u % 100000000) % 10000 / 100 * 2 : Nat) : Int) := w32 ((u % 100000000) % 10000 / 100 * 2) (by omega)
    have E4 : IntKind.u32.wrap (Int.tmod (Int.tmod (((u % 100000000) : Nat) : Int) 10000) 100 * 2) = (((u % 100000000) % 10000 % 100 * 2 : Nat) : Int) := w32 ((u % 100000000) % 10000 % 100 * 2) (by omega)
    have E5 : IntKind.u32.wrap (Int.tdiv (((u % 100000000) / 10000 : Nat) : Int) 100) = (((u % 100000000) / 10000 / 100 : Nat) : Int) := w32 ((u % 100000000) / 10000 / 100) (by omega)
    have E6 : IntKind.u32.wrap ((((u % 100000000) / 10000 / 100 : Nat) : Int) * 2) = (((u % 100000000) / 10000 / 100 * 2 : Nat) : Int) := w32 ((u % 100000000) / 10000 / 100 * 2) (by omega)
    have E7 : IntKind.u32.wrap (Int.tmod (((u % 100000000) / 10000 : Nat) : Int) 100 * 2) = (((u % 100000000) / 10000 % 100 * 2 : Nat) : Int) := w32 ((u % 100000000) / 10000 % 100 * 2) (by omega)
    have P0 : IntKind.u32.wrap ((((u % 100000000) % 10000 % 100 * 2 : Nat) : Int) + 1) = (((u % 100000000) % 10000 % 100 * 2 + 1 : Nat) : Int) := w32 ((u % 100000000) % 10000 % 100 * 2 + 1) (by omega)
    have P1 : IntKind.u32.wrap ((((u % 100000000) % 10000 / 100 * 2 : Nat) : Int) + 1) = (((u % 100000000) % 10000 / 100 * 2 + 1 : Nat) : Int) := w32 ((u % 100000000) % 10000 / 100 * 2 + 1) (by omega)
    have P2 : IntKind.u32.wrap ((((u % 100000000) / 10000 % 100 * 2 : Nat) : Int) + 1) = (((u % 100000000) / 10000 % 100 * 2 + 1 : Nat) : Int) := w32 ((u % 100000000) / 10000 % 100 * 2 + 1) (by omega)
    have P3 : IntKind.u32.wrap ((((u % 100000000) / 10000 / 100 * 2 : Nat) : Int) + 1) = (((u % 100000000) / 10000 / 100 * 2 + 1 : Nat) : Int) := w32 ((u % 100000000) / 10000 / 100 * 2 + 1) (by omega)
    have F0 : IntKind.u64.wrap (Int.tdiv ((u : Nat) : Int) 100000000) = ((u / 100000000 : Nat) : Int) := (w64u (u / 100000000) (by omega)).trans (by omega)
    iterate 8 refine W.need (by decide) ?_
    refine W.need (by simp only [E0, E1, E2, E3, E4, E5, E6, E7, P0, P1, P2, P3]; exact rng _ (by omega)) ?_
    refine W.need (by simp only [E0, E1, E2, E3, E4, E5, E6, E7, P0, P1, P2, P3]; exact rng _ (by omega)) ?_
    refine W.need (by decide) ?_
    refine W.need (by decide) ?_
    refine W.need (by simp only [E0, E1, E2, E3, E4, E5, E6, E7, P0, P1, P2, P3]; exact rng _ (by omega)) ?_
    refine W.need (by simp only [E0, E1, E2, E3, E4, E5, E6, E7, P0, P1, P2, P3]; exact rng _ (by omega)) ?_
    refine W.need (by decide) ?_
    refine W.need (by decide) ?_
    refine W.need (by simp only [E0, E1, E2, E3, E4, E5, E6, E7, P0, P1, P2, P3]; exact rng _ (by omega)) ?_
    refine W.need (by simp only [E0, E1, E2, E3, E4, E5, E6, E7, P0, P1, P2, P3]; exact rng _ (by omega)) ?_
    refine W.need (by decide) ?_
    refine W.need (by decide) ?_
    refine W.need (by simp only [E0, E1, E2, E3, E4, E5, E6, E7, P0, P1, P2, P3]; exact rng _ (by omega)) ?_
    refine W.need (by simp only [E0, E1, E2, E3, E4, E5, E6, E7, P0, P1, P2, P3]; exact rng _ (by omega)) ?_
    refine W.need (by decide) ?_
    refine W.need (by decide) ?_
    refine W.ret ⟨_, _, _, ?_, Trim.of [0, 1, 4] [0] (by decide) (by simp) kp1, .inr (.inl ⟨rfl, ?_, ?_⟩)⟩
    · decide
    · rw [← F0]; rfl
    · show [Blk.var _] = [Blk.var [zC, zC, zC, zC, zC, zC, zC, zC, zC, zC, dC u 10000000, dC u 1000000, dC u 100000, dC u 10000, dC u 1000, dC u 100, dC u 10, dC u 1, zC, zC, zC, zC, zC, zC]]
      simp only [E0, E1, E2, E3, E4, E5, E6, E7, P0, P1, P2, P3]
      refine congrArg (fun l => [Blk.var l]) (congrArg (List.cons zC) ?_)
      refine congrArg (List.cons zC) ?_
      refine congrArg (List.cons zC) ?_
      refine congrArg (List.cons zC) ?_
      refine congrArg (List.cons zC) ?_
      refine congrArg (List.cons zC) ?_
      refine congrArg (List.cons zC) ?_
      refine congrArg (List.cons zC) ?_
      refine congrArg (List.cons zC) ?_
      refine congrArg (List.cons zC) ?_
      refine cons_eq (by
    have hq : ((u % 100000000) / 10000 / 100) < 100 := by omega
    have hv : u / 10000000 % 10 = ((u % 100000000) / 10000 / 100) / 10 := by omega
    unfold dC
    rw [hv]
    refine congrArg (fun n : Nat => AV.d (.lit (.int .u8 (n : Int)))) ?_
    generalize ((u % 100000000) / 10000 / 100) = q at hq ⊢
    clear hv
    revert q
    decide +kernel) ?_
      refine cons_eq (by
    have hq : ((u % 100000000) / 10000 / 100) < 100 := by omega
    have hv : u / 1000000 % 10 = ((u % 100000000) / 10000 / 100) % 10 := by omega
    unfold dC
    rw [hv]
    refine congrArg (fun n : Nat => AV.d (.lit (.int .u8 (n : Int)))) ?_
    generalize ((u % 100000000) / 10000 / 100) = q at hq ⊢
    clear hv
    revert q
    decide +kernel) ?_
      refine cons_eq (by
    have hq : ((u % 100000000) / 10000 % 100) < 100 := by omega
    have hv : u / 100000 % 10 = ((u % 100000000) / 10000 % 100) / 10 := by omega
    unfold dC
    rw [hv]
    refine congrArg (fun n : Nat => AV.d (.lit (.int .u8 (n : Int)))) ?_
    generalize ((u % 100000000) / 10000 % 100) = q at hq ⊢
    clear hv
    revert q
    decide +kernel) ?_
      refine cons_eq (by
    have hq : ((u % 100000000) / 10000 % 100) < 100 := by omega
    have hv : u / 10000 % 10 = ((u % 100000000) / 10000 % 100) % 10 := by omega
    unfold dC
    rw [hv]
    refine congrArg (fun n : Nat => AV.d (.lit (.int .u8 (n : Int)))) ?_
    generalize ((u % 100000000) / 10000 % 100) = q at hq ⊢
    clear hv
    revert q
    decide +kernel) ?_
      refine cons_eq (by
    have hq : ((u % 100000000) % 10000 / 100) < 100 := by omega
    have hv : u / 1000 % 10 = ((u % 100000000) % 10000 / 100) / 10 := by omega
    unfold dC
    rw [hv]
    refine congrArg (fun n : Nat => AV.d (.lit (.int .u8 (n : Int)))) ?_
    generalize ((u % 100000000) % 10000 / 100) = q at hq ⊢
    clear hv
    revert q
    decide +kernel) ?_
      refine cons_eq (by
    have hq : ((u % 100000000) % 10000 / 100) < 100 := by omega
    have hv : u / 100 % 10 = ((u % 100000000) % 10000 / 100) % 10 := by omega
    unfold dC
    rw [hv]
    refine congrArg (fun n : Nat => AV.d (.lit (.int .u8 (n : Int)))) ?_
    generalize ((u % 100000000) % 10000 / 100) = q at hq ⊢
    clear hv
    revert q
    decide +kernel) ?_
      refine cons_eq (by
    have hq : ((u % 100000000) % 10000 % 100) < 100 := by omega
    have hv : u / 10 % 10 = ((u % 100000000) % 10000 % 100) / 10 := by omega
    unfold dC
    rw [hv]
    refine congrArg (fun n : Nat => AV.d (.lit (.int .u8 (n : Int)))) ?_
    generalize ((u % 100000000) % 10000 % 100) = q at hq ⊢
    clear hv
    revert q
    decide +kernel) ?_
      refine cons_eq (by
    have hq : ((u % 100000000) % 10000 % 100) < 100 := by omega
    have hv : u / 1 % 10 = ((u % 100000000) % 10000 % 100) % 10 := by omega
    unfold dC
    rw [hv]
    refine congrArg (fun n : Nat => AV.d (.lit (.int .u8 (n : Int)))) ?_
    generalize ((u % 100000000) % 10000 % 100) = q at hq ⊢
    clear hv
    revert q
    decide +kernel) ?_
      rfl
  · refine W.ite_t rfl ?_
    have E0 : IntKind.u32.wrap (Int.tmod (((u / 100000000) : Nat) : Int) 100000000) = (((u / 100000000) % 100000000 : Nat) : Int) := w32 ((u / 100000000) % 100000000) (by omega)
    have E1 : IntKind.u32.wrap (Int.tdiv ((((u / 100000000) % 100000000) : Nat) : Int) 10000) = ((((u / 100000000) % 100000000) / 10000 : Nat) : Int) := w32 (((u / 100000000) % 100000000) / 10000) (by omega)
    have E2 : IntKind.u32.wrap (Int.tdiv (Int.tmod ((((u / 100000000) % 100000000) : Nat) : Int) 10000) 100) = ((((u / 100000000) % 100000000) % 10000 / 100 : Nat) : Int) := w32 (((u / 100000000) % 100000000) % 10000 / 100) (by omega)
    have E3 : IntKind.u32.wrap (((((u / 100000000) % 100000000) % 10000 / 100 : Nat) : Int) * 2) = ((((u / 100000000) % 100000000) % 10000 / 100 * 2 : Nat) : Int) := w32 (((u / 100000000) % 100000000) % 10000 / 100 * 2) (by omega)
    have E4 : IntKind.u32.wrap (Int.tmod (Int.tmod ((((u / 100000000) % 100000000) : Nat) : Int) 10000) 100 * 2) = ((((u / 100000000) % 100000000) % 10000 % 100 * 2 : Nat) : Int) := w32 (((u / 100000000) % 100000000) % 10000 % 100 * 2) (by omega)
    have E5 : IntKind.u32.wrap (Int.tdiv ((((u / 100000000) % 100000000) / 10000 : Nat) : Int) 100) = ((((u / 100000000) % 100000000) / 10000 / 100 : Nat) : Int) := w32 (((u / 100000000) % 100000000) / 10000 / 100) (by omega)
    have E6 : IntKind.u32.wrap (((((u / 100000000) % 100000000) / 10000 / 100 : Nat) : Int) * 2) = ((((u / 100000000) % 100000000) / 10000 / 100 * 2 : Nat) : Int) := w32 (((u / 100000000) % 100000000) / 10000 / 100 * 2) (by omega)
    have E7 : IntKind.u32.wrap (Int.tmod ((((u / 100000000) % 100000000) / 10000 : Nat) : Int) 100 * 2) = ((((u / 100000000) % 100000000) / 10000 % 100 * 2 : Nat) : Int) := w32 (((u / 100000000) % 100000000) / 10000 % 100 * 2) (by omega)
    have P0 : IntKind.u32.wrap (((((u / 100000000) % 100000000) % 10000 % 100 * 2 : Nat) : Int) + 1) = ((((u / 100000000) % 100000000) % 10000 % 100 * 2 + 1 : Nat) : Int) := w32 (((u / 100000000) % 100000000) % 10000 % 100 * 2 + 1) (by omega)
    have P1 : IntKind.u32.wrap (((((u / 100000000) % 100000000) % 10000 / 100 * 2 : Nat) : Int) + 1) = ((((u / 100000000) % 100000000) % 10000 / 100 * 2 + 1 : Nat) : Int) := w32 (((u / 100000000) % 100000000) % 10000 / 100 * 2 + 1) (by omega)
    have P2 : IntKind.u32.wrap (((((u / 100000000) % 100000000) / 10000 % 100 * 2 : Nat) : Int) + 1) = ((((u / 100000000) % 100000000) / 10000 % 100 * 2 + 1 : Nat) : Int) := w32 (((u / 100000000) % 100000000) / 10000 % 100 * 2 + 1) (by omega)
    have P3 : IntKind.u32.wrap (((((u / 100000000) % 100000000) / 10000 / 100 * 2 : Nat) : Int) + 1) = ((((u / 100000000) % 100000000) / 10000 / 100 * 2 + 1 : Nat) : Int) := w32 (((u / 100000000) % 100000000) / 10000 / 100 * 2 + 1) (by omega)
    have F0 : IntKind.u64.wrap (Int.tdiv (((u / 100000000) : Nat) : Int) 100000000) = ((u / 10000000000000000 : Nat) : Int) := (w64u ((u / 100000000) / 100000000) (by omega)).trans (by omega)
    iterate 8 refine W.need (by decide) ?_
    refine W.need (by simp only [E0, E1, E2, E3, E4, E5, E6, E7, P0, P1, P2, P3]; exact rng _ (by omega)) ?_
    refine W.need (by simp only [E0, E1, E2, E3, E4, E5, E6, E7, P0, P1, P2, P3]; exact rng _ (by omega)) ?_
    refine W.need (by decide) ?_
    refine W.need (by decide) ?_
    refine W.need (by simp only [E0, E1, E2, E3, E4, E5, E6, E7, P0, P1, P2, P3]; exact rng _ (by omega)) ?_
    refine W.need (by simp only [E0, E1, E2, E3, E4, E5, E6, E7, P0, P1, P2, P3]; exact rng _ (by omega)) ?_
    refine W.need (by decide) ?_
    refine W.need (by decide) ?_
    refine W.need (by simp only [E0, E1, E2, E3, E4, E5, E6, E7, P0, P1, P2, P3]; exact rng _ (by omega)) ?_
    refine W.need (by simp only [E0, E1, E2, E3, E4, E5, E6, E7, P0, P1, P2, P3]; exact rng _ (by omega)) ?_
    refine W.need (by decide) ?_
    refine W.need (by decide) ?_
    refine W.need (by simp only [E0, E1, E2, E3, E4, E5, E6, E7, P0, P1, P2, P3]; exact rng _ (by omega)) ?_
    refine W.need (by simp only [E0, E1, E2, E3, E4, E5, E6, E7, P0, P1, P2, P3]; exact rng _ (by omega)) ?_
    refine W.need (by decide) ?_
    refine W.need (by decide) ?_
    refine W.ret ⟨_, _, _, ?_, Trim.of [0, 1, 4] [0] (by decide) (by simp) kp1, .inr (.inr (⟨rfl, ?_, ?_⟩))⟩
    · decide
    · rw [← F0]; rfl
    · show [Blk.var _] = [Blk.var [zC, zC, dC u 1000000000000000, dC u 100000000000000, dC u 10000000000000, dC u 1000000000000, dC u 100000000000, dC u 10000000000, dC u 1000000000, dC u 100000000, dC u 10000000, dC u 1000000, dC u 100000, dC u 10000, dC u 1000, dC u 100, dC u 10, dC u 1, zC, zC, zC, zC, zC, zC]]
      simp only [E0, E1, E2, E3, E4, E5, E6, E7, P0, P1, P2, P3]
      refine congrArg (fun l => [Blk.var l]) (congrArg (List.cons zC) ?_)
      refine congrArg (List.cons zC) ?_
      refine cons_eq (by
    have hq : (((u / 100000000) % 100000000) / 10000 / 100) < 100 := by omega
    have hv : u / 1000000000000000 % 10 = (((u / 100000000) % 100000000) / 10000 / 100) / 10 := by omega
    unfold dC
    rw [hv]
    refine congrArg (fun n : Nat => AV.d (.lit (.int .u8 (n : Int)))) ?_
    generalize (((u / 100000000) % 100000000) / 10000 / 100) = q at hq ⊢
    clear hv
    revert q
    decide +kernel) ?_
      refine cons_eq (by
    have hq : (((u / 100000000) % 100000000) / 10000 / 100) < 100 := by omega
    have hv : u / 100000000000000 % 10 = (((u / 100000000) % 100000000) / 10000 / 100) % 10 := by omega
    unfold dC
    rw [hv]
    refine congrArg (fun n : Nat => AV.d (.lit (.int .u8 (n : Int)))) ?_
    generalize (((u / 100000000) % 100000000) / 10000 / 100) = q at hq ⊢
    clear hv
    revert q
    decide +kernel) ?_
      refine cons_eq (by
    have hq : (((u / 100000000) % 100000000) / 10000 % 100) < 100 := by omega
    have hv : u / 10000000000000 % 10 = (((u / 100000000) % 100000000) / 10000 % 100) / 10 := by omega
    unfold dC
    rw [hv]
    refine congrArg (fun n : Nat => AV.d (.lit (.int .u8 (n : Int)))) ?_
    generalize (((u / 100000000) % 100000000) / 10000 % 100) = q at hq ⊢
    clear hv
    revert q
    decide +kernel) ?_
      refine cons_eq (by
    have hq : (((u / 100000000) % 100000000) / 10000 % 100) < 100 := by omega
    have hv : u / 1000000000000 % 10 = (((u / 100000000) % 100000000) / 10000 % 100) % 10 := by omega
    unfold dC
    rw [hv]
    refine congrArg (fun n : Nat => AV.d (.lit (.int .u8 (n : Int)))) ?_
    generalize (((u / 100000000) % 100000000) / 10000 % 100) = q at hq ⊢
    clear hv
    revert q
    decide +kernel) ?_
      refine cons_eq (by
    have hq : (((u / 100000000) % 100000000) % 10000 / 100) < 100 := by omega
    have hv : u / 100000000000 % 10 = (((u / 100000000) % 100000000) % 10000 / 100) / 10 := by omega
    unfold dC
    rw [hv]
    refine congrArg (fun n : Nat => AV.d (.lit (.int .u8 (n : Int)))) ?_
    generalize (((u / 100000000) % 100000000) % 10000 / 100) = q at hq ⊢
    clear hv
    revert q
    decide +kernel) ?_
      refine cons_eq (by
    have hq : (((u / 100000000) % 100000000) % 10000 / 100) < 100 := by omega
    have hv : u / 10000000000 % 10 = (((u / 100000000) % 100000000) % 10000 / 100) % 10 := by omega
    unfold dC
    rw [hv]
    refine congrArg (fun n : Nat => AV.d (.lit (.int .u8 (n : Int)))) ?_
    generalize (((u / 100000000) % 100000000) % 10000 / 100) = q at hq ⊢
    clear hv
    revert q
    decide +kernel) ?_
      refine cons_eq (by
    have hq : (((u / 100000000) % 100000000) % 10000 % 100) < 100 := by omega
    have hv : u / 1000000000 % 10 = (((u / 100000000) % 100000000) % 10000 % 100) / 10 := by omega
    unfold dC
    rw [hv]
    refine congrArg (fun n : Nat => AV.d (.lit (.int .u8 (n : Int)))) ?_
    generalize (((u / 100000000) % 100000000) % 10000 % 100) = q at hq ⊢
    clear hv
    revert q
    decide +kernel) ?_
      refine cons_eq (by
    have hq : (((u / 100000000) % 100000000) % 10000 % 100) < 100 := by omega
    have hv : u / 100000000 % 10 = (((u / 100000000) % 100000000) % 10000 % 100) % 10 := by omega
    unfold dC
    rw [hv]
    refine congrArg (fun n : Nat => AV.d (.lit (.int .u8 (n : Int)))) ?_
    generalize (((u / 100000000) % 100000000) % 10000 % 100) = q at hq ⊢
    clear hv
    revert q
    decide +kernel) ?_
      rfl
  · refine W.ite_f rfl ?_
    refine W.ret ?_
    have T0 : IntKind.u32.wrap (((u / 10000000000000000) : Nat) : Int) = (((u / 10000000000000000) : Nat) : Int) := w32 ((u / 10000000000000000)) (by omega)
    have T7 : IntKind.u32.wrap (48 + (((u / 10000000000000000) : Nat) : Int)) = ((48 + (u / 10000000000000000) : Nat) : Int) := w32 (48 + (u / 10000000000000000)) (by omega)
    have T8 : IntKind.u8.wrap ((48 + (u / 10000000000000000) : Nat) : Int) = ((48 + (u / 10000000000000000) : Nat) : Int) := w8 _ (by omega)
    refine W.ite_f rfl ?_
    refine W.ite_f rfl ?_
    refine W.ite_t rfl ?_
    refine W.need (by decide) ?_
    refine W.ret (RetQ.all ⟨rfl, ?_⟩)
    show [Blk.var _] = [Blk.var [zC, dC u 10000000000000000, dC u 1000000000000000, dC u 100000000000000, dC u 10000000000000, dC u 1000000000000, dC u 100000000000, dC u 10000000000, dC u 1000000000, dC u 100000000, dC u 10000000, dC u 1000000, dC u 100000, dC u 10000, dC u 1000, dC u 100, dC u 10, dC u 1, zC, zC, zC, zC, zC, zC]]
    simp only [T0, T7, T8]
    refine congrArg (fun l => [Blk.var l]) (congrArg (List.cons zC) ?_)
    refine cons_eq (by
        have hv : u / 10000000000000000 % 10 = (u / 10000000000000000) := by omega
        unfold dC
        rw [hv]) ?_
    rfl
set_option maxHeartbeats 8000000 in
theorem ok105_18 (u : Nat) (hu : u < 1000000000000000000) : CallOk Tryz.prog 105 [.win 0 1 18, .d (uI u)] [.var [zC, zC, zC, zC, zC, zC, zC, zC, zC, zC, zC, zC, zC, zC, zC, zC, zC, zC, zC, zC, zC, zC, zC, zC]] (fun v s => v = .tuple [] ∧ s = [.var [zC, dC u 100000000000000000, dC u 10000000000000000, dC u 1000000000000000, dC u 100000000000000, dC u 10000000000000, dC u 1000000000000, dC u 100000000000, dC u 10000000000, dC u 1000000000, dC u 100000000, dC u 10000000, dC u 1000000, dC u 100000, dC u 10000, dC u 1000, dC u 100, dC u 10, dC u 1, zC, zC, zC, zC, zC]]) := by
  refine CallOk.of tysOk mixed od105 Tryz.func105 rfl rfl code105 ?_
  refine W.loop (fun k fr σ => (k = 2 ∧ fr = [(0, .win 0 1 18), (1, .d (uI ((u : Nat) : Int))), (4, .d (nI 18))] ∧ σ = [.var [zC, zC, zC, zC, zC, zC, zC, zC, zC, zC, zC, zC, zC, zC, zC, zC, zC, zC, zC, zC, zC, zC, zC, zC]]) ∨ (k = 1 ∧ fr = [(0, .win 0 1 18), (1, .d (uI ((u / 100000000 : Nat) : Int))), (4, .d (nI 10))] ∧ σ = [.var [zC, zC, zC, zC, zC, zC, zC, zC, zC, zC, zC, dC u 10000000, dC u 1000000, dC u 100000, dC u 10000, dC u 1000, dC u 100, dC u 10, dC u 1, zC, zC, zC, zC, zC]]) ∨ (k = 0 ∧ fr = [(0, .win 0 1 18), (1, .d (uI ((u / 10000000000000000 : Nat) : Int))), (4, .d (nI 2))] ∧ σ = [.var [zC, zC, zC, dC u 1000000000000000, dC u 100000000000000, dC u 10000000000000, dC u 1000000000000, dC u 100000000000, dC u 10000000000, dC u 1000000000, dC u 100000000, dC u 10000000, dC u 1000000, dC u 100000, dC u 10000, dC u 1000, dC u 100, dC u 10, dC u 1, zC, zC, zC, zC, zC]])) 2
    (Start.of [0, 1, 4] [] (by simp)) (.inl ⟨rfl, rfl, rfl⟩) ?_
  rintro k fr σ (⟨rfl, rfl, rfl⟩ | ⟨rfl, rfl, rfl⟩ | ⟨rfl, rfl, rfl⟩)
  · refine W.ite_t rfl ?_
    have E0 : IntKind.u32.wrap (Int.tmod ((u : Nat) : Int) 100000000) = ((u % 100000000 : Nat) : Int) := w32 (u % 100000000) (by omega)
    have E1 : IntKind.u32.wrap (Int.tdiv (((u % 100000000) : Nat) : Int) 10000) = (((u % 100000000) / 10000 : Nat) : Int) := w32 ((u % 100000000) / 10000) (by omega)
    have E2 : IntKind.u32.wrap (Int.tdiv (Int.tmod (((u % 100000000) : Nat) : Int) 10000) 100) = (((u % 100000000) % 10000 / 100 : Nat) : Int) := w32 ((u % 100000000) % 10000 / 100) (by omega)
    have E3 : IntKind.u32.wrap ((((u % 100000000) % 10000 / 100 : Nat) : Int) * 2) = (((u % 100000000) % 10000 / 100 * 2 : Nat) : Int) := w32 ((u % 100000000) % 10000 / 100 * 2) (by omega)
    have E4 : IntKind.u32.wrap (Int.tmod (Int.tmod (((u % 100000000) : Nat) : Int) 10000) 100 * 2) = (((u % 100000000) % 10000 % 100 * 2 : Nat) : Int) := w32 ((u % 100000000) % 10000 % 100 * 2) (by omega)
    have E5 : IntKind.u32.wrap (Int.tdiv (((u % 100000000) / 10000 : Nat) : Int) 100) = (((u % 100000000) / 10000 / 100 : Nat) : Int) := w32 ((u % 100000000) / 10000 / 100) (by omega)
    have E6 : IntKind.u32.wrap ((((u % 100000000) / 10000 / 100 : Nat) : Int) * 2) = (((u % 100000000) / 10000 / 100 * 2 : Nat) : Int) := w32 ((u % 100000000) / 10000 / 100 * 2) (by omega)
    have E7 : IntKind.u32.wrap (Int.tmod (((u % 100000000) / 10000 : Nat) : Int) 100 * 2) = (((u % 100000000) / 10000 % 100 * 2 : Nat) : Int) := w32 ((u % 100000000) / 10000 % 100 * 2) (by omega)
    have P0 : IntKind.u32.wrap ((((u % 100000000) % 10000 % 100 * 2 : Nat) : Int) + 1) = (((u % 100000000) % 10000 % 100 * 2 + 1 : Nat) : Int) := w32 ((u % 100000000) % 10000 % 100 * 2 + 1) (by omega)
    have P1 : IntKind.u32.wrap ((((u % 100000000) % 10000 / 100 * 2 : Nat) : Int) + 1) = (((u % 100000000) % 10000 / 100 * 2 + 1 : Nat) : Int) := w32 ((u % 100000000) % 10000 / 100 * 2 + 1) (by omega)
    have P2 : IntKind.u32.wrap ((((u % 100000000) / 10000 % 100 * 2 : Nat) : Int) + 1) = (((u % 100000000) / 10000 % 100 * 2 + 1 : Nat) : Int) := w32 ((u % 100000000) / 10000 % 100 * 2 + 1) (by omega)
    have P3 : IntKind.u32.wrap ((((u % 100000000) / 10000 / 100 * 2 : Nat) : Int) + 1) = (((u % 100000000) / 10000 / 100 * 2 + 1 : Nat) : Int) := w32 ((u % 100000000) / 10000 / 100 * 2 + 1) (by omega)
    have F0 : IntKind.u64.wrap (Int.tdiv ((u : Nat) : Int) 100000000) = ((u / 100000000 : Nat) : Int) := (w64u (u / 100000000) (by omega)).trans (by omega)
    iterate 8 refine W.need (by decide) ?_
    refine W.need (by simp only [E0, E1, E2, E3, E4, E5, E6, E7, P0, P1, P2, P3]; exact rng _ (by omega)) ?_
    refine W.need (by simp only [E0, E1, E2, E3, E4, E5, E6, E7, P0, P1, P2, P3]; exact rng _ (by omega)) ?_
    refine W.need (by decide) ?_
    refine W.need (by decide) ?_
    refine W.need (by simp only [E0, E1, E2, E3, E4, E5, E6, E7, P0, P1, P2, P3]; exact rng _ (by omega)) ?_
    refine W.need (by simp only [E0, E1, E2, E3, E4, E5, E6, E7, P0, P1, P2, P3]; exact rng _ (by omega)) ?_
    refine W.need (by decide) ?_
    refine W.need (by decide) ?_
    refine W.need (by simp only [E0, E1, E2, E3, E4, E5, E6, E7, P0, P1, P2, P3]; exact rng _ (by omega)) ?_
    refine W.need (by simp only [E0, E1, E2, E3, E4, E5, E6, E7, P0, P1, P2, P3]; exact rng _ (by omega)) ?_
    refine W.need (by decide) ?_
    refine W.need (by decide) ?_
    refine W.need (by simp only [E0, E1, E2, E3, E4, E5, E6, E7, P0, P1, P2, P3]; exact rng _ (by omega)) ?_
    refine W.need (by simp only [E0, E1, E2, E3, E4, E5, E6, E7, P0, P1, P2, P3]; exact rng _ (by omega)) ?_
    refine W.need (by decide) ?_
    refine W.need (by decide) ?_
    refine W.ret ⟨_, _, _, ?_, Trim.of [0, 1, 4] [0] (by decide) (by simp) kp1, .inr (.inl ⟨rfl, ?_, ?_⟩)⟩
    · decide
    · rw [← F0]; rfl
    · show [Blk.var _] = [Blk.var [zC, zC, zC, zC, zC, zC, zC, zC, zC, zC, zC, dC u 10000000, dC u 1000000, dC u 100000, dC u 10000, dC u 1000, dC u 100, dC u 10, dC u 1, zC, zC, zC, zC, zC]]
      simp only [E0, E1, E2, E3, E4, E5, E6, E7, P0, P1, P2, P3]
      refine congrArg (fun l => [Blk.var l]) (congrArg (List.cons zC) ?_)
      refine congrArg (List.cons zC) ?_
      refine congrArg (List.cons zC) ?_
      refine congrArg (List.cons zC) ?_
      refine congrArg (List.cons zC) ?_
      refine congrArg (List.cons zC) ?_
      refine congrArg (List.cons zC) ?_
      refine congrArg (List.cons zC) ?_
      refine congrArg (List.cons zC) ?_
      refine congrArg (List.cons zC) ?_
      refine congrArg (List.cons zC) ?_
      refine cons_eq (by
    have hq : ((u % 100000000) / 10000 / 100) < 100 := by omega
    have hv : u / 10000000 % 10 = ((u % 100000000) / 10000 / 100) / 10 := by omega
    unfold dC
    rw [hv]
    refine congrArg (fun n : Nat => AV.d (.lit (.int .u8 (n : Int)))) ?_
    generalize ((u % 100000000) / 10000 / 100) = q at hq ⊢
    clear hv
    revert q
    decide +kernel) ?_
      refine cons_eq (by
    have hq : ((u % 100000000) / 10000 / 100) < 100 := by omega
    have hv : u / 1000000 % 10 = ((u % 100000000) / 10000 / 100) % 10 := by omega
    unfold dC
    rw [hv]
    refine congrArg (fun n : Nat => AV.d (.lit (.int .u8 (n : Int)))) ?_
    generalize ((u % 100000000) / 10000 / 100) = q at hq ⊢
    clear hv
    revert q
    decide +kernel) ?_
      refine cons_eq (by
    have hq : ((u % 100000000) / 10000 % 100) < 100 := by omega
    have hv : u / 100000 % 10 = ((u % 100000000) / 10000 % 100) / 10 := by omega
    unfold dC
    rw [hv]
    refine congrArg (fun n : Nat => AV.d (.lit (.int .u8 (n : Int)))) ?_
    generalize ((u % 100000000) / 10000 % 100) = q at hq ⊢
    clear hv
    revert q
    decide +kernel) ?_
      refine cons_eq (by
    have hq : ((u % 100000000) / 10000 % 100) < 100 := by omega
    have hv : u / 10000 % 10 = ((u % 100000000) / 10000 % 100) % 10 := by omega
    unfold dC
    rw [hv]
    refine congrArg (fun n : Nat => AV.d (.lit (.int .u8 (n : Int)))) ?_
    generalize ((u % 100000000) / 10000 % 100) = q at hq ⊢
    clear hv
    revert q
    decide +kernel) ?_
      refine cons_eq (by
    have hq : ((u % 100000000) % 10000 / 100) < 100 := by omega
    have hv : u / 1000 % 10 = ((u % 100000000) % 10000 / 100) / 10 := by omega
    unfold dC
    rw [hv]
    refine congrArg (fun n : Nat => AV.d (.lit (.int .u8 (n : Int)))) ?_
    generalize ((u % 100000000) % 10000 / 100) = q at hq ⊢
    clear hv
    revert q
    decide +kernel) ?_
      refine cons_eq (by
    have hq : ((u % 100000000) % 10000 / 100) < 100 := by omega
    have hv : u / 100 % 10 = ((u % 100000000) % 10000 / 100) % 10 := by omega
    unfold dC
    rw [hv]
    refine congrArg (fun n : Nat => AV.d (.lit (.int .u8 (n : Int)))) ?_
    generalize ((u % 100000000) % 10000 / 100) = q at hq ⊢
    clear hv
    revert q
    decide +kernel) ?_
      refine cons_eq (by
    have hq : ((u % 100000000) % 10000 % 100) < 100 := by omega
    have hv : u / 10 % 10 = ((u % 100000000) % 10000 % 100) / 10 := by omega
    unfold dC
    rw [hv]
    refine congrArg (fun n : Nat => AV.d (.lit (.int .u8 (n : Int)))) ?_
    generalize ((u % 100000000) % 10000 % 100) = q at hq ⊢
    clear hv
    revert q
    decide +kernel) ?_
      refine cons_eq (by
    have hq : ((u % 100000000) % 10000 % 100) < 100 := by omega
    have hv : u / 1 % 10 = ((u % 100000000) % 10000 % 100) % 10 := by omega
    unfold dC
    rw [hv]
    refine congrArg (fun n : Nat => AV.d (.lit (.int .u8 (n : Int)))) ?_
    generalize ((u % 100000000) % 10000 % 100) = q at hq ⊢
    clear hv
    revert q
    decide +kernel) ?_
      rfl
  · refine W.ite_t rfl ?_
    have E0 : IntKind.u32.wrap (Int.tmod (((u / 100000000) : Nat) : Int) 100000000) = (((u / 100000000) % 100000000 : Nat) : Int) := w32 ((u / 100000000) % 100000000) (by omega)
    have E1 : IntKind.u32.wrap (Int.tdiv ((((u / 100000000) % 100000000) : Nat) : Int) 10000) = ((((u / 100000000) % 100000000) / 10000 : Nat) : Int) := w32 (((u / 100000000) % 100000000) / 10000) (by omega)
    have E2 : IntKind.u32.wrap (Int.tdiv (Int.tmod ((((u / 100000000) % 100000000) : Nat) : Int) 10000) 100) = ((((u / 100000000) % 100000000) % 10000 / 100 : Nat) : Int) := w32 (((u / 100000000) % 100000000) % 10000 / 100) (by omega)
    have E3 : IntKind.u32.wrap (((((u / 100000000) % 100000000) % 10000 / 100 : Nat) : Int) * 2) = ((((u / 100000000) % 100000000) % 10000 / 100 * 2 : Nat) : Int) := w32 (((u / 100000000) % 100000000) % 10000 / 100 * 2) (by omega)
    have E4 : IntKind.u32.wrap (Int.tmod (Int.tmod ((((u / 100000000) % 100000000) : Nat) : Int) 10000) 100 * 2) = ((((u / 100000000) % 100000000) % 10000 % 100 * 2 : Nat) : Int) := w32 (((u / 100000000) % 100000000) % 10000 % 100 * 2) (by omega)
    have E5 : IntKind.u32.wrap (Int.tdiv ((((u / 100000000) % 100000000) / 10000 : Nat) : Int) 100) = ((((u / 100000000) % 100000000) / 10000 / 100 : Nat) : Int) := w32 (((u / 100000000) % 100000000) / 10000 / 100) (by omega)
    have E6 : IntKind.u32.wrap (((((u / 100000000) % 100000000) / 10000 / 100 : Nat) : Int) * 2) = ((((u / 100000000) % 100000000) / 10000 / 100 * 2 : Nat) : Int) := w32 (((u / 100000000) % 100000000) / 10000 / 100 * 2) (by omega)
    have E7 : IntKind.u32.wrap (Int.tmod ((((u / 100000000) % 100000000) / 10000 : Nat) : Int) 100 * 2) = ((((u / 100000000) % 100000000) / 10000 % 100 * 2 : Nat) : Int) := w32 (((u / 100000000) % 100000000) / 10000 % 100 * 2) (by omega)
    have P0 : IntKind.u32.wrap (((((u / 100000000) % 100000000) % 10000 % 100 * 2 : Nat) : Int) + 1) = ((((u / 100000000) % 100000000) % 10000 % 100 * 2 + 1 : Nat) : Int) := w32 (((u / 100000000) % 100000000) % 10000 % 100 * 2 + 1) (by omega)
    have P1 : IntKind.u32.wrap (((((u / 100000000) % 100000000) % 10000 / 100 * 2 : Nat) : Int) + 1) = ((((u / 100000000) % 100000000) % 10000 / 100 * 2 + 1 : Nat) : Int) := w32 (((u / 100000000) % 100000000) % 10000 / 100 * 2 + 1) (by omega)
    have P2 : IntKind.u32.wrap (((((u / 100000000) % 100000000) / 10000 % 100 * 2 : Nat) : Int) + 1) = ((((u / 100000000) % 100000000) / 10000 % 100 * 2 + 1 : Nat) : Int) := w32 (((u / 100000000) % 100000000) / 10000 % 100 * 2 + 1) (by omega)
    have P3 : IntKind.u32.wrap (((((u / 100000000) % 100000000) / 10000 / 100 * 2 : Nat) : Int) + 1) = ((((u / 100000000) % 100000000) / 10000 / 100 * 2 + 1 : Nat) : Int) := w32 (((u / 100000000) % 100000000) / 10000 / 100 * 2 + 1) (by omega)
    have F0 : IntKind.u64.wrap (Int.tdiv (((u / 100000000) : Nat) : Int) 100000000) = ((u / 10000000000000000 : Nat) : Int) := (w64u ((u / 100000000) / 100000000) (by omega)).trans (by omega)
    iterate 8 refine W.need (by decide) ?_
    refine W.need (by simp only [E0, E1, E2, E3, E4, E5, E6, E7, P0, P1, P2, P3]; exact rng _ (by omega)) ?_
    refine W.need (by simp only [E0, E1, E2, E3, E4, E5, E6, E7, P0, P1, P2, P3]; exact rng _ (by omega)) ?_
    refine W.need (by decide) ?_
    refine W.need (by decide) ?_
    refine W.need (by simp only [E0, E1, E2, E3, E4, E5, E6, E7, P0, P1, P2, P3]; exact rng _ (by omega)) ?_
    refine W.need (by simp only [E0, E1, E2, E3, E4, E5, E6, E7, P0, P1, P2, P3]; exact rng _ (by omega)) ?_
    refine W.need (by decide) ?_
    refine W.need (by decide) ?_
    refine W.need (by simp only [E0, E1, E2, E3, E4, E5, E6, E7, P0, P1, P2, P3]; exact rng _ (by omega)) ?_
    refine W.need (by simp only [E0, E1, E2, E3, E4, E5, E6, E7, P0, P1, P2, P3]; exact rng _ (by omega)) ?_
    refine W.need (by decide) ?_
    refine W.need (by decide) ?_
    refine W.need (by simp only [E0, E1, E2, E3, E4, E5, E6, E7, P0, P1, P2, P3]; exact rng _ (by omega)) ?_
    refine W.need (by simp only [E0, E1, E2, E3, E4, E5, E6, E7, P0, P1, P2, P3]; exact rng _ (by omega)) ?_
    refine W.need (by decide) ?_
    refine W.need (by decide) ?_
    refine W.ret ⟨_, _, _, ?_, Trim.of [0, 1, 4] [0] (by decide) (by simp) kp1, .inr (.inr (⟨rfl, ?_, ?_⟩))⟩
    · decide
    · rw [← F0]; rfl
    · show [Blk.var _] = [Blk.var [zC, zC, zC, dC u 1000000000000000, dC u 100000000000000, dC u 10000000000000, dC u 1000000000000, dC u 100000000000, dC u 10000000000, dC u 1000000000, dC u 100000000, dC u 10000000, dC u 1000000, dC u 100000, dC u 10000, dC u 1000, dC u 100, dC u 10, dC u 1, zC, zC, zC, zC, zC]]
      simp only [E0, E1, E2, E3, E4, E5, E6, E7, P0, P1, P2, P3]
      refine congrArg (fun l => [Blk.var l]) (congrArg (List.cons zC) ?_)
      refine congrArg (List.cons zC) ?_
      refine congrArg (List.cons zC) ?_
      refine cons_eq (by
    have hq : (((u / 100000000) % 100000000) / 10000 / 100) < 100 := by omega
    have hv : u / 1000000000000000 % 10 = (((u / 100000000) % 100000000) / 10000 / 100) / 10 := by omega
    unfold dC
    rw [hv]
    refine congrArg (fun n : Nat => AV.d (.lit (.int .u8 (n : Int)))) ?_
    generalize (((u / 100000000) % 100000000) / 10000 / 100) = q at hq ⊢
    clear hv
    revert q
    decide +kernel) ?_
      refine cons_eq (by
    have hq : (((u / 100000000) % 100000000) / 10000 / 100) < 100 := by omega
    have hv : u / 100000000000000 % 10 = (((u / 100000000) % 100000000) / 10000 / 100) % 10 := by omega
    unfold dC
    rw [hv]
    refine congrArg (fun n : Nat => AV.d (.lit (.int .u8 (n : Int)))) ?_
    generalize (((u / 100000000) % 100000000) / 10000 / 100) = q at hq ⊢
    clear hv
    revert q
    decide +kernel) ?_
      refine cons_eq (by
    have hq : (((u / 100000000) % 100000000) / 10000 % 100) < 100 := by omega
    have hv : u / 10000000000000 % 10 = (((u / 100000000) % 100000000) / 10000 % 100) / 10 := by omega
    unfold dC
    rw [hv]
    refine congrArg (fun n : Nat => AV.d (.lit (.int .u8 (n : Int)))) ?_
    generalize (((u / 100000000) % 100000000) / 10000 % 100) = q at hq ⊢
    clear hv
    revert q
    decide +kernel) ?_
      refine cons_eq (by
    have hq : (((u / 100000000) % 100000000) / 10000 % 100) < 100 := by omega
    have hv : u / 1000000000000 % 10 = (((u / 100000000) % 100000000) / 10000 % 100) % 10 := by omega
    unfold dC
    rw [hv]
    refine congrArg (fun n : Nat => AV.d (.lit (.int .u8 (n : Int)))) ?_
    generalize (((u / 100000000) % 100000000) / 10000 % 100) = q at hq ⊢
    clear hv
    revert q
    decide +kernel) ?_
      refine cons_eq (by
    have hq : (((u / 100000000) % 100000000) % 10000 / 100) < 100 := by omega
    have hv : u / 100000000000 % 10 = (((u / 100000000) % 100000000) % 10000 / 100) / 10 := by omega
    unfold dC
    rw [hv]
    refine congrArg (fun n : Nat => AV.d (.lit (.int .u8 (n : Int)))) ?_
    generalize (((u / 100000000) % 100000000) % 10000 / 100) = q at hq ⊢
    clear hv
    revert q
    decide +kernel) ?_
      refine cons_eq (by
    have hq : (((u / 100000000) % 100000000) % 10000 / 100) < 100 := by omega
    have hv : u / 10000000000 % 10 = (((u / 100000000) % 100000000) % 10000 / 100) % 10 := by omega
    unfold dC
    rw [hv]
    refine congrArg (fun n : Nat => AV.d (.lit (.int .u8 (n : Int)))) ?_
    generalize (((u / 100000000) % 100000000) % 10000 / 100) = q at hq ⊢
    clear hv
    revert q
    decide +kernel) ?_
      refine cons_eq (by
    have hq : (((u / 100000000) % 100000000) % 10000 % 100) < 100 := by omega
    have hv : u / 1000000000 % 10 = (((u / 100000000) % 100000000) % 10000 % 100) / 10 := by omega
    unfold dC
    rw [hv]
    refine congrArg (fun n : Nat => AV.d (.lit (.int .u8 (n : Int)))) ?_
    generalize (((u / 100000000) % 100000000) % 10000 % 100) = q at hq ⊢
    clear hv
    revert q
    decide +kernel) ?_
      refine cons_eq (by
    have hq : (((u / 100000000) % 100000000) % 10000 % 100) < 100 := by omega
    have hv : u / 100000000 % 10 = (((u / 100000000) % 100000000) % 10000 % 100) % 10 := by omega
    unfold dC
    rw [hv]
    refine congrArg (fun n : Nat => AV.d (.lit (.int .u8 (n : Int)))) ?_
    generalize (((u / 100000000) % 100000000) % 10000 % 100) = q at hq ⊢
    clear hv
    revert q
    decide +kernel) ?_
      rfl
  · refine W.ite_f rfl ?_
    refine W.ret ?_
    have T0 : IntKind.u32.wrap (((u / 10000000000000000) : Nat) : Int) = (((u / 10000000000000000) : Nat) : Int) := w32 ((u / 10000000000000000)) (by omega)
    have T5 : IntKind.u32.wrap (Int.tmod (((u / 10000000000000000) : Nat) : Int) 100 * 2) = (((u / 10000000000000000) % 100 * 2 : Nat) : Int) := w32 ((u / 10000000000000000) % 100 * 2) (by omega)
    have T6 : IntKind.u32.wrap (Int.tdiv (((u / 10000000000000000) : Nat) : Int) 100) = (((u / 10000000000000000) / 100 : Nat) : Int) := w32 ((u / 10000000000000000) / 100) (by omega)
    have Q2 : IntKind.u32.wrap ((((u / 10000000000000000) % 100 * 2 : Nat) : Int) + 1) = (((u / 10000000000000000) % 100 * 2 + 1 : Nat) : Int) := w32 ((u / 10000000000000000) % 100 * 2 + 1) (by omega)
    refine W.ite_f rfl ?_
    refine W.ite_t rfl ?_
    iterate 2 refine W.need (by decide) ?_
    refine W.need (by simp only [T0, T5, T6, Q2]; exact rng _ (by omega)) ?_
    refine W.need (by simp only [T0, T5, T6, Q2]; exact rng _ (by omega)) ?_
    refine W.need (by decide) ?_
    refine W.need (by decide) ?_
    refine W.ite_f rfl ?_
    refine W.ret (RetQ.all ⟨rfl, ?_⟩)
    show [Blk.var _] = [Blk.var [zC, dC u 100000000000000000, dC u 10000000000000000, dC u 1000000000000000, dC u 100000000000000, dC u 10000000000000, dC u 1000000000000, dC u 100000000000, dC u 10000000000, dC u 1000000000, dC u 100000000, dC u 10000000, dC u 1000000, dC u 100000, dC u 10000, dC u 1000, dC u 100, dC u 10, dC u 1, zC, zC, zC, zC, zC]]
    simp only [T0, T5, T6, Q2]
    refine congrArg (fun l => [Blk.var l]) (congrArg (List.cons zC) ?_)
    refine cons_eq (by
    have hq : ((u / 10000000000000000) % 100) < 100 := by omega
    have hv : u / 100000000000000000 % 10 = ((u / 10000000000000000) % 100) / 10 := by omega
    unfold dC
    rw [hv]
    refine congrArg (fun n : Nat => AV.d (.lit (.int .u8 (n : Int)))) ?_
    generalize ((u / 10000000000000000) % 100) = q at hq ⊢
    clear hv
    revert q
    decide +kernel) ?_
    refine cons_eq (by
    have hq : ((u / 10000000000000000) % 100) < 100 := by omega
    have hv : u / 10000000000000000 % 10 = ((u / 10000000000000000) % 100) % 10 := by omega
    unfold dC
    rw [hv]
    refine congrArg (fun n : Nat => AV.d (.lit (.int .u8 (n : Int)))) ?_
    generalize ((u / 10000000000000000) % 100) = q at hq ⊢
    clear hv
    revert q
    decide +kernel) ?_
    rfl
set_option maxHeartbeats 8000000 in
theorem ok105_19 (u : Nat) (hu : u < 10000000000000000000) : CallOk Tryz.prog 105 [.win 0 1 19, .d (uI u)] [.var [zC, zC, zC, zC, zC, zC, zC, zC, zC, zC, zC, zC, zC, zC, zC, zC, zC, zC, zC, zC, zC, zC, zC, zC]] (fun v s => v = .tuple [] ∧ s = [.var [zC, dC u 1000000000000000000, dC u 100000000000000000, dC u 10000000000000000, dC u 1000000000000000, dC u 100000000000000, dC u 10000000000000, dC u 1000000000000, dC u 100000000000, dC u 10000000000, dC u 1000000000, dC u 100000000, dC u 10000000, dC u 1000000, dC u 100000, dC u 10000, dC u 1000, dC u 100, dC u 10, dC u 1, zC, zC, zC, zC]]) := by
  refine CallOk.of tysOk mixed od105 Tryz.func105 rfl rfl code105 ?_
  refine W.loop (fun k fr σ => (k = 2 ∧ fr = [(0, .win 0 1 19), (1, .d (uI ((u : Nat) : Int))), (4, .d (nI 19))] ∧ σ = [.var [zC, zC, zC, zC, zC, zC, zC, zC, zC, zC, zC, zC, zC, zC, zC, zC, zC, zC, zC, zC, zC, zC, zC, zC]]) ∨ (k = 1 ∧ fr = [(0, .win 0 1 19), (1, .d (uI ((u / 100000000 : Nat) : Int))), (4, .d (nI 11))] ∧ σ = [.var [zC, zC, zC, zC, zC, zC, zC, zC, zC, zC, zC, zC, dC u 10000000, dC u 1000000, dC u 100000, dC u 10000, dC u 1000, dC u 100, dC u 10, dC u 1, zC, zC, zC, zC]]) ∨ (k = 0 ∧ fr = [(0, .win 0 1 19), (1, .d (uI ((u / 10000000000000000 : Nat) : Int))), (4, .d (nI 3))] ∧ σ = [.var [zC, zC, zC, zC, dC u 1000000000000000, dC u 100000000000000, dC u 10000000000000, dC u 1000000000000, dC u 100000000000, dC u 10000000000, dC u 1000000000, dC u 100000000, dC u 10000000, dC u 1000000, dC u 100000, dC u 10000, dC u 1000, dC u 100, dC u 10, dC u 1, zC, zC, zC, zC]])) 2
    (Start.of [0, 1, 4] [] (by simp)) (.inl ⟨rfl, rfl, rfl⟩) ?_
  rintro k fr σ (⟨rfl, rfl, rfl⟩ | ⟨rfl, rfl, rfl⟩ | ⟨rfl, rfl, rfl⟩)
  · refine W.ite_t rfl ?_
    have E0 : IntKind.u32.wrap (Int.tmod ((u : Nat) : Int) 100000000) = ((u % 100000000 : Nat) : Int) := w32 (u % 100000000) (by omega)
    have E1 : IntKind.u32.wrap (Int.tdiv (((u % 100000000) : Nat) : Int) 10000) = (((u % 100000000) / 10000 : Nat) : Int) := w32 ((u % 100000000) / 10000) (by omega)
    have E2 : IntKind.u32.wrap (Int.tdiv (Int.tmod (((u % 100000000) : Nat) : Int) 10000) 100) = (((u % 100000000) % 10000 / 100 : Nat) : Int) := w32 ((u % 100000000) % 10000 / 100) (by omega)
    have E3 : IntKind.u32.wrap ((((u % 100000000) % 10000 / 100 : Nat) : Int) * 2) = (((u % 100000000) % 10000 / 100 * 2 : Nat) : Int) := w32 ((u % 100000000) % 10000 / 100 * 2) (by omega)
    have E4 : IntKind.u32.wrap (Int.tmod (Int.tmod (((u % 100000000) : Nat) : Int) 10000) 100 * 2) = (((u % 100000000) % 10000 % 100 * 2 : Nat) : Int) := w32 ((u % 100000000) % 10000 % 100 * 2) (by omega)
    have E5 : IntKind.u32.wrap (Int.tdiv (((u % 100000000) / 10000 : Nat) : Int) 100) = (((u % 100000000) / 10000 / 100 : Nat) : Int) := w32 ((u % 100000000) / 10000 / 100) (by omega)
    have E6 : IntKind.u32.wrap ((((u % 100000000) / 10000 / 100 : Nat) : Int) * 2) = (((u % 100000000) / 10000 / 100 * 2 : Nat) : Int) := w32 ((u % 100000000) / 10000 / 100 * 2) (by omega)
    have E7 : IntKind.u32.wrap (Int.tmod (((u % 100000000) / 10000 : Nat) : Int) 100 * 2) = (((u % 100000000) / 10000 % 100 * 2 : Nat) : Int) := w32 ((u % 100000000) / 10000 % 100 * 2) (by omega)
    have P0 : IntKind.u32.wrap ((((u % 100000000) % 10000 % 100 * 2 : Nat) : Int) + 1) = (((u % 100000000) % 10000 % 100 * 2 + 1 : Nat) : Int) := w32 ((u % 100000000) % 10000 % 100 * 2 + 1) (by omega)
    have P1 : IntKind.u32.wrap ((((u % 100000000) % 10000 / 100 * 2 : Nat) : Int) + 1) = (((u % 100000000) % 10000 / 100 * 2 + 1 : Nat) : Int) := w32 ((u % 100000000) % 10000 / 100 * 2 + 1) (by omega)
    have P2 : IntKind.u32.wrap ((((u % 100000000) / 10000 % 100 * 2 : Nat) : Int) + 1) = (((u % 100000000) / 10000 % 100 * 2 + 1 : Nat) : Int) := w32 ((u % 100000000) / 10000 % 100 * 2 + 1) (by omega)
    have P3 : IntKind.u32.wrap ((((u % 100000000) / 10000 / 100 * 2 : Nat) : Int) + 1) = (((u % 100000000) / 10000 / 100 * 2 + 1 : Nat) : Int) := w32 ((u % 100000000) / 10000 / 100 * 2 + 1) (by omega)
    have F0 : IntKind.u64.wrap (Int.tdiv ((u : Nat) : Int) 100000000) = ((u / 100000000 : Nat) : Int) := (w64u (u / 100000000) (by omega)).trans (by omega)
    iterate 8 refine W.need (by decide) ?_
    refine W.need (by simp only [E0, E1, E2, E3, E4, E5, E6, E7, P0, P1, P2, P3]; exact rng _ (by omega)) ?_
    refine W.need (by simp only [E0, E1, E2, E3, E4, E5, E6, E7, P0, P1, P2, P3]; exact rng _ (by omega)) ?_
    refine W.need (by decide) ?_
    refine W.need (by decide) ?_
    refine W.need (by simp only [E0, E1, E2, E3, E4, E5, E6, E7, P0, P1, P2, P3]; exact rng _ (by omega)) ?_
    refine W.need (by simp only [E0, E1, E2, E3, E4, E5, E6, E7, P0, P1, P2, P3]; exact rng _ (by omega)) ?_
    refine W.need (by decide) ?_
    refine W.need (by decide) ?_
    refine W.need (by simp only [E0, E1, E2, E3, E4, E5, E6, E7, P0, P1, P2, P3]; exact rng _ (by omega)) ?_
    refine W.need (by simp only [E0, E1, E2, E3, E4, E5, E6, E7, P0, P1, P2, P3]; exact rng _ (by omega)) ?_
    refine W.need (by decide) ?_
    refine W.need (by decide) ?_
    refine W.need (by simp only [E0, E1, E2, E3, E4, E5, E6, E7, P0, P1, P2, P3]; exact rng _ (by omega)) ?_
    refine W.need (by simp only [E0, E1, E2, E3, E4, E5, E6, E7, P0, P1, P2, P3]; exact rng _ (by omega)) ?_
    refine W.need (by decide) ?_
    refine W.need (by decide) ?_
    refine W.ret ⟨_, _, _, ?_, Trim.of [0, 1, 4] [0] (by decide) (by simp) kp1, .inr (.inl ⟨rfl, ?_, ?_⟩)⟩
    · decide
    · rw [← F0]; rfl
    · show [Blk.var _] = [Blk.var [zC, zC, zC, zC, zC, zC, zC, zC, zC, zC, zC, zC, dC u 10000000, dC u 1000000, dC u 100000, dC u 10000, dC u 1000, dC u 100, dC u 10, dC u 1, zC, zC, zC, zC]]
      simp only [E0, E1, E2, E3, E4, E5, E6, E7, P0, P1, P2, P3]
      refine congrArg (fun l => [Blk.var l]) (congrArg (List.cons zC) ?_)
      refine congrArg (List.cons zC) ?_
      refine congrArg (List.cons zC) ?_
      refine congrArg (List.cons zC) ?_
      refine congrArg (List.cons zC) ?_
      refine congrArg (List.cons zC) ?_
      refine congrArg (List.cons zC) ?_
      refine congrArg (List.cons zC) ?_
      refine congrArg (List.cons zC) ?_
      refine congrArg (List.cons zC) ?_
      refine congrArg (List.cons zC) ?_
      refine congrArg (List.cons zC) ?_
      refine cons_eq (by
    have hq : ((u % 100000000) / 10000 / 100) < 100 := by omega
    have hv : u / 10000000 % 10 = ((u % 100000000) / 10000 / 100) / 10 := by omega
    unfold dC
    rw [hv]
    refine congrArg (fun n : Nat => AV.d (.lit (.int .u8 (n : Int)))) ?_
    generalize ((u % 100000000) / 10000 / 100) = q at hq ⊢
    clear hv
    revert q
    decide +kernel) ?_
      refine cons_eq (by
    have hq : ((u % 100000000) / 10000 / 100) < 100 := by omega
    have hv : u / 1000000 % 10 = ((u % 100000000) / 10000 / 100) % 10 := by omega
    unfold dC
    rw [hv]
    refine congrArg (fun n : Nat => AV.d (.lit (.int .u8 (n : Int)))) ?_
    generalize ((u % 100000000) / 10000 / 100) = q at hq ⊢
    clear hv
    revert q
    decide +kernel) ?_
      refine cons_eq (by
    have hq : ((u % 100000000) / 10000 % 100) < 100 := by omega
    have hv : u / 100000 % 10 = ((u % 100000000) / 10000 % 100) / 10 := by omega
    unfold dC
    rw [hv]
    refine congrArg (fun n : Nat => AV.d (.lit (.int .u8 (n : Int)))) ?_
    generalize ((u % 100000000) / 10000 % 100) = q at hq ⊢
    clear hv
    revert q
    decide +kernel) ?_
      refine cons_eq (by
    have hq : ((u % 100000000) / 10000 % 100) < 100 := by omega
    have hv : u / 10000 % 10 = ((u % 100000000) / 10000 % 100) % 10 := by omega
    unfold dC
    rw [hv]
    refine congrArg (fun n : Nat => AV.d (.lit (.int .u8 (n : Int)))) ?_
    generalize ((u % 100000000) / 10000 % 100) = q at hq ⊢
    clear hv
    revert q
    decide +kernel) ?_
      refine cons_eq (by
    have hq : ((u % 100000000) % 10000 / 100) < 100 := by omega
    have hv : u / 1000 % 10 = ((u % 100000000) % 10000 / 100) / 10 := by omega
    unfold dC
    rw [hv]
    refine congrArg (fun n : Nat => AV.d (.lit (.int .u8 (n : Int)))) ?_
    generalize ((u % 100000000) % 10000 / 100) = q at hq ⊢
    clear hv
    revert q
    decide +kernel) ?_
      refine cons_eq (by
    have hq : ((u % 100000000) % 10000 / 100) < 100 := by omega
    have hv : u / 100 % 10 = ((u % 100000000) % 10000 / 100) % 10 := by omega
    unfold dC
    rw [hv]
    refine congrArg (fun n : Nat => AV.d (.lit (.int .u8 (n : Int)))) ?_
    generalize ((u % 100000000) % 10000 / 100) = q at hq ⊢
    clear hv
    revert q
    decide +kernel) ?_
      refine cons_eq (by
    have hq : ((u % 100000000) % 10000 % 100) < 100 := by omega
    have hv : u / 10 % 10 = ((u % 100000000) % 10000 % 100) / 10 := by omega
    unfold dC
    rw [hv]
    refine congrArg (fun n : Nat => AV.d (.lit (.int .u8 (n : Int)))) ?_
    generalize ((u % 100000000) % 10000 % 100) = q at hq ⊢
    clear hv
    revert q
    decide +kernel) ?_
      refine cons_eq (by
    have hq : ((u % 100000000) % 10000 % 100) < 100 := by omega
    have hv : u / 1 % 10 = ((u % 100000000) % 10000 % 100) % 10 := by omega
    unfold dC
    rw [hv]
    refine congrArg (fun n : Nat => AV.d (.lit (.int .u8 (n : Int)))) ?_
    generalize ((u % 100000000) % 10000 % 100) = q at hq ⊢
    clear hv
    revert q
    decide +kernel) ?_
      rfl
  · refine W.ite_t rfl ?_
    have E0 : IntKind.u32.wrap (Int.tmod (((u / 100000000) : Nat) : Int) 100000000) = (((u / 100000000) % 100000000 : Nat) : Int) := w32 ((u / 100000000) % 100000000) (by omega)
    have E1 : IntKind.u32.wrap (Int.tdiv ((((u / 100000000) % 100000000) : Nat) : Int) 10000) = ((((u / 100000000) % 100000000) / 10000 : Nat) : Int) := w32 (((u / 100000000) % 100000000) / 10000) (by omega)
    have E2 : IntKind.u32.wrap (Int.tdiv (Int.tmod ((((u / 100000000) % 100000000) : Nat) : Int) 10000) 100) = ((((u / 100000000) % 100000000) % 10000 / 100 : Nat) : Int) := w32 (((u / 100000000) % 100000000) % 10000 / 100) (by omega)
    have E3 : IntKind.u32.wrap (((((u / 100000000) % 100000000) % 10000 / 100 : Nat) : Int) * 2) = ((((u / 100000000) % 100000000) % 10000 / 100 * 2 : Nat) : Int) := w32 (((u / 100000000) % 100000000) % 10000 / 100 * 2) (by omega)
    have E4 : IntKind.u32.wrap (Int.tmod (Int.tmod ((((u / 100000000) % 100000000) : Nat) : Int) 10000) 100 * 2) = ((((u / 100000000) % 100000000) % 10000 % 100 * 2 : Nat) : Int) := w32 (((u / 100000000) % 100000000) % 10000 % 100 * 2) (by omega)
    have E5 : IntKind.u32.wrap (Int.tdiv ((((u / 100000000) % 100000000) / 10000 : Nat) : Int) 100) = ((((u / 100000000) % 100000000) / 10000 / 100 : Nat) : Int) := w32 (((u / 100000000) % 100000000) / 10000 / 100) (by omega)
    have E6 : IntKind.u32.wrap (((((u / 100000000) % 100000000) / 10000 / 100 : Nat) : Int) * 2) = ((((u / 100000000) % 100000000) / 10000 / 100 * 2 : Nat) : Int) := w32 (((u / 100000000) % 100000000) / 10000 / 100 * 2) (by omega)
    have E7 : IntKind.u32.wrap (Int.tmod ((((u / 100000000) % 100000000) / 10000 : Nat) : Int) 100 * 2) = ((((u / 100000000) % 100000000) / 10000 % 100 * 2 : Nat) : Int) := w32 (((u / 100000000) % 100000000) / 10000 % 100 * 2) (by omega)
    have P0 : IntKind.u32.wrap (((((u / 100000000) % 100000000) % 10000 % 100 * 2 : Nat) : Int) + 1) = ((((u / 100000000) % 100000000) % 10000 % 100 * 2 + 1 : Nat) : Int) := w32 (((u / 100000000) % 100000000) % 10000 % 100 * 2 + 1) (by omega)
    have P1 : IntKind.u32.wrap (((((u / 100000000) % 100000000) % 10000 / 100 * 2 : Nat) : Int) + 1) = ((((u / 100000000) % 100000000) % 10000 / 100 * 2 + 1 : Nat) : Int) := w32 (((u / 100000000) % 100000000) % 10000 / 100 * 2 + 1) (by omega)
    have P2 : IntKind.u32.wrap (((((u / 100000000) % 100000000) / 10000 % 100 * 2 : Nat) : Int) + 1) = ((((u / 100000000) % 100000000) / 10000 % 100 * 2 + 1 : Nat) : Int) := w32 (((u / 100000000) % 100000000) / 10000 % 100 * 2 + 1) (by omega)
    have P3 : IntKind.u32.wrap (((((u / 100000000) % 100000000) / 10000 / 100 * 2 : Nat) : Int) + 1) = ((((u / 100000000) % 100000000) / 10000 / 100 * 2 + 1 : Nat) : Int) := w32 (((u / 100000000) % 100000000) / 10000 / 100 * 2 + 1) (by omega)
    have F0 : IntKind.u64.wrap (Int.tdiv (((u / 100000000) : Nat) : Int) 100000000) = ((u / 10000000000000000 : Nat) : Int) := (w64u ((u / 100000000) / 100000000) (by omega)).trans (by omega)
    iterate 8 refine W.need (by decide) ?_
    refine W.need (by simp only [E0, E1, E2, E3, E4, E5, E6, E7, P0, P1, P2, P3]; exact rng _ (by omega)) ?_
    refine W.need (by simp only [E0, E1, E2, E3, E4, E5, E6, E7, P0, P1, P2, P3]; exact rng _ (by omega)) ?_
    refine W.need (by decide) ?_
    refine W.need (by decide) ?_
    refine W.need (by simp only [E0, E1, E2, E3, E4, E5, E6, E7, P0, P1, P2, P3]; exact rng _ (by omega)) ?_
    refine W.need (by simp only [E0, E1, E2, E3, E4, E5, E6, E7, P0, P1, P2, P3]; exact rng _ (by omega)) ?_
    refine W.need (by decide) ?_
    refine W.need (by decide) ?_
    refine W.need (by simp only [E0, E1, E2, E3, E4, E5, E6, E7, P0, P1, P2, P3]; exact rng _ (by omega)) ?_
    refine W.need (by simp only [E0, E1, E2, E3, E4, E5, E6, E7, P0, P1, P2, P3]; exact rng _ (by omega)) ?_
    refine W.need (by decide) ?_
    refine W.need (by decide) ?_
    refine W.need (by simp only [E0, E1, E2, E3, E4, E5, E6, E7, P0, P1, P2, P3]; exact rng _ (by omega)) ?_
    refine W.need (by simp only [E0, E1, E2, E3, E4, E5, E6, E7, P0, P1, P2, P3]; exact rng _ (by omega)) ?_
    refine W.need (by decide) ?_
    refine W.need (by decide) ?_
    refine W.ret ⟨_, _, _, ?_, Trim.of [0, 1, 4] [0] (by decide) (by simp) kp1, .inr (.inr (⟨rfl, ?_, ?_⟩))⟩
    · decide
    · rw [← F0]; rfl
    · show [Blk.var _] = [Blk.var [zC, zC, zC, zC, dC u 1000000000000000, dC u 100000000000000, dC u 10000000000000, dC u 1000000000000, dC u 100000000000, dC u 10000000000, dC u 1000000000, dC u 100000000, dC u 10000000, dC u 1000000, dC u 100000, dC u 10000, dC u 1000, dC u 100, dC u 10, dC u 1, zC, zC, zC, zC]]
      simp only [E0, E1, E2, E3, E4, E5, E6, E7, P0, P1, P2, P3]
      refine congrArg (fun l => [Blk.var l]) (congrArg (List.cons zC) ?_)
      refine congrArg (List.cons zC) ?_
      refine congrArg (List.cons zC) ?_
      refine congrArg (List.cons zC) ?_
      refine cons_eq (by
    have hq : (((u / 100000000) % 100000000) / 10000 / 100) < 100 := by omega
    have hv : u / 1000000000000000 % 10 = (((u / 100000000) % 100000000) / 10000 / 100) / 10 := by omega
    unfold dC
    rw [hv]
    refine congrArg (fun n : Nat => AV.d (.lit (.int .u8 (n : Int)))) ?_
    generalize (((u / 100000000) % 100000000) / 10000 / 100) = q at hq ⊢
    clear hv
    revert q
    decide +kernel) ?_
      refine cons_eq (by
    have hq : (((u / 100000000) % 100000000) / 10000 / 100) < 100 := by omega
    have hv : u / 100000000000000 % 10 = (((u / 100000000) % 100000000) / 10000 / 100) % 10 := by omega
    unfold dC
    rw [hv]
    refine congrArg (fun n : Nat => AV.d (.lit (.int .u8 (n : Int)))) ?_
    generalize (((u / 100000000) % 100000000) / 10000 / 100) = q at hq ⊢
    clear hv
    revert q
    decide +kernel) ?_
      refine cons_eq (by
    have hq : (((u / 100000000) % 100000000) / 10000 % 100) < 100 := by omega
    have hv : u / 10000000000000 % 10 = (((u / 100000000) % 100000000) / 10000 % 100) / 10 := by omega
    unfold dC
    rw [hv]
    refine congrArg (fun n : Nat => AV.d (.lit (.int .u8 (n : Int)))) ?_
    generalize (((u / 100000000) % 100000000) / 10000 % 100) = q at hq ⊢
    clear hv
    revert q
    decide +kernel) ?_
      refine cons_eq (by
    have hq : (((u / 100000000) % 100000000) / 10000 % 100) < 100 := by omega
    have hv : u / 1000000000000 % 10 = (((u / 100000000) % 100000000) / 10000 % 100) % 10 := by omega
    unfold dC
    rw [hv]
    refine congrArg (fun n : Nat => AV.d (.lit (.int .u8 (n : Int)))) ?_
    generalize (((u / 100000000) % 100000000) / 10000 % 100) = q at hq ⊢
    clear hv
    revert q
    decide +kernel) ?_
      refine cons_eq (by
    have hq : (((u / 100000000) % 100000000) % 10000 / 100) < 100 := by omega
    have hv : u / 100000000000 % 10 = (((u / 100000000) % 100000000) % 10000 / 100) / 10 := by omega
    unfold dC
    rw [hv]
    refine congrArg (fun n : Nat => AV.d (.lit (.int .u8 (n : Int)))) ?_
    generalize (((u / 100000000) % 100000000) % 10000 / 100) = q at hq ⊢
    clear hv
    revert q
    decide +kernel) ?_
      refine cons_eq (by
    have hq : (((u / 100000000) % 100000000) % 10000 / 100) < 100 := by omega
    have hv : u / 10000000000 % 10 = (((u / 100000000) % 100000000) % 10000 / 100) % 10 := by omega
    unfold dC
    rw [hv]
    refine congrArg (fun n : Nat => AV.d (.lit (.int .u8 (n : Int)))) ?_
    generalize (((u / 100000000) % 100000000) % 10000 / 100) = q at hq ⊢
    clear hv
    revert q
    decide +kernel) ?_
      refine cons_eq (by
    have hq : (((u / 100000000) % 100000000) % 10000 % 100) < 100 := by omega
    have hv : u / 1000000000 % 10 = (((u / 100000000) % 100000000) % 10000 % 100) / 10 := by omega
    unfold dC
    rw [hv]
    refine congrArg (fun n : Nat => AV.d (.lit (.int .u8 (n : Int)))) ?_
    generalize (((u / 100000000) % 100000000) % 10000 % 100) = q at hq ⊢
    clear hv
    revert q
    decide +kernel) ?_
      refine cons_eq (by
    have hq : (((u / 100000000) % 100000000) % 10000 % 100) < 100 := by omega
    have hv : u / 100000000 % 10 = (((u / 100000000) % 100000000) % 10000 % 100) % 10 := by omega
    unfold dC
    rw [hv]
    refine congrArg (fun n : Nat => AV.d (.lit (.int .u8 (n : Int)))) ?_
    generalize (((u / 100000000) % 100000000) % 10000 % 100) = q at hq ⊢
    clear hv
    revert q
    decide +kernel) ?_
      rfl
  · refine W.ite_f rfl ?_
    refine W.ret ?_
    have T0 : IntKind.u32.wrap (((u / 10000000000000000) : Nat) : Int) = (((u / 10000000000000000) : Nat) : Int) := w32 ((u / 10000000000000000)) (by omega)
    have T5 : IntKind.u32.wrap (Int.tmod (((u / 10000000000000000) : Nat) : Int) 100 * 2) = (((u / 10000000000000000) % 100 * 2 : Nat) : Int) := w32 ((u / 10000000000000000) % 100 * 2) (by omega)
    have T6 : IntKind.u32.wrap (Int.tdiv (((u / 10000000000000000) : Nat) : Int) 100) = (((u / 10000000000000000) / 100 : Nat) : Int) := w32 ((u / 10000000000000000) / 100) (by omega)
    have Q2 : IntKind.u32.wrap ((((u / 10000000000000000) % 100 * 2 : Nat) : Int) + 1) = (((u / 10000000000000000) % 100 * 2 + 1 : Nat) : Int) := w32 ((u / 10000000000000000) % 100 * 2 + 1) (by omega)
    have T7 : IntKind.u32.wrap (48 + ((((u / 10000000000000000) / 100) : Nat) : Int)) = ((48 + ((u / 10000000000000000) / 100) : Nat) : Int) := w32 (48 + ((u / 10000000000000000) / 100)) (by omega)
    have T8 : IntKind.u8.wrap ((48 + ((u / 10000000000000000) / 100) : Nat) : Int) = ((48 + ((u / 10000000000000000) / 100) : Nat) : Int) := w8 _ (by omega)
    refine W.ite_f rfl ?_
    refine W.ite_t rfl ?_
    iterate 2 refine W.need (by decide) ?_
    refine W.need (by simp only [T0, T5, T6, Q2, T7, T8]; exact rng _ (by omega)) ?_
    refine W.need (by simp only [T0, T5, T6, Q2, T7, T8]; exact rng _ (by omega)) ?_
    refine W.need (by decide) ?_
    refine W.need (by decide) ?_
    refine W.ite_t rfl ?_
    refine W.need (by decide) ?_
    refine W.ret (RetQ.all ⟨rfl, ?_⟩)
    show [Blk.var _] = [Blk.var [zC, dC u 1000000000000000000, dC u 100000000000000000, dC u 10000000000000000, dC u 1000000000000000, dC u 100000000000000, dC u 10000000000000, dC u 1000000000000, dC u 100000000000, dC u 10000000000, dC u 1000000000, dC u 100000000, dC u 10000000, dC u 1000000, dC u 100000, dC u 10000, dC u 1000, dC u 100, dC u 10, dC u 1, zC, zC, zC, zC]]
    simp only [T0, T5, T6, Q2, T7, T8]
    refine congrArg (fun l => [Blk.var l]) (congrArg (List.cons zC) ?_)
    refine cons_eq (by
        have hv : u / 1000000000000000000 % 10 = ((u / 10000000000000000) / 100) := by omega
        unfold dC
        rw [hv]) ?_
    refine cons_eq (by
    have hq : ((u / 10000000000000000) % 100) < 100 := by omega
    have hv : u / 100000000000000000 % 10 = ((u / 10000000000000000) % 100) / 10 := by omega
    unfold dC
    rw [hv]
    refine congrArg (fun n : Nat => AV.d (.lit (.int .u8 (n : Int)))) ?_
    generalize ((u / 10000000000000000) % 100) = q at hq ⊢
    clear hv
    revert q
    decide +kernel) ?_
    refine cons_eq (by
    have hq : ((u / 10000000000000000) % 100) < 100 := by omega
    have hv : u / 10000000000000000 % 10 = ((u / 10000000000000000) % 100) % 10 := by omega
    unfold dC
    rw [hv]
    refine congrArg (fun n : Nat => AV.d (.lit (.int .u8 (n : Int)))) ?_
    generalize ((u / 10000000000000000) % 100) = q at hq ⊢
    clear hv
    revert q
    decide +kernel) ?_
    rfl
end Go.Proofs.YtbjjimllnffcpaaGreatDoor.Va
