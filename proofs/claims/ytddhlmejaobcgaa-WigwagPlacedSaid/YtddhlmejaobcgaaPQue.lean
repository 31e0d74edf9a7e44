import Derived.Test.YtddhlmejaobcgaaPQud
set_option maxRecDepth 100000
set_option linter.unusedVariables false
set_option linter.unusedSimpArgs false
/- Sorting in place: patterns broken, all of it. -/
namespace Go.Proofs.Ytddhlmejaobcgaa.Pu
open Go Go.Am Co
def od81 : Ords := []
theorem code81 : codeB Try.f81.ntmps od81 (match Try.f81.body with | some c => c | none => .skip) = true := by kernel_rfl
def od62 : Ords := []
theorem code62 : codeB Try.f62.ntmps od62 (match Try.f62.body with | some c => c | none => .skip) = true := by kernel_rfl
def od93 : Ords := []
theorem code93 : codeB Try.f93.ntmps od93 (match Try.f93.body with | some c => c | none => .skip) = true := by kernel_rfl
def od94 : Ords := [(1, [0, 1, 2, 3, 4, 5, 6, 7, 8, 1009]), (2, [0, 1, 2, 3, 4, 5, 6, 7, 8, 1009]), (3, [0, 1, 2, 3, 4, 5, 6, 7, 8, 1009])]
theorem code94 : codeB Try.f94.ntmps od94 (match Try.f94.body with | some c => c | none => .skip) = true := by kernel_rfl
def od74 : Ords := [(10, [0, 1, 2, 3, 4, 5, 6, 7, 8, 9, 10, 11, 12, 13, 14, 15, 16, 1017, 18, 1019])]
theorem code74 : codeB Try.f74.ntmps od74 (match Try.f74.body with | some c => c | none => .skip) = true := by kernel_rfl
def od61 : Ords := [(17, [0, 1, 2, 3, 4, 5, 6, 7, 8, 9, 10, 11, 1012, 13, 14])]
theorem code61 : codeB Try.f61.ntmps od61 (match Try.f61.body with | some c => c | none => .skip) = true := by kernel_rfl
abbrev qU (z : Int) : D := .lit (.int .u64 z)
theorem wU {x : Int} (h : 0 ≤ x ∧ x < 18446744073709551616) : IntKind.u64.wrap x = x := by
  rw [show IntKind.u64.wrap x = (if (false && decide (x % (2 ^ 64 : Int) ≥ (2 ^ 63 : Int))) = true then x % (2 ^ 64 : Int) - (2 ^ 64 : Int) else x % (2 ^ 64 : Int)) from rfl]
  rw [if_neg (by simp)]
  have e1 : (2 : Int) ^ 64 = 18446744073709551616 := by decide
  rw [e1]; omega
def lenT (n : Nat) : Nat := if n = 0 then 0 else if n < 2 then 1 else if n < 4 then 2 else if n < 8 then 3 else if n < 16 then 4 else if n < 32 then 5 else 6
theorem retN {a b : Int} (h : a = b) : mkRet [.d (.lit (.int .i64 a))] = .d (nI b) := by subst h; rfl
theorem ok81 (n : Nat) (h : n < 64) : Go.Am.Pure Try.prog 81 [.d (qU n)] (.d (nI (lenT n))) := by
  refine CallOk.of tysOk mixed od81 Try.func81 rfl rfl code81 ?_
  refine W.ite_f (decide_eq_false (by omega)) ?_
  refine W.ite_f (decide_eq_false (by omega)) ?_
  refine W.ite_f (decide_eq_false (by omega)) ?_
  refine W.need ?_ ?_
  · revert n; decide +kernel
  refine W.ret (RetQ.pure rfl (retN ?_))
  revert n; decide +kernel
theorem ok62 (n : Nat) (h : n < 64) : Go.Am.Pure Try.prog 62 [.d (qU n)] (.d (nI (lenT n))) := by
  refine CallOk.of tysOk mixed od62 Try.func62 rfl rfl code62 ?_
  refine W.ite_f rfl ?_
  exact W.pure (ok81 n h) rfl rfl (W.ret (RetQ.pure rfl rfl))
theorem ok93 (l : Nat) (h1 : 8 ≤ l) (h : l < 50) : Go.Am.Pure Try.prog 93 [.d (nI l)] (.d (qU ((if l < 16 then 16 else if l < 32 then 32 else 64 : Nat) : Int))) := by
  refine CallOk.of tysOk mixed od93 Try.func93 rfl rfl code93 ?_
  refine W.callT [] (ok62 l (by omega)) (by decide) rfl rfl (by rw [wU (by omega)]; rfl) rfl ?_
  rintro v σ ⟨rfl, rfl⟩
  refine W.need (by omega) ?_
  refine W.ret (RetQ.pure rfl ?_)
  revert h1 h
  revert l
  have : ∀ l, l < 50 → 8 ≤ l → IntKind.u64.wrap (1 * 2 ^ min ((lenT l : Nat) : Int).toNat IntKind.u64.bits) = ((if l < 16 then 16 else if l < 32 then 32 else 64 : Nat) : Int) := by decide +kernel
  intro l h1 h
  exact congrArg (fun x => AV.d (qU x)) (this l h h1)
theorem ok94 (r : Int) : CallOk Try.prog 94 [.ptr 0 0] [.var [.d (qU r)]] (fun v s => ∃ r', v = .d (qU r') ∧ s = [.var [.d (qU r')]]) := by
  refine CallOk.of tysOk mixed od94 Try.func94 rfl rfl code94 ?_
  refine W.need (by decide) ?_
  refine W.need (by decide) ?_
  refine W.need (by decide) ?_
  exact W.ret (RetQ.all ⟨_, rfl, rfl⟩)
theorem and_le (r : Int) (M : Nat) (h1 : 1 ≤ M) (h2 : M ≤ 128) : ∃ o : Nat, IntKind.i64.wrap (IntKind.u64.wrap ((BitVec.ofInt IntKind.u64.bits r &&& BitVec.ofInt IntKind.u64.bits (IntKind.u64.wrap ((M : Int) - 1))).toNat)) = (o : Int) ∧ o < M := by
  rw [wU (x := (M : Int) - 1) (by omega)]
  have hle : (BitVec.ofInt IntKind.u64.bits r &&& BitVec.ofInt IntKind.u64.bits ((M : Int) - 1)).toNat ≤ M - 1 := by
    rw [BitVec.toNat_and]
    refine Nat.le_trans Nat.and_le_right ?_
    rw [BitVec.toNat_ofInt]
    have : ((2 ^ IntKind.u64.bits : Nat) : Int) = 18446744073709551616 := by decide
    rw [this]
    omega
  refine ⟨(BitVec.ofInt IntKind.u64.bits r &&& BitVec.ofInt IntKind.u64.bits ((M : Int) - 1)).toNat, ?_, by omega⟩
  rw [wU (by omega), wI (by omega)]
set_option maxHeartbeats 4000000 in
theorem ok74 {n : Nat} (zs : List Int) (a b : Nat) (hl0 : zs.length = n) (hab : a + 8 ≤ b) (hab2 : b < a + 50) (hb : b ≤ n) (hn : n ≤ 1000000) :
    CallOk Try.prog 74 [rV n, .d (nI a), .d (nI b)] [rB zs] (Mv a b zs fun v zs' => v = .tuple []) := by
  refine CallOk.of tysOk mixed od74 Try.func74 rfl rfl code74 ?_
  obtain ⟨l, hl⟩ : ∃ l, b - a = l := ⟨_, rfl⟩
  have el : IntKind.i64.wrap ((b : Int) - (a : Int)) = (l : Int) := by rw [wI (by omega)]; omega
  obtain ⟨M, hM⟩ : ∃ M, (if l < 16 then 16 else if l < 32 then 32 else 64 : Nat) = M := ⟨_, rfl⟩
  have hM2 : 1 ≤ M ∧ M ≤ 128 ∧ M ≤ 2 * l := by
    by_cases q1 : l < 16
    · rw [if_pos q1] at hM; omega
    · by_cases q2 : l < 32
      · rw [if_neg q1, if_pos q2] at hM; omega
      · rw [if_neg q1, if_neg q2] at hM; omega
  have kN : Go.Am.Pure Try.prog 93 [.d (nI (IntKind.i64.wrap ((b : Int) - (a : Int))))] (.d (qU M)) := by rw [el, ← hM]; exact ok93 l (by omega) (by omega)
  have e2 : ∀ x : Int, x = (l : Int) → IntKind.i64.wrap ((a : Int) + IntKind.i64.wrap (IntKind.i64.wrap (x.tdiv 4) * 2)) = ((a + l / 4 * 2 : Nat) : Int) := fun x hx => by
    rw [hx, Int.tdiv_eq_ediv_of_nonneg (by omega), wI (x := (l : Int) / 4) (by omega), wI (x := (l : Int) / 4 * 2) (by omega), wI (by omega)]; omega
  have e3 : IntKind.i64.wrap (IntKind.i64.wrap ((a : Int) + IntKind.i64.wrap (IntKind.i64.wrap ((IntKind.i64.wrap ((b : Int) - (a : Int))).tdiv 4) * 2)) - 1) = ((a + l / 4 * 2 - 1 : Nat) : Int) := by
    rw [e2 _ el, wI (by omega)]; omega
  have e4 : IntKind.i64.wrap (IntKind.i64.wrap ((a : Int) + IntKind.i64.wrap (IntKind.i64.wrap (((l : Int)).tdiv 4) * 2)) + 1) = ((a + l / 4 * 2 + 1 : Nat) : Int) := by
    rw [e2 _ rfl, wI (by omega)]; rfl
  refine W.ite_t (decide_eq_true (by rw [el]; omega)) ?_
  refine W.pure kN rfl rfl ?_
  refine W.need (by decide) ?_
  refine W.loop (fun k fr σ => ∃ (i : Nat) (r : Int) (xs : List Int), fr = [(0, rV n), (1, .d (nI a)), (2, .d (nI b)), (6, .d (nI l)), (7, .ptr 1 0), (8, .d (qU M)), (9, .d (nI i))] ∧ σ = [rB xs, .var [.d (qU r)]] ∧ Sg a b zs xs ∧ a ≤ i ∧ i ≤ a + l / 4 * 2 + 2 ∧ k = a + l / 4 * 2 + 2 - i) (a + l / 4 * 2 + 2 - (a + l / 4 * 2 - 1))
    (Start.of [0, 1, 2, 6, 7, 8, 9] [] (by simp)) ⟨a + l / 4 * 2 - 1, _, zs, by rw [← e3, ← el]; rfl, rfl, Sg.refl _ _ _, by omega, by omega, rfl⟩ ?_
  rintro k fr σ ⟨i, r, xs, rfl, rfl, hX, h1, h2, rfl⟩
  have hlx := hX.len
  refine W.need (by decide) ?_
  by_cases hi : i ≤ a + l / 4 * 2 + 1
  · refine W.ite_t (decide_eq_true (by rw [e4]; omega)) ?_
    refine W.callT [1] (ok94 r) (by decide) rfl rfl rfl rfl ?_
    rintro v σ ⟨r', rfl, rfl⟩
    obtain ⟨o, ho, hoM⟩ := and_le r' M hM2.1 hM2.2.1
    have gi : IntKind.i64.wrap ((i : Int) + 1) = ((i + 1 : Nat) : Int) := by rw [wI (by omega)]; rfl
    by_cases hol : l ≤ o
    · have ey : IntKind.i64.wrap ((a : Int) + IntKind.i64.wrap (IntKind.i64.wrap (IntKind.u64.wrap ((BitVec.ofInt IntKind.u64.bits r' &&& BitVec.ofInt IntKind.u64.bits (IntKind.u64.wrap ((M : Int) - 1))).toNat)) - (l : Int))) = ((a + (o - l) : Nat) : Int) := by
        rw [ho, wI (x := (o : Int) - (l : Int)) (by omega), wI (by omega)]; omega
      refine W.ite_t (decide_eq_true (by rw [ho]; omega)) ?_
      refine W.need (ixI ey (show a + (o - l) < n by omega)) ?_
      refine W.ld (eEI ey (show a + (o - l) < xs.length by omega)) ?_
      refine W.need (ixI (show (i : Int) = (i : Int) from rfl) (show i < n by omega)) ?_
      refine W.ld (eEI (show (i : Int) = (i : Int) from rfl) (show i < xs.length by omega)) ?_
      refine W.need (ixI (show (i : Int) = (i : Int) from rfl) (show i < n by omega)) ?_
      refine W.need (st0 (show (i : Int) = (i : Int) from rfl) (show i < xs.length by omega)) ?_
      refine W.need (ixI ey (show a + (o - l) < n by omega)) ?_
      refine W.need (st1 (show (i : Int) = (i : Int) from rfl) ey (show i < xs.length by omega) (show a + (o - l) < xs.length by omega)) ?_
      refine W.ret ⟨_, _, _, ?_, Trim.of [0, 1, 2, 6, 7, 8, 9] [0, 1] (by decide) (by simp) keepR2, i + 1, r', sw xs i (a + (o - l)), ?_, ?_, hX.trans (Sg.sw ⟨by omega, by omega⟩ ⟨by omega, by omega⟩ (by omega)), by omega, by omega, rfl⟩
      · omega
      · rw [← gi]; rfl
      · exact congrArg (fun x : Store => x ++ [.var [.d (qU r')]]) (swI (zs := xs) (i := i) (j := a + (o - l)) rfl ey (by omega) (by omega))
    · have ey : IntKind.i64.wrap ((a : Int) + IntKind.i64.wrap (IntKind.u64.wrap ((BitVec.ofInt IntKind.u64.bits r' &&& BitVec.ofInt IntKind.u64.bits (IntKind.u64.wrap ((M : Int) - 1))).toNat))) = ((a + o : Nat) : Int) := by
        rw [ho, wI (by omega)]; rfl
      refine W.ite_f (decide_eq_false (by rw [ho]; omega)) ?_
      refine W.need (ixI ey (show a + o < n by omega)) ?_
      refine W.ld (eEI ey (show a + o < xs.length by omega)) ?_
      refine W.need (ixI (show (i : Int) = (i : Int) from rfl) (show i < n by omega)) ?_
      refine W.ld (eEI (show (i : Int) = (i : Int) from rfl) (show i < xs.length by omega)) ?_
      refine W.need (ixI (show (i : Int) = (i : Int) from rfl) (show i < n by omega)) ?_
      refine W.need (st0 (show (i : Int) = (i : Int) from rfl) (show i < xs.length by omega)) ?_
      refine W.need (ixI ey (show a + o < n by omega)) ?_
      refine W.need (st1 (show (i : Int) = (i : Int) from rfl) ey (show i < xs.length by omega) (show a + o < xs.length by omega)) ?_
      refine W.ret ⟨_, _, _, ?_, Trim.of [0, 1, 2, 6, 7, 8, 9] [0, 1] (by decide) (by simp) keepR2, i + 1, r', sw xs i (a + o), ?_, ?_, hX.trans (Sg.sw ⟨by omega, by omega⟩ ⟨by omega, by omega⟩ (by omega)), by omega, by omega, rfl⟩
      · omega
      · rw [← gi]; rfl
      · exact congrArg (fun x : Store => x ++ [.var [.d (qU r')]]) (swI (zs := xs) (i := i) (j := a + o) rfl ey (by omega) (by omega))
  · refine W.ite_f (decide_eq_false (by rw [e4]; omega)) ?_
    refine W.ret ?_
    exact W.ret (RetQ.part [0] (by decide) (by intro q hq; obtain rfl := List.mem_singleton.1 hq; show 0 < 2; decide) keepR ⟨xs, rfl, hX, rfl⟩)
end Go.Proofs.Ytddhlmejaobcgaa.Pu
