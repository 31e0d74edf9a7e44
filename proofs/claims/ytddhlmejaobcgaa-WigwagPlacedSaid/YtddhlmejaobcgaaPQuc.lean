import Derived.Test.YtddhlmejaobcgaaPQub
set_option maxRecDepth 100000
set_option linter.unusedVariables false
set_option linter.unusedSimpArgs false
/- Sorting in place: pivots and partitions. -/
namespace Go.Proofs.Ytddhlmejaobcgaa.Pu
open Go Go.Am Co
def od75 : Ords := []
theorem code75 : codeB Try.f75.ntmps od75 (match Try.f75.body with | some c => c | none => .skip) = true := by kernel_rfl
def od101 : Ords := [(1, [0, 1, 2, 3, 4, 5, 6, 7, 1008])]
theorem code101 : codeB Try.f101.ntmps od101 (match Try.f101.body with | some c => c | none => .skip) = true := by kernel_rfl
def od96 : Ords := []
theorem code96 : codeB Try.f96.ntmps od96 (match Try.f96.body with | some c => c | none => .skip) = true := by kernel_rfl
def od77 : Ords := [(5, [0, 1, 2, 3, 4, 5, 6, 7, 8, 9, 10, 11, 12, 1013, 14, 15]), (11, [0, 1, 2, 3, 4, 5, 6, 7, 8, 9, 10, 11, 12, 13, 14, 1015, 16, 1017]), (16, [0, 1, 2, 3, 4, 5, 6, 7, 8, 1009, 10]), (17, [0, 1, 2, 3, 4, 5, 6, 7, 8, 9, 10, 11, 12, 13, 14, 1015, 16, 1017]), (22, [0, 1, 2, 3, 4, 5, 6, 7, 8, 1009, 10]), (23, [0, 1, 2, 3, 4, 5, 6, 7, 8, 9, 10, 11, 12, 13, 14, 1015, 16, 1017])]
theorem code77 : codeB Try.f77.ntmps od77 (match Try.f77.body with | some c => c | none => .skip) = true := by kernel_rfl
abbrev vB (k : Int) : Blk := .var [.d (nI k)]
theorem keepR2 (q : Nat) (h : q < 2) : [0, 1][q]? = some q := by
  have : q = 0 ∨ q = 1 := by omega
  rcases this with rfl | rfl <;> rfl
theorem ok101 {n : Nat} (zs : List Int) (i j : Nat) (k : Int) (hl0 : zs.length = n) (hi : i < n) (hj : j < n) (hk : 0 ≤ k ∧ k ≤ 100) :
    CallOk Try.prog 101 [rV n, .d (nI i), .d (nI j), .ptr 1 0] [rB zs, vB k] (fun v s => ∃ (x y : Nat) (k' : Int), v = .tuple [.d (nI x), .d (nI y)] ∧ s = [rB zs, vB k'] ∧ (x = i ∨ x = j) ∧ (y = i ∨ y = j) ∧ k ≤ k' ∧ k' ≤ k + 1) := by
  refine CallOk.of tysOk mixed od101 Try.func101 rfl rfl code101 ?_
  refine W.need (ixI (i := j) rfl hj) ?_
  refine W.ld (eEI (i := j) rfl (by omega)) ?_
  refine W.need (ixI (i := i) rfl hi) ?_
  refine W.ld (eEI (i := i) rfl (by omega)) ?_
  refine W.pure (ok63 _ _) rfl rfl ?_
  refine W.ite (fun c => ?_) (fun c => ?_)
  · exact W.ret (RetQ.all ⟨j, i, k + 1, rfl, by show [rB zs, vB (IntKind.i64.wrap (k + 1))] = _; rw [wI (by omega)], .inr rfl, .inl rfl, by omega, by omega⟩)
  · exact W.ret (RetQ.all ⟨i, j, k, rfl, rfl, .inl rfl, .inr rfl, by omega, by omega⟩)
theorem ok96 {n : Nat} (zs : List Int) (i j l : Nat) (k : Int) (hl0 : zs.length = n) (hi : i < n) (hj : j < n) (hl : l < n) (hk : 0 ≤ k ∧ k ≤ 50) :
    CallOk Try.prog 96 [rV n, .d (nI i), .d (nI j), .d (nI l), .ptr 1 0] [rB zs, vB k] (fun v s => ∃ (x : Nat) (k' : Int), v = .d (nI x) ∧ s = [rB zs, vB k'] ∧ (x = i ∨ x = j ∨ x = l) ∧ k ≤ k' ∧ k' ≤ k + 3) := by
  refine CallOk.of tysOk mixed od96 Try.func96 rfl rfl code96 ?_
  refine W.callT [0, 1] (ok101 zs i j k hl0 hi hj (by omega)) (by decide) rfl rfl rfl rfl ?_
  rintro v σ ⟨a1, b1, k1, rfl, rfl, h1, h2, h3, h4⟩
  refine W.callT [0, 1] (ok101 zs b1 l k1 hl0 (by omega) hl (by omega)) (by decide) rfl rfl rfl rfl ?_
  rintro v σ ⟨a2, b2, k2, rfl, rfl, h5, h6, h7, h8⟩
  refine W.callT [0, 1] (ok101 zs a1 a2 k2 hl0 (by omega) (by omega) (by omega)) (by decide) rfl rfl rfl rfl ?_
  rintro v σ ⟨a3, b3, k3, rfl, rfl, h9, h10, h11, h12⟩
  exact W.ret (RetQ.all ⟨b3, k3, rfl, rfl, by omega, by omega, by omega⟩)
set_option maxHeartbeats 2000000 in
theorem ok75 {n : Nat} (zs : List Int) (a b : Nat) (hl0 : zs.length = n) (hab : a + 8 ≤ b) (hab2 : b < a + 50) (hb : b ≤ n) (hn : n ≤ 1000000) :
    CallOk Try.prog 75 [rV n, .d (nI a), .d (nI b)] [rB zs] (fun v s => ∃ (x : Nat) (h : Int), v = .tuple [.d (nI x), .d (nI h)] ∧ s = [rB zs] ∧ a ≤ x ∧ x < b ∧ (h = 0 ∨ h = 1)) := by
  refine CallOk.of tysOk mixed od75 Try.func75 rfl rfl code75 ?_
  obtain ⟨l, hl⟩ : ∃ l, b - a = l := ⟨_, rfl⟩
  have el : IntKind.i64.wrap ((b : Int) - (a : Int)) = (l : Int) := by rw [wI (by omega)]; omega
  have e4 : IntKind.i64.wrap ((IntKind.i64.wrap ((b : Int) - (a : Int))).tdiv 4) = ((l / 4 : Nat) : Int) := by
    rw [el, Int.tdiv_eq_ediv_of_nonneg (by omega), wI (by omega)]; rfl
  have m1 : IntKind.i64.wrap ((a : Int) + IntKind.i64.wrap (IntKind.i64.wrap ((IntKind.i64.wrap ((b : Int) - (a : Int))).tdiv 4) * 1)) = ((a + l / 4 : Nat) : Int) := by
    rw [e4, wI (x := ((l / 4 : Nat) : Int) * 1) (by omega), wI (by omega)]; omega
  have m2 : IntKind.i64.wrap ((a : Int) + IntKind.i64.wrap (IntKind.i64.wrap ((IntKind.i64.wrap ((b : Int) - (a : Int))).tdiv 4) * 2)) = ((a + l / 4 * 2 : Nat) : Int) := by
    rw [e4, wI (x := ((l / 4 : Nat) : Int) * 2) (by omega), wI (by omega)]; omega
  have m3 : IntKind.i64.wrap ((a : Int) + IntKind.i64.wrap (IntKind.i64.wrap ((IntKind.i64.wrap ((b : Int) - (a : Int))).tdiv 4) * 3)) = ((a + l / 4 * 3 : Nat) : Int) := by
    rw [e4, wI (x := ((l / 4 : Nat) : Int) * 3) (by omega), wI (by omega)]; omega
  have c8 : decide (IntKind.i64.wrap ((b : Int) - (a : Int)) ≥ 8) = true := decide_eq_true (by rw [el]; omega)
  have c50 : decide (IntKind.i64.wrap ((b : Int) - (a : Int)) ≥ 50) = false := decide_eq_false (by rw [el]; omega)
  refine W.need (by decide) ?_
  refine W.need (by decide) ?_
  refine W.need (by decide) ?_
  refine W.ite_t c8 ?_
  refine W.ite_f c50 ?_
  refine W.callT [0, 1] (ok96 zs (a + l / 4) (a + l / 4 * 2) (a + l / 4 * 3) 0 hl0 (by omega) (by omega) (by omega) (by omega)) (by decide) rfl rfl (by rw [← m1, ← m2, ← m3]; rfl) rfl ?_
  rintro v σ ⟨x, k', rfl, rfl, h1, h2, h3⟩
  refine W.ite (fun c => ?_) (fun c => ?_)
  · exact W.ret (RetQ.part [0] (by decide) (by intro q hq; obtain rfl := List.mem_singleton.1 hq; show 0 < 2; decide) keepR ⟨x, 1, rfl, rfl, by omega, by omega, .inr rfl⟩)
  · refine W.ite_f (beq_eq_false_iff_ne.2 (by omega)) ?_
    exact W.ret (RetQ.part [0] (by decide) (by intro q hq; obtain rfl := List.mem_singleton.1 hq; show 0 < 2; decide) keepR ⟨x, 0, rfl, rfl, by omega, by omega, .inl rfl⟩)
set_option maxHeartbeats 2000000 in
/-- Is it sorted? (short rows) -/
theorem ok77 {n : Nat} (zs : List Int) (a b : Nat) (hl0 : zs.length = n) (hab : a < b) (hab2 : b < a + 50) (hb : b ≤ n) (hn : n ≤ 1000000) :
    CallOk Try.prog 77 [rV n, .d (nI a), .d (nI b)] [rB zs] (fun v s => ∃ r : Bool, v = bI r ∧ s = [rB zs] ∧ (r = true → So a b zs)) := by
  refine CallOk.of tysOk mixed od77 Try.func77 rfl rfl code77 ?_
  have ea : IntKind.i64.wrap ((a : Int) + 1) = ((a + 1 : Nat) : Int) := by rw [wI (by omega)]; rfl
  have so1 : So a (a + 1) zs := fun p q h1 h2 h3 => by
    have : p = q := by omega
    rw [this]; exact Int.le_refl _
  refine W.loop (fun k fr σ => fr = [(0, rV n), (1, .d (nI a)), (2, .d (nI b)), (7, .d (nI (a + 1 : Nat))), (8, .d (nI 0))] ∧ σ = [rB zs]) 0
    (Start.of [0, 1, 2, 7, 8] [] (by simp)) ⟨by rw [← ea]; rfl, rfl⟩ ?_
  rintro k fr σ ⟨rfl, rfl⟩
  refine W.ite_t rfl ?_
  refine W.loop (fun k fr σ => ∃ (i : Nat), fr = [(0, rV n), (1, .d (nI a)), (2, .d (nI b)), (7, .d (nI i))] ∧ σ = [rB zs] ∧ a < i ∧ i ≤ b ∧ So a i zs ∧ k = b - i) (b - (a + 1))
    (Start.of [0, 1, 2, 7] [] (by simp)) ⟨a + 1, rfl, rfl, by omega, by omega, so1, rfl⟩ ?_
  rintro k fr σ ⟨i, rfl, rfl, h1, h2, hso, rfl⟩
  have gi : IntKind.i64.wrap ((i : Int) + 1) = ((i + 1 : Nat) : Int) := by rw [wI (by omega)]; rfl
  have el : decide (IntKind.i64.wrap ((b : Int) - (a : Int)) < 50) = true := decide_eq_true (by rw [wI (by omega)]; omega)
  by_cases hib : i < b
  · have ej : IntKind.i64.wrap ((i : Int) - 1) = ((i - 1 : Nat) : Int) := by rw [wI (by omega)]; omega
    have c1 : decide ((i : Int) < (b : Int)) = true := decide_eq_true (by omega)
    have c2 : ((i : Int) == (b : Int)) = false := beq_eq_false_iff_ne.2 (by omega)
    repeat (first | refine W.ite_t c1 ?_ | refine W.ite_t rfl ?_ | refine W.ite_f rfl ?_)
    refine W.need (ixI (i := i) rfl (by omega)) ?_
    repeat (first | refine W.ite_t c1 ?_ | refine W.ite_t rfl ?_ | refine W.ite_f rfl ?_)
    refine W.ld (eEI (i := i) rfl (by omega)) ?_
    repeat (first | refine W.ite_t c1 ?_ | refine W.ite_t rfl ?_ | refine W.ite_f rfl ?_)
    refine W.need (ixI ej (by omega)) ?_
    repeat (first | refine W.ite_t c1 ?_ | refine W.ite_t rfl ?_ | refine W.ite_f rfl ?_)
    refine W.ld (eEI ej (by omega)) ?_
    repeat (first | refine W.ite_t c1 ?_ | refine W.ite_t rfl ?_ | refine W.ite_f rfl ?_)
    refine W.pure (ok63 _ _) rfl rfl ?_
    repeat (first | refine W.ite_t c1 ?_ | refine W.ite_t rfl ?_ | refine W.ite_f rfl ?_)
    refine W.ite (fun c => ?_) (fun c => ?_)
    · have hc : ¬ g zs i < g zs (i - 1) := of_decide_eq_false (by simpa using c)
      refine W.ret ⟨_, _, _, ?_, Trim.of [0, 1, 2, 7] [0] (by decide) (by simp) keepR, i + 1, ?_, rfl, by omega, by omega, ?_, rfl⟩
      · omega
      · rw [← gi]; rfl
      · intro p q p1 p2 p3
        by_cases hq : q = i
        · subst hq
          by_cases hp : p = q
          · rw [hp]; exact Int.le_refl _
          · exact Int.le_trans (hso p (q - 1) p1 (by omega) (by omega)) (by omega)
        · exact hso p q p1 p2 (by omega)
    · refine W.ret ?_
      refine W.ite_f c2 ?_
      refine W.ite_t el ?_
      exact W.ret (W.ret (RetQ.all ⟨false, rfl, rfl, fun h => by cases h⟩))
  · obtain rfl : i = b := by omega
    have c1 : decide ((i : Int) < (i : Int)) = false := decide_eq_false (by omega)
    have c2 : ((i : Int) == (i : Int)) = true := beq_self_eq_true _
    repeat (first | refine W.ite_f c1 ?_ | refine W.ite_t rfl ?_ | refine W.ite_f rfl ?_)
    refine W.ret ?_
    refine W.ite_t c2 ?_
    exact W.ret (W.ret (RetQ.all ⟨true, rfl, rfl, fun _ => hso⟩))
end Go.Proofs.Ytddhlmejaobcgaa.Pu
