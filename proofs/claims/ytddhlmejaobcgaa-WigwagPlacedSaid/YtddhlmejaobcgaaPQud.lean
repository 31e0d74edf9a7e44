import Derived.Test.YtddhlmejaobcgaaPQuc
set_option maxRecDepth 100000
set_option linter.unusedVariables false
set_option linter.unusedSimpArgs false
/- Sorting in place: partitions. -/
namespace Go.Proofs.Ytddhlmejaobcgaa.Pu
open Go Go.Am Co
/-- Parted as far as i from the left, and j from the right. -/
structure Pt (m : Int) (a b i j : Nat) (xs : List Int) : Prop where
  lo : a < i
  ij : i ≤ j + 1
  hi : j < b
  l : ∀ q, a < q → q < i → g xs q < g xs a + m
  r : ∀ q, j < q → q < b → g xs a + m ≤ g xs q
theorem Pt.up {m : Int} {a b i j : Nat} {xs : List Int} (h : Pt m a b i j xs) (hij : i ≤ j) (hc : g xs i < g xs a + m) : Pt m a b (i + 1) j xs :=
  ⟨by have := h.lo; omega, by omega, h.hi, fun q q1 q2 => by
    by_cases e : q = i
    · rw [e]; exact hc
    · exact h.l q q1 (by omega), h.r⟩
theorem Pt.down {m : Int} {a b i j : Nat} {xs : List Int} (h : Pt m a b i j xs) (hij : i ≤ j) (hc : g xs a + m ≤ g xs j) : Pt m a b i (j - 1) xs :=
  ⟨h.lo, by have := h.lo; omega, by have := h.hi; omega, h.l, fun q q1 q2 => by
    by_cases e : q = j
    · rw [e]; exact hc
    · exact h.r q (by have := h.lo; omega) q2⟩
theorem Pt.swap {m : Int} {a b i j : Nat} {xs : List Int} (hl : b ≤ xs.length) (h : Pt m a b i j xs) (hij : i ≤ j) (h1 : g xs a + m ≤ g xs i) (h2 : g xs j < g xs a + m) : i < j ∧ Pt m a b (i + 1) (j - 1) (sw xs i j) := by
  have hne : i ≠ j := fun e => by subst e; omega
  have hlo := h.lo
  have hhi := h.hi
  have gs := fun k => g_sw (zs := xs) (i := i) (j := j) (by omega) (by omega) k
  have ga : g (sw xs i j) a = g xs a := by rw [gs, if_neg (by omega), if_neg (by omega)]
  refine ⟨by omega, by omega, by omega, by omega, fun q q1 q2 => ?_, fun q q1 q2 => ?_⟩
  · rw [ga, gs, if_neg (by omega)]
    by_cases e : q = i
    · rw [if_pos e]; exact h2
    · rw [if_neg e]; exact h.l q q1 (by omega)
  · rw [ga, gs]
    by_cases e : q = j
    · rw [if_pos e]; exact h1
    · rw [if_neg e, if_neg (by omega)]; exact h.r q (by omega) q2
theorem Pt.start {m : Int} {a b : Nat} (h : a < b) (xs : List Int) : Pt m a b (a + 1) (b - 1) xs :=
  ⟨by omega, by omega, by omega, fun q q1 q2 => by omega, fun q q1 q2 => by omega⟩
theorem Pt.fin {a b i j : Nat} {xs : List Int} (hl : b ≤ xs.length) (h : Pt 0 a b i j xs) (hij : ¬ i ≤ j) :
    a ≤ j ∧ j < b ∧ (∀ q, a ≤ q → q < j → g (sw xs j a) q ≤ g (sw xs j a) j) ∧ (∀ q, j < q → q < b → g (sw xs j a) j ≤ g (sw xs j a) q) := by
  have hlo := h.lo
  have hhi := h.hi
  have h3 := h.ij
  have gs := fun k => g_sw (zs := xs) (i := j) (j := a) (by omega) (by omega) k
  have gj : g (sw xs j a) j = g xs a := by
    rw [gs]
    by_cases e : j = a
    · rw [if_pos e, e]
    · rw [if_neg e, if_pos rfl]
  refine ⟨by omega, by omega, fun q q1 q2 => ?_, fun q q1 q2 => ?_⟩
  · rw [gj, gs]
    by_cases e : q = a
    · rw [if_pos e]; have := h.l j (by omega) (by omega); omega
    · rw [if_neg e, if_neg (by omega)]; have := h.l q (by omega) (by omega); omega
  · rw [gj, gs, if_neg (by omega), if_neg (by omega)]; have := h.r q q1 q2; omega
def od78 : Ords := [(1, [0, 1, 2, 3, 4, 5, 6, 7, 8, 9, 10, 11, 12, 1013, 14, 1015]), (3, [0, 1, 2, 3, 4, 5, 6, 7, 8, 9, 10, 11, 1012, 13, 14]), (5, [0, 1, 2, 3, 4, 5, 6, 7, 8, 9, 10, 11, 1012, 13]), (8, [0, 1, 2, 3, 4, 5, 6, 7, 8, 9, 10, 11, 12, 1013, 14, 1015])]
theorem code78 : codeB Try.f78.ntmps od78 (match Try.f78.body with | some c => c | none => .skip) = true := by kernel_rfl
set_option maxHeartbeats 4000000 in
theorem ok78 {n : Nat} (zs : List Int) (a b p : Nat) (hl0 : zs.length = n) (hp : a ≤ p ∧ p < b) (hb : b ≤ n) (hn : n ≤ 1000000) :
    CallOk Try.prog 78 [rV n, .d (nI a), .d (nI b), .d (nI p)] [rB zs] (Mv a b zs fun v zs' => ∃ mid : Nat, v = .d (nI mid) ∧ a < mid ∧ mid ≤ b ∧ (∀ q, a < q → q < mid → g zs' q ≤ g zs' a) ∧ (∀ q, mid ≤ q → q < b → g zs' a < g zs' q) ∧ g zs' a = g zs p) := by
  refine CallOk.of tysOk mixed od78 Try.func78 rfl rfl code78 ?_
  have ea : IntKind.i64.wrap ((a : Int) + 1) = ((a + 1 : Nat) : Int) := by rw [wI (by omega)]; rfl
  have eb : IntKind.i64.wrap ((b : Int) - 1) = ((b - 1 : Nat) : Int) := by rw [wI (by omega)]; omega
  refine W.need (ixI (show (p : Int) = (p : Int) from rfl) (show p < n by omega)) ?_
  refine W.ld (eEI (show (p : Int) = (p : Int) from rfl) (show p < zs.length by omega)) ?_
  refine W.need (ixI (show (a : Int) = (a : Int) from rfl) (show a < n by omega)) ?_
  refine W.ld (eEI (show (a : Int) = (a : Int) from rfl) (show a < zs.length by omega)) ?_
  refine W.need (ixI (show (a : Int) = (a : Int) from rfl) (show a < n by omega)) ?_
  refine W.need (st0 (show (a : Int) = (a : Int) from rfl) (show a < zs.length by omega)) ?_
  refine W.need (ixI (show (p : Int) = (p : Int) from rfl) (show p < n by omega)) ?_
  refine W.need (st1 (show (a : Int) = (a : Int) from rfl) (show (p : Int) = (p : Int) from rfl) (show a < zs.length by omega) (show p < zs.length by omega)) ?_
  refine W.loop (fun k fr σ => ∃ (i j : Nat) (xs : List Int), fr = [(0, rV n), (1, .d (nI a)), (2, .d (nI b)), (9, .d (nI i)), (10, .d (nI j))] ∧ σ = [rB xs] ∧ Sg a b zs xs ∧ g xs a = g zs p ∧ Pt 1 a b i j xs ∧ k = j + 1 - i) (b - 1 + 1 - (a + 1))
    (Start.of [0, 1, 2, 9, 10] [] (by simp)) ⟨a + 1, b - 1, sw zs a p, by rw [← ea, ← eb]; rfl, swI rfl rfl (by omega) (by omega), Sg.sw ⟨by omega, by omega⟩ ⟨by omega, by omega⟩ (by omega), ?_, Pt.start (by omega) _, rfl⟩ ?_
  · rw [g_sw (by omega) (by omega)]
    by_cases e : a = p
    · rw [if_pos e, e]
    · rw [if_neg e, if_pos rfl]
  rintro k fr σ ⟨i, j, xs, rfl, rfl, hX, hg, hP, rfl⟩
  have hl := hX.len
  obtain ⟨i0, hi0⟩ : ∃ x : Nat, x = i := ⟨i, rfl⟩
  obtain ⟨j0, hj0⟩ : ∃ x : Nat, x = j := ⟨j, rfl⟩
  refine W.loop (fun k fr σ => ∃ i : Nat, fr = [(0, rV n), (1, .d (nI a)), (2, .d (nI b)), (9, .d (nI i)), (10, .d (nI j))] ∧ σ = [rB xs] ∧ Pt 1 a b i j xs ∧ i0 ≤ i ∧ k = j + 1 - i) (j + 1 - i) (Start.of [0, 1, 2, 9, 10] [] (by simp)) ⟨i, rfl, rfl, hP, by omega, rfl⟩ ?_
  rintro k fr σ ⟨i, rfl, rfl, hP, hii, rfl⟩
  have plo := hP.lo
  have pij := hP.ij
  have phi := hP.hi
  have gi : IntKind.i64.wrap ((i : Int) + 1) = ((i + 1 : Nat) : Int) := by rw [wI (by omega)]; rfl
  by_cases hij : i ≤ j
  · have c1 : decide ((i : Int) ≤ (j : Int)) = true := decide_eq_true (by omega)
    repeat (first | refine W.ite_t c1 ?_ | refine W.ite_t rfl ?_ | refine W.ite_f rfl ?_)
    refine W.need (ixI (i := a) rfl (by omega)) ?_
    repeat (first | refine W.ite_t c1 ?_ | refine W.ite_t rfl ?_ | refine W.ite_f rfl ?_)
    refine W.ld (eEI (i := a) rfl (by omega)) ?_
    repeat (first | refine W.ite_t c1 ?_ | refine W.ite_t rfl ?_ | refine W.ite_f rfl ?_)
    refine W.need (ixI (i := i) rfl (by omega)) ?_
    repeat (first | refine W.ite_t c1 ?_ | refine W.ite_t rfl ?_ | refine W.ite_f rfl ?_)
    refine W.ld (eEI (i := i) rfl (by omega)) ?_
    repeat (first | refine W.ite_t c1 ?_ | refine W.ite_t rfl ?_ | refine W.ite_f rfl ?_)
    refine W.pure (ok63 _ _) rfl rfl ?_
    repeat (first | refine W.ite_t c1 ?_ | refine W.ite_t rfl ?_ | refine W.ite_f rfl ?_)
    refine W.ite (fun c => ?_) (fun c => ?_)
    · have hc : g xs i < g xs a + 1 := by have h := of_decide_eq_false (p := g xs a < g xs i) (by simpa using c); omega
      refine W.ret ⟨_, _, _, ?_, Trim.of [0, 1, 2, 9, 10] [0] (by decide) (by simp) keepR, i + 1, ?_, rfl, hP.up hij hc, by omega, rfl⟩
      · omega
      · rw [← gi]; rfl
    · have hci : g xs a + 1 ≤ g xs i := by have h := of_decide_eq_true (p := g xs a < g xs i) (by simpa using c); omega
      refine W.ret ?_
      refine W.loop (fun k fr σ => ∃ j : Nat, fr = [(0, rV n), (1, .d (nI a)), (2, .d (nI b)), (9, .d (nI i)), (10, .d (nI j))] ∧ σ = [rB xs] ∧ Pt 1 a b i j xs ∧ j ≤ j0 ∧ k = j + 1 - i) (j + 1 - i) (Start.of [0, 1, 2, 9, 10] [] (by simp)) ⟨j, rfl, rfl, hP, by omega, rfl⟩ ?_
      clear hP pij phi hij c1 c
      rintro k fr σ ⟨j, rfl, rfl, hP, hjj, rfl⟩
      have pij := hP.ij
      have phi := hP.hi
      by_cases hij : i ≤ j
      · have c1 : decide ((i : Int) ≤ (j : Int)) = true := decide_eq_true (by omega)
        have gj : IntKind.i64.wrap ((j : Int) - 1) = ((j - 1 : Nat) : Int) := by rw [wI (by omega)]; omega
        repeat (first | refine W.ite_t c1 ?_ | refine W.ite_t rfl ?_ | refine W.ite_f rfl ?_)
        refine W.need (ixI (i := a) rfl (by omega)) ?_
        repeat (first | refine W.ite_t c1 ?_ | refine W.ite_t rfl ?_ | refine W.ite_f rfl ?_)
        refine W.ld (eEI (i := a) rfl (by omega)) ?_
        repeat (first | refine W.ite_t c1 ?_ | refine W.ite_t rfl ?_ | refine W.ite_f rfl ?_)
        refine W.need (ixI (i := j) rfl (by omega)) ?_
        repeat (first | refine W.ite_t c1 ?_ | refine W.ite_t rfl ?_ | refine W.ite_f rfl ?_)
        refine W.ld (eEI (i := j) rfl (by omega)) ?_
        repeat (first | refine W.ite_t c1 ?_ | refine W.ite_t rfl ?_ | refine W.ite_f rfl ?_)
        refine W.pure (ok63 _ _) rfl rfl ?_
        repeat (first | refine W.ite_t c1 ?_ | refine W.ite_t rfl ?_ | refine W.ite_f rfl ?_)
        refine W.ite (fun c => ?_) (fun c => ?_)
        · have hc : g xs a + 1 ≤ g xs j := by have h := of_decide_eq_true (p := g xs a < g xs j) (by simpa using c); omega
          refine W.ret ⟨_, _, _, ?_, Trim.of [0, 1, 2, 9, 10] [0] (by decide) (by simp) keepR, j - 1, ?_, rfl, hP.down hij hc, by omega, rfl⟩
          · omega
          · rw [← gj]; rfl
        · have hcj : g xs j < g xs a + 1 := by have h := of_decide_eq_false (p := g xs a < g xs j) (by simpa using c); omega
          refine W.ret ?_
          refine W.ite_f (decide_eq_false (by omega)) ?_
          obtain ⟨hlt, hP'⟩ := hP.swap (by omega) hij hci hcj
          refine W.need (ixI (show (j : Int) = (j : Int) from rfl) (show j < n by omega)) ?_
          refine W.ld (eEI (show (j : Int) = (j : Int) from rfl) (show j < xs.length by omega)) ?_
          refine W.need (ixI (show (i : Int) = (i : Int) from rfl) (show i < n by omega)) ?_
          refine W.ld (eEI (show (i : Int) = (i : Int) from rfl) (show i < xs.length by omega)) ?_
          refine W.need (ixI (show (i : Int) = (i : Int) from rfl) (show i < n by omega)) ?_
          refine W.need (st0 (show (i : Int) = (i : Int) from rfl) (show i < xs.length by omega)) ?_
          refine W.need (ixI (show (j : Int) = (j : Int) from rfl) (show j < n by omega)) ?_
          refine W.need (st1 (show (i : Int) = (i : Int) from rfl) (show (j : Int) = (j : Int) from rfl) (show i < xs.length by omega) (show j < xs.length by omega)) ?_
          refine W.ret ⟨_, _, _, ?_, Trim.of [0, 1, 2, 9, 10] [0] (by decide) (by simp) keepR, i + 1, j - 1, sw xs i j, ?_, swI rfl rfl (by omega) (by omega), hX.trans (Sg.sw ⟨by omega, by omega⟩ ⟨by omega, by omega⟩ (by omega)), ?_, hP', rfl⟩
          · omega
          · rw [← gi, ← gj]; rfl
          · rw [g_sw (by omega) (by omega), if_neg (by omega), if_neg (by omega)]; exact hg
      · have c1 : decide ((i : Int) ≤ (j : Int)) = false := decide_eq_false (by omega)
        repeat (first | refine W.ite_f c1 ?_ | refine W.ite_t rfl ?_ | refine W.ite_f rfl ?_)
        refine W.ret ?_
        refine W.ite_t (decide_eq_true (by omega)) ?_
        refine W.ret ?_
        exact W.ret (RetQ.all ⟨xs, rfl, hX, i, rfl, by omega, by omega, fun q q1 q2 => by have := hP.l q q1 q2; omega, fun q q1 q2 => by have := hP.r q (by omega) q2; omega, hg⟩)
  · have c1 : decide ((i : Int) ≤ (j : Int)) = false := decide_eq_false (by omega)
    repeat (first | refine W.ite_f c1 ?_ | refine W.ite_t rfl ?_ | refine W.ite_f rfl ?_)
    refine W.ret ?_
    refine W.loop (fun k fr σ => fr = [(0, rV n), (1, .d (nI a)), (2, .d (nI b)), (9, .d (nI i)), (10, .d (nI j))] ∧ σ = [rB xs]) 0 (Start.of [0, 1, 2, 9, 10] [] (by simp)) ⟨rfl, rfl⟩ ?_
    rintro k fr σ ⟨rfl, rfl⟩
    repeat (first | refine W.ite_f c1 ?_ | refine W.ite_t rfl ?_ | refine W.ite_f rfl ?_)
    refine W.ret ?_
    refine W.ite_t (decide_eq_true (by omega)) ?_
    refine W.ret ?_
    exact W.ret (RetQ.all ⟨xs, rfl, hX, i, rfl, by omega, by omega, fun q q1 q2 => by have := hP.l q q1 q2; omega, fun q q1 q2 => by have := hP.r q (by omega) q2; omega, hg⟩)
def od79 : Ords := [(1, [0, 1, 2, 3, 4, 5, 6, 7, 8, 9, 10, 11, 12, 1013, 14, 1015]), (3, [0, 1, 2, 3, 4, 5, 6, 7, 8, 9, 10, 11, 1012, 13]), (5, [0, 1, 2, 3, 4, 5, 6, 7, 8, 9, 10, 11, 1012, 13, 14]), (8, [0, 1, 2, 3, 4, 5, 6, 7, 8, 9, 10, 11, 12, 1013, 14, 1015]), (10, [0, 1, 2, 3, 4, 5, 6, 7, 8, 9, 10, 11, 12, 1013, 14, 1015]), (13, [0, 1, 2, 3, 4, 5, 6, 7, 8, 9, 10, 11, 1012, 13]), (15, [0, 1, 2, 3, 4, 5, 6, 7, 8, 9, 10, 11, 1012, 13, 14]), (18, [0, 1, 2, 3, 4, 5, 6, 7, 8, 9, 10, 11, 12, 1013, 14, 1015]), (21, [0, 1, 2, 3, 4, 5, 6, 7, 8, 9, 10, 11, 12, 1013, 14, 1015])]
theorem code79 : codeB Try.f79.ntmps od79 (match Try.f79.body with | some c => c | none => .skip) = true := by kernel_rfl
set_option maxHeartbeats 8000000 in
theorem ok79 {n : Nat} (zs : List Int) (a b p : Nat) (hl0 : zs.length = n) (hp : a ≤ p ∧ p < b) (hb : b ≤ n) (hn : n ≤ 1000000) :
    CallOk Try.prog 79 [rV n, .d (nI a), .d (nI b), .d (nI p)] [rB zs] (Mv a b zs fun v zs' => ∃ (mid : Nat) (r : Bool), v = .tuple [.d (nI mid), .d (.lit (.bool r))] ∧ a ≤ mid ∧ mid < b ∧ (∀ q, a ≤ q → q < mid → g zs' q ≤ g zs' mid) ∧ (∀ q, mid < q → q < b → g zs' mid ≤ g zs' q)) := by
  refine CallOk.of tysOk mixed od79 Try.func79 rfl rfl code79 ?_
  have ea : IntKind.i64.wrap ((a : Int) + 1) = ((a + 1 : Nat) : Int) := by rw [wI (by omega)]; rfl
  have eb : IntKind.i64.wrap ((b : Int) - 1) = ((b - 1 : Nat) : Int) := by rw [wI (by omega)]; omega
  refine W.need (ixI (show (p : Int) = (p : Int) from rfl) (show p < n by omega)) ?_
  refine W.ld (eEI (show (p : Int) = (p : Int) from rfl) (show p < zs.length by omega)) ?_
  refine W.need (ixI (show (a : Int) = (a : Int) from rfl) (show a < n by omega)) ?_
  refine W.ld (eEI (show (a : Int) = (a : Int) from rfl) (show a < zs.length by omega)) ?_
  refine W.need (ixI (show (a : Int) = (a : Int) from rfl) (show a < n by omega)) ?_
  refine W.need (st0 (show (a : Int) = (a : Int) from rfl) (show a < zs.length by omega)) ?_
  refine W.need (ixI (show (p : Int) = (p : Int) from rfl) (show p < n by omega)) ?_
  refine W.need (st1 (show (a : Int) = (a : Int) from rfl) (show (p : Int) = (p : Int) from rfl) (show a < zs.length by omega) (show p < zs.length by omega)) ?_
  have hS0 : [Blk.row 1 1 _] = [rB (sw zs a p)] := swI (zs := zs) (X := (a : Int)) (Y := (p : Int)) (i := a) (j := p) rfl rfl (by omega) (by omega)
  have hX : Sg a b zs (sw zs a p) := Sg.sw ⟨by omega, by omega⟩ ⟨by omega, by omega⟩ (by omega)
  have hP : Pt 0 a b (a + 1) (b - 1) (sw zs a p) := Pt.start (by omega) _
  have hl := hX.len
  generalize sw zs a p = xs at hX hP hl hS0
  obtain ⟨i, hi⟩ : ∃ i, a + 1 = i := ⟨_, rfl⟩
  obtain ⟨j, hj⟩ : ∃ j, b - 1 = j := ⟨_, rfl⟩
  rw [hi] at ea hP
  rw [hj] at eb hP
  obtain ⟨i0, hi0⟩ : ∃ x : Nat, x = i := ⟨i, rfl⟩
  obtain ⟨j0, hj0⟩ : ∃ x : Nat, x = j := ⟨j, rfl⟩
  refine W.loop (fun k fr σ => ∃ i : Nat, fr = [(0, rV n), (1, .d (nI a)), (2, .d (nI b)), (10, .d (nI i)), (11, .d (nI j))] ∧ σ = [rB xs] ∧ Pt 0 a b i j xs ∧ i0 ≤ i ∧ k = j + 1 - i) (j + 1 - i) (Start.of [0, 1, 2, 10, 11] [] (by simp)) ⟨i, by rw [← ea, ← eb]; rfl, hS0, hP, by omega, rfl⟩ ?_
  rintro k fr σ ⟨i, rfl, rfl, hP, hii, rfl⟩
  have plo := hP.lo
  have pij := hP.ij
  have phi := hP.hi
  have gi : IntKind.i64.wrap ((i : Int) + 1) = ((i + 1 : Nat) : Int) := by rw [wI (by omega)]; rfl
  by_cases hij : i ≤ j
  · have c1 : decide ((i : Int) ≤ (j : Int)) = true := decide_eq_true (by omega)
    repeat (first | refine W.ite_t c1 ?_ | refine W.ite_t rfl ?_ | refine W.ite_f rfl ?_)
    refine W.need (ixI (i := i) rfl (by omega)) ?_
    repeat (first | refine W.ite_t c1 ?_ | refine W.ite_t rfl ?_ | refine W.ite_f rfl ?_)
    refine W.ld (eEI (i := i) rfl (by omega)) ?_
    repeat (first | refine W.ite_t c1 ?_ | refine W.ite_t rfl ?_ | refine W.ite_f rfl ?_)
    refine W.need (ixI (i := a) rfl (by omega)) ?_
    repeat (first | refine W.ite_t c1 ?_ | refine W.ite_t rfl ?_ | refine W.ite_f rfl ?_)
    refine W.ld (eEI (i := a) rfl (by omega)) ?_
    repeat (first | refine W.ite_t c1 ?_ | refine W.ite_t rfl ?_ | refine W.ite_f rfl ?_)
    refine W.pure (ok63 _ _) rfl rfl ?_
    repeat (first | refine W.ite_t c1 ?_ | refine W.ite_t rfl ?_ | refine W.ite_f rfl ?_)
    refine W.ite (fun c => ?_) (fun c => ?_)
    · have hc : g xs i < g xs a + 0 := by have h := of_decide_eq_true (p := g xs i < g xs a) (by simpa using c); omega
      refine W.ret ⟨_, _, _, ?_, Trim.of [0, 1, 2, 10, 11] [0] (by decide) (by simp) keepR, i + 1, ?_, rfl, hP.up hij hc, by omega, rfl⟩
      · omega
      · rw [← gi]; rfl
    · have hci : g xs a + 0 ≤ g xs i := by have h := of_decide_eq_false (p := g xs i < g xs a) (by simpa using c); omega
      refine W.ret ?_
      refine W.loop (fun k fr σ => ∃ j : Nat, fr = [(0, rV n), (1, .d (nI a)), (2, .d (nI b)), (10, .d (nI i)), (11, .d (nI j))] ∧ σ = [rB xs] ∧ Pt 0 a b i j xs ∧ j ≤ j0 ∧ k = j + 1 - i) (j + 1 - i) (Start.of [0, 1, 2, 10, 11] [] (by simp)) ⟨j, rfl, rfl, hP, by omega, rfl⟩ ?_
      clear hP pij phi hij c1 c
      rintro k fr σ ⟨j, rfl, rfl, hP, hjj, rfl⟩
      have pij := hP.ij
      have phi := hP.hi
      by_cases hij : i ≤ j
      · have c1 : decide ((i : Int) ≤ (j : Int)) = true := decide_eq_true (by omega)
        have gj : IntKind.i64.wrap ((j : Int) - 1) = ((j - 1 : Nat) : Int) := by rw [wI (by omega)]; omega
        repeat (first | refine W.ite_t c1 ?_ | refine W.ite_t rfl ?_ | refine W.ite_f rfl ?_)
        refine W.need (ixI (i := j) rfl (by omega)) ?_
        repeat (first | refine W.ite_t c1 ?_ | refine W.ite_t rfl ?_ | refine W.ite_f rfl ?_)
        refine W.ld (eEI (i := j) rfl (by omega)) ?_
        repeat (first | refine W.ite_t c1 ?_ | refine W.ite_t rfl ?_ | refine W.ite_f rfl ?_)
        refine W.need (ixI (i := a) rfl (by omega)) ?_
        repeat (first | refine W.ite_t c1 ?_ | refine W.ite_t rfl ?_ | refine W.ite_f rfl ?_)
        refine W.ld (eEI (i := a) rfl (by omega)) ?_
        repeat (first | refine W.ite_t c1 ?_ | refine W.ite_t rfl ?_ | refine W.ite_f rfl ?_)
        refine W.pure (ok63 _ _) rfl rfl ?_
        repeat (first | refine W.ite_t c1 ?_ | refine W.ite_t rfl ?_ | refine W.ite_f rfl ?_)
        refine W.ite (fun c => ?_) (fun c => ?_)
        · have hc : g xs a + 0 ≤ g xs j := by have h := of_decide_eq_false (p := g xs j < g xs a) (by simpa using c); omega
          refine W.ret ⟨_, _, _, ?_, Trim.of [0, 1, 2, 10, 11] [0] (by decide) (by simp) keepR, j - 1, ?_, rfl, hP.down hij hc, by omega, rfl⟩
          · omega
          · rw [← gj]; rfl
        · have hcj : g xs j < g xs a + 0 := by have h := of_decide_eq_true (p := g xs j < g xs a) (by simpa using c); omega
          refine W.ret ?_
          refine W.ite_f (decide_eq_false (by omega)) ?_
          obtain ⟨hlt, hP'⟩ := hP.swap (by omega) hij hci hcj
          refine W.need (ixI (show (j : Int) = (j : Int) from rfl) (show j < n by omega)) ?_
          refine W.ld (eEI (show (j : Int) = (j : Int) from rfl) (show j < xs.length by omega)) ?_
          refine W.need (ixI (show (i : Int) = (i : Int) from rfl) (show i < n by omega)) ?_
          refine W.ld (eEI (show (i : Int) = (i : Int) from rfl) (show i < xs.length by omega)) ?_
          refine W.need (ixI (show (i : Int) = (i : Int) from rfl) (show i < n by omega)) ?_
          refine W.need (st0 (show (i : Int) = (i : Int) from rfl) (show i < xs.length by omega)) ?_
          refine W.need (ixI (show (j : Int) = (j : Int) from rfl) (show j < n by omega)) ?_
          refine W.need (st1 (show (i : Int) = (i : Int) from rfl) (show (j : Int) = (j : Int) from rfl) (show i < xs.length by omega) (show j < xs.length by omega)) ?_
          have hX' := hX.trans (y := xs) (z := sw xs i j) (Sg.sw ⟨by omega, by omega⟩ ⟨by omega, by omega⟩ (by omega))
          refine W.loop (fun k fr σ => ∃ (i j : Nat) (xs : List Int), fr = [(0, rV n), (1, .d (nI a)), (2, .d (nI b)), (10, .d (nI i)), (11, .d (nI j))] ∧ σ = [rB xs] ∧ Sg a b zs xs ∧ Pt 0 a b i j xs ∧ k = j + 1 - i) (j - 1 + 1 - (i + 1))
            (Start.of [0, 1, 2, 10, 11] [] (by simp)) ⟨i + 1, j - 1, sw xs i j, by rw [← gi, ← gj]; rfl, swI rfl rfl (by omega) (by omega), hX', hP', rfl⟩ ?_
          clear hP hP' hX hX' hl plo pij phi hij gi gj hci hcj hlt c c1 hii hjj hi0 hj0
          rintro k fr σ ⟨i, j, xs, rfl, rfl, hX, hP, rfl⟩
          have hl := hX.len
          obtain ⟨i0, hi0⟩ : ∃ x : Nat, x = i := ⟨i, rfl⟩
          obtain ⟨j0, hj0⟩ : ∃ x : Nat, x = j := ⟨j, rfl⟩
          refine W.loop (fun k fr σ => ∃ i : Nat, fr = [(0, rV n), (1, .d (nI a)), (2, .d (nI b)), (10, .d (nI i)), (11, .d (nI j))] ∧ σ = [rB xs] ∧ Pt 0 a b i j xs ∧ i0 ≤ i ∧ k = j + 1 - i) (j + 1 - i) (Start.of [0, 1, 2, 10, 11] [] (by simp)) ⟨i, rfl, rfl, hP, by omega, rfl⟩ ?_
          rintro k fr σ ⟨i, rfl, rfl, hP, hii, rfl⟩
          have plo := hP.lo
          have pij := hP.ij
          have phi := hP.hi
          have gi : IntKind.i64.wrap ((i : Int) + 1) = ((i + 1 : Nat) : Int) := by rw [wI (by omega)]; rfl
          by_cases hij : i ≤ j
          · have c1 : decide ((i : Int) ≤ (j : Int)) = true := decide_eq_true (by omega)
            repeat (first | refine W.ite_t c1 ?_ | refine W.ite_t rfl ?_ | refine W.ite_f rfl ?_)
            refine W.need (ixI (i := i) rfl (by omega)) ?_
            repeat (first | refine W.ite_t c1 ?_ | refine W.ite_t rfl ?_ | refine W.ite_f rfl ?_)
            refine W.ld (eEI (i := i) rfl (by omega)) ?_
            repeat (first | refine W.ite_t c1 ?_ | refine W.ite_t rfl ?_ | refine W.ite_f rfl ?_)
            refine W.need (ixI (i := a) rfl (by omega)) ?_
            repeat (first | refine W.ite_t c1 ?_ | refine W.ite_t rfl ?_ | refine W.ite_f rfl ?_)
            refine W.ld (eEI (i := a) rfl (by omega)) ?_
            repeat (first | refine W.ite_t c1 ?_ | refine W.ite_t rfl ?_ | refine W.ite_f rfl ?_)
            refine W.pure (ok63 _ _) rfl rfl ?_
            repeat (first | refine W.ite_t c1 ?_ | refine W.ite_t rfl ?_ | refine W.ite_f rfl ?_)
            refine W.ite (fun c => ?_) (fun c => ?_)
            · have hc : g xs i < g xs a + 0 := by have h := of_decide_eq_true (p := g xs i < g xs a) (by simpa using c); omega
              refine W.ret ⟨_, _, _, ?_, Trim.of [0, 1, 2, 10, 11] [0] (by decide) (by simp) keepR, i + 1, ?_, rfl, hP.up hij hc, by omega, rfl⟩
              · omega
              · rw [← gi]; rfl
            · have hci : g xs a + 0 ≤ g xs i := by have h := of_decide_eq_false (p := g xs i < g xs a) (by simpa using c); omega
              refine W.ret ?_
              refine W.loop (fun k fr σ => ∃ j : Nat, fr = [(0, rV n), (1, .d (nI a)), (2, .d (nI b)), (10, .d (nI i)), (11, .d (nI j))] ∧ σ = [rB xs] ∧ Pt 0 a b i j xs ∧ j ≤ j0 ∧ k = j + 1 - i) (j + 1 - i) (Start.of [0, 1, 2, 10, 11] [] (by simp)) ⟨j, rfl, rfl, hP, by omega, rfl⟩ ?_
              clear hP pij phi hij c1 c
              rintro k fr σ ⟨j, rfl, rfl, hP, hjj, rfl⟩
              have pij := hP.ij
              have phi := hP.hi
              by_cases hij : i ≤ j
              · have c1 : decide ((i : Int) ≤ (j : Int)) = true := decide_eq_true (by omega)
                have gj : IntKind.i64.wrap ((j : Int) - 1) = ((j - 1 : Nat) : Int) := by rw [wI (by omega)]; omega
                repeat (first | refine W.ite_t c1 ?_ | refine W.ite_t rfl ?_ | refine W.ite_f rfl ?_)
                refine W.need (ixI (i := j) rfl (by omega)) ?_
                repeat (first | refine W.ite_t c1 ?_ | refine W.ite_t rfl ?_ | refine W.ite_f rfl ?_)
                refine W.ld (eEI (i := j) rfl (by omega)) ?_
                repeat (first | refine W.ite_t c1 ?_ | refine W.ite_t rfl ?_ | refine W.ite_f rfl ?_)
                refine W.need (ixI (i := a) rfl (by omega)) ?_
                repeat (first | refine W.ite_t c1 ?_ | refine W.ite_t rfl ?_ | refine W.ite_f rfl ?_)
                refine W.ld (eEI (i := a) rfl (by omega)) ?_
                repeat (first | refine W.ite_t c1 ?_ | refine W.ite_t rfl ?_ | refine W.ite_f rfl ?_)
                refine W.pure (ok63 _ _) rfl rfl ?_
                repeat (first | refine W.ite_t c1 ?_ | refine W.ite_t rfl ?_ | refine W.ite_f rfl ?_)
                refine W.ite (fun c => ?_) (fun c => ?_)
                · have hc : g xs a + 0 ≤ g xs j := by have h := of_decide_eq_false (p := g xs j < g xs a) (by simpa using c); omega
                  refine W.ret ⟨_, _, _, ?_, Trim.of [0, 1, 2, 10, 11] [0] (by decide) (by simp) keepR, j - 1, ?_, rfl, hP.down hij hc, by omega, rfl⟩
                  · omega
                  · rw [← gj]; rfl
                · have hcj : g xs j < g xs a + 0 := by have h := of_decide_eq_true (p := g xs j < g xs a) (by simpa using c); omega
                  refine W.ret ?_
                  refine W.ite_f (decide_eq_false (by omega)) ?_
                  obtain ⟨hlt, hP'⟩ := hP.swap (by omega) hij hci hcj
                  refine W.need (ixI (show (j : Int) = (j : Int) from rfl) (show j < n by omega)) ?_
                  refine W.ld (eEI (show (j : Int) = (j : Int) from rfl) (show j < xs.length by omega)) ?_
                  refine W.need (ixI (show (i : Int) = (i : Int) from rfl) (show i < n by omega)) ?_
                  refine W.ld (eEI (show (i : Int) = (i : Int) from rfl) (show i < xs.length by omega)) ?_
                  refine W.need (ixI (show (i : Int) = (i : Int) from rfl) (show i < n by omega)) ?_
                  refine W.need (st0 (show (i : Int) = (i : Int) from rfl) (show i < xs.length by omega)) ?_
                  refine W.need (ixI (show (j : Int) = (j : Int) from rfl) (show j < n by omega)) ?_
                  refine W.need (st1 (show (i : Int) = (i : Int) from rfl) (show (j : Int) = (j : Int) from rfl) (show i < xs.length by omega) (show j < xs.length by omega)) ?_
                  refine W.ret ⟨_, _, _, ?_, Trim.of [0, 1, 2, 10, 11] [0] (by decide) (by simp) keepR, i + 1, j - 1, sw xs i j, ?_, swI rfl rfl (by omega) (by omega), hX.trans (Sg.sw ⟨by omega, by omega⟩ ⟨by omega, by omega⟩ (by omega)), hP', rfl⟩
                  · omega
                  · rw [← gi, ← gj]; rfl
              · have c1 : decide ((i : Int) ≤ (j : Int)) = false := decide_eq_false (by omega)
                repeat (first | refine W.ite_f c1 ?_ | refine W.ite_t rfl ?_ | refine W.ite_f rfl ?_)
                refine W.ret ?_
                refine W.ite_t (decide_eq_true (by omega)) ?_
                refine W.ret ?_
                refine W.need (ixI (show (a : Int) = (a : Int) from rfl) (show a < n by omega)) ?_
                refine W.ld (eEI (show (a : Int) = (a : Int) from rfl) (show a < xs.length by omega)) ?_
                refine W.need (ixI (show (j : Int) = (j : Int) from rfl) (show j < n by omega)) ?_
                refine W.ld (eEI (show (j : Int) = (j : Int) from rfl) (show j < xs.length by omega)) ?_
                refine W.need (ixI (show (j : Int) = (j : Int) from rfl) (show j < n by omega)) ?_
                refine W.need (st0 (show (j : Int) = (j : Int) from rfl) (show j < xs.length by omega)) ?_
                refine W.need (ixI (show (a : Int) = (a : Int) from rfl) (show a < n by omega)) ?_
                refine W.need (st1 (show (j : Int) = (j : Int) from rfl) (show (a : Int) = (a : Int) from rfl) (show j < xs.length by omega) (show a < xs.length by omega)) ?_
                obtain ⟨f1, f2, f3, f4⟩ := hP.fin (by omega) hij
                exact W.ret (RetQ.all ⟨sw xs j a, swI rfl rfl (by omega) (by omega), hX.trans (Sg.sw ⟨by omega, by omega⟩ ⟨by omega, by omega⟩ (by omega)), j, false, rfl, f1, f2, f3, f4⟩)
          · have c1 : decide ((i : Int) ≤ (j : Int)) = false := decide_eq_false (by omega)
            repeat (first | refine W.ite_f c1 ?_ | refine W.ite_t rfl ?_ | refine W.ite_f rfl ?_)
            refine W.ret ?_
            refine W.loop (fun k fr σ => fr = [(0, rV n), (1, .d (nI a)), (2, .d (nI b)), (10, .d (nI i)), (11, .d (nI j))] ∧ σ = [rB xs]) 0 (Start.of [0, 1, 2, 10, 11] [] (by simp)) ⟨rfl, rfl⟩ ?_
            rintro k fr σ ⟨rfl, rfl⟩
            repeat (first | refine W.ite_f c1 ?_ | refine W.ite_t rfl ?_ | refine W.ite_f rfl ?_)
            refine W.ret ?_
            refine W.ite_t (decide_eq_true (by omega)) ?_
            refine W.ret ?_
            refine W.need (ixI (show (a : Int) = (a : Int) from rfl) (show a < n by omega)) ?_
            refine W.ld (eEI (show (a : Int) = (a : Int) from rfl) (show a < xs.length by omega)) ?_
            refine W.need (ixI (show (j : Int) = (j : Int) from rfl) (show j < n by omega)) ?_
            refine W.ld (eEI (show (j : Int) = (j : Int) from rfl) (show j < xs.length by omega)) ?_
            refine W.need (ixI (show (j : Int) = (j : Int) from rfl) (show j < n by omega)) ?_
            refine W.need (st0 (show (j : Int) = (j : Int) from rfl) (show j < xs.length by omega)) ?_
            refine W.need (ixI (show (a : Int) = (a : Int) from rfl) (show a < n by omega)) ?_
            refine W.need (st1 (show (j : Int) = (j : Int) from rfl) (show (a : Int) = (a : Int) from rfl) (show j < xs.length by omega) (show a < xs.length by omega)) ?_
            obtain ⟨f1, f2, f3, f4⟩ := hP.fin (by omega) hij
            exact W.ret (RetQ.all ⟨sw xs j a, swI rfl rfl (by omega) (by omega), hX.trans (Sg.sw ⟨by omega, by omega⟩ ⟨by omega, by omega⟩ (by omega)), j, false, rfl, f1, f2, f3, f4⟩)
      · have c1 : decide ((i : Int) ≤ (j : Int)) = false := decide_eq_false (by omega)
        repeat (first | refine W.ite_f c1 ?_ | refine W.ite_t rfl ?_ | refine W.ite_f rfl ?_)
        refine W.ret ?_
        refine W.ite_t (decide_eq_true (by omega)) ?_
        refine W.need (ixI (show (a : Int) = (a : Int) from rfl) (show a < n by omega)) ?_
        refine W.ld (eEI (show (a : Int) = (a : Int) from rfl) (show a < xs.length by omega)) ?_
        refine W.need (ixI (show (j : Int) = (j : Int) from rfl) (show j < n by omega)) ?_
        refine W.ld (eEI (show (j : Int) = (j : Int) from rfl) (show j < xs.length by omega)) ?_
        refine W.need (ixI (show (j : Int) = (j : Int) from rfl) (show j < n by omega)) ?_
        refine W.need (st0 (show (j : Int) = (j : Int) from rfl) (show j < xs.length by omega)) ?_
        refine W.need (ixI (show (a : Int) = (a : Int) from rfl) (show a < n by omega)) ?_
        refine W.need (st1 (show (j : Int) = (j : Int) from rfl) (show (a : Int) = (a : Int) from rfl) (show j < xs.length by omega) (show a < xs.length by omega)) ?_
        obtain ⟨f1, f2, f3, f4⟩ := hP.fin (by omega) hij
        exact W.ret (RetQ.all ⟨sw xs j a, swI rfl rfl (by omega) (by omega), hX.trans (Sg.sw ⟨by omega, by omega⟩ ⟨by omega, by omega⟩ (by omega)), j, true, rfl, f1, f2, f3, f4⟩)
  · have c1 : decide ((i : Int) ≤ (j : Int)) = false := decide_eq_false (by omega)
    repeat (first | refine W.ite_f c1 ?_ | refine W.ite_t rfl ?_ | refine W.ite_f rfl ?_)
    refine W.ret ?_
    refine W.loop (fun k fr σ => fr = [(0, rV n), (1, .d (nI a)), (2, .d (nI b)), (10, .d (nI i)), (11, .d (nI j))] ∧ σ = [rB xs]) 0 (Start.of [0, 1, 2, 10, 11] [] (by simp)) ⟨rfl, rfl⟩ ?_
    rintro k fr σ ⟨rfl, rfl⟩
    repeat (first | refine W.ite_f c1 ?_ | refine W.ite_t rfl ?_ | refine W.ite_f rfl ?_)
    refine W.ret ?_
    refine W.ite_t (decide_eq_true (by omega)) ?_
    refine W.need (ixI (show (a : Int) = (a : Int) from rfl) (show a < n by omega)) ?_
    refine W.ld (eEI (show (a : Int) = (a : Int) from rfl) (show a < xs.length by omega)) ?_
    refine W.need (ixI (show (j : Int) = (j : Int) from rfl) (show j < n by omega)) ?_
    refine W.ld (eEI (show (j : Int) = (j : Int) from rfl) (show j < xs.length by omega)) ?_
    refine W.need (ixI (show (j : Int) = (j : Int) from rfl) (show j < n by omega)) ?_
    refine W.need (st0 (show (j : Int) = (j : Int) from rfl) (show j < xs.length by omega)) ?_
    refine W.need (ixI (show (a : Int) = (a : Int) from rfl) (show a < n by omega)) ?_
    refine W.need (st1 (show (j : Int) = (j : Int) from rfl) (show (a : Int) = (a : Int) from rfl) (show j < xs.length by omega) (show a < xs.length by omega)) ?_
    obtain ⟨f1, f2, f3, f4⟩ := hP.fin (by omega) hij
    exact W.ret (RetQ.all ⟨sw xs j a, swI rfl rfl (by omega) (by omega), hX.trans (Sg.sw ⟨by omega, by omega⟩ ⟨by omega, by omega⟩ (by omega)), j, true, rfl, f1, f2, f3, f4⟩)
end Go.Proofs.Ytddhlmejaobcgaa.Pu
