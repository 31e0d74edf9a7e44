import Derived.Test.YtddhlmejaobcgaaPQue
set_option maxRecDepth 100000
set_option linter.unusedVariables false
set_option linter.unusedSimpArgs false
/- Sorting in place: all of it, of fewer than 50. -/
namespace Go.Proofs.Ytddhlmejaobcgaa.Pu
open Go Go.Am Co
def od41 : Ords := []
theorem code41 : codeB Try.f41.ntmps od41 (match Try.f41.body with | some c => c | none => .skip) = true := by kernel_rfl
/-- Sorted but for what lies within. -/
structure Pq (a b c d : Nat) (zs xs : List Int) : Prop where
  s : Sg a b zs xs
  h1 : a ≤ c
  h2 : c ≤ d
  h3 : d ≤ b
  e : ∀ i j, a ≤ i → i ≤ j → j < b → (i < c ∨ d ≤ j) → g xs i ≤ g xs j
  p : 0 < c → ∀ q, c ≤ q → q < d → g xs (c - 1) ≤ g xs q
theorem Pq.inner {a b c d : Nat} {zs xs ys : List Int} (h : Pq a b c d zs xs) (k : Sg c d xs ys) : Pq a b c d zs ys where
  s := h.s.trans (k.wide h.h1 h.h3)
  h1 := h.h1
  h2 := h.h2
  h3 := h.h3
  e := fun i j i1 i2 i3 i4 => by
    rcases i4 with i4 | i4
    · rw [k.out i (.inl i4)]
      by_cases hj : c ≤ j ∧ j < d
      · obtain ⟨r, r1, r2, r3⟩ := k.src j hj.1 hj.2
        rw [r3]; exact h.e i r i1 (by omega) (by have := h.h3; omega) (.inl i4)
      · rw [k.out j (by omega)]; exact h.e i j i1 i2 i3 (.inl i4)
    · rw [k.out j (.inr i4)]
      by_cases hi : c ≤ i ∧ i < d
      · obtain ⟨r, r1, r2, r3⟩ := k.src i hi.1 hi.2
        rw [r3]; exact h.e r j (by have := h.h1; omega) (by omega) i3 (.inr i4)
      · rw [k.out i (by omega)]; exact h.e i j i1 i2 i3 (.inr i4)
  p := fun h0 q q1 q2 => by
    obtain ⟨r, r1, r2, r3⟩ := k.src q q1 q2
    rw [k.out (c - 1) (by omega), r3]; exact h.p h0 r r1 r2
theorem Pq.fin {a b c d : Nat} {zs xs : List Int} (h : Pq a b c d zs xs) (hs : So c d xs) : So a b xs := fun i j i1 i2 i3 => by
  by_cases hc : i < c ∨ d ≤ j
  · exact h.e i j i1 i2 i3 hc
  · exact hs i j (by omega) i2 (by omega)
theorem Pq.eq {a b c d m x : Nat} {zs xs ys : List Int} (h : Pq a b c d zs xs) (k : Sg c d xs ys) (h0 : 0 < c) (hx : ¬ g xs (c - 1) < g xs x) (m1 : c < m) (m2 : m ≤ d) (q1 : ∀ q, c < q → q < m → g ys q ≤ g ys c) (q3 : g ys c = g xs x) : Pq a b m d zs ys := by
  have h' := h.inner k
  have hh1 := h.h1
  have hh3 := h.h3
  have low : ∀ q, c ≤ q → q < m → ∀ r, c ≤ r → r < d → g ys q ≤ g ys r := fun q a1 a2 r a3 a4 => by
    have e1 : g ys q ≤ g ys c := by
      by_cases e : q = c
      · rw [e]; exact Int.le_refl _
      · exact q1 q (by omega) a2
    have e2 := h'.p h0 r a3 a4
    rw [k.out (c - 1) (by omega)] at e2
    omega
  refine ⟨h'.s, by omega, m2, h.h3, fun i j i1 i2 i3 i4 => ?_, fun _ q a1 a2 => low (m - 1) (by omega) (by omega) q (by omega) a2⟩
  by_cases hc : i < c ∨ d ≤ j
  · exact h'.e i j i1 i2 i3 hc
  · exact low i (by omega) (by omega) j (by omega) (by omega)
theorem Pq.left {a b c d m : Nat} {zs ys ws : List Int} (h : Pq a b c d zs ys) (m1 : c ≤ m) (m2 : m < d) (q1 : ∀ q, c ≤ q → q < m → g ys q ≤ g ys m) (q2 : ∀ q, m < q → q < d → g ys m ≤ g ys q) (k : Sg c m ys ws) (hs : So c m ws) : Pq a b (m + 1) d zs ws := by
  have h' := h.inner (k.wide (Nat.le_refl _) (Nat.le_of_lt m2))
  have hh1 := h.h1
  have hh3 := h.h3
  have gm : g ws m = g ys m := k.out m (.inr (Nat.le_refl _))
  have lo : ∀ q, c ≤ q → q < m → g ws q ≤ g ws m := fun q a1 a2 => by
    obtain ⟨r, r1, r2, r3⟩ := k.src q a1 a2
    rw [r3, gm]; exact q1 r r1 r2
  have up : ∀ q, m < q → q < d → g ws m ≤ g ws q := fun q a1 a2 => by
    rw [gm, k.out q (.inr (by omega))]; exact q2 q a1 a2
  refine ⟨h'.s, by omega, by omega, h.h3, fun i j i1 i2 i3 i4 => ?_, fun _ q a1 a2 => up q (by omega) a2⟩
  by_cases hc : i < c ∨ d ≤ j
  · exact h'.e i j i1 i2 i3 hc
  · by_cases e1 : j < m
    · exact hs i j (by omega) i2 e1
    · by_cases e2 : j = m
      · rw [e2]
        by_cases e3 : i = m
        · rw [e3]; exact Int.le_refl _
        · exact lo i (by omega) (by omega)
      · by_cases e3 : i = m
        · rw [e3]; exact up j (by omega) (by omega)
        · exact Int.le_trans (lo i (by omega) (by omega)) (up j (by omega) (by omega))
theorem Pq.right {a b c d m : Nat} {zs ys ws : List Int} (h : Pq a b c d zs ys) (m1 : c ≤ m) (m2 : m < d) (q1 : ∀ q, c ≤ q → q < m → g ys q ≤ g ys m) (q2 : ∀ q, m < q → q < d → g ys m ≤ g ys q) (k : Sg (m + 1) d ys ws) (hs : So (m + 1) d ws) : Pq a b c m zs ws := by
  have h' := h.inner (k.wide (by omega) (Nat.le_refl _))
  have hh1 := h.h1
  have hh3 := h.h3
  have gm : g ws m = g ys m := k.out m (.inl (by omega))
  have lo : ∀ q, c ≤ q → q < m → g ws q ≤ g ws m := fun q a1 a2 => by
    rw [gm, k.out q (.inl (by omega))]; exact q1 q a1 a2
  have up : ∀ q, m < q → q < d → g ws m ≤ g ws q := fun q a1 a2 => by
    obtain ⟨r, r1, r2, r3⟩ := k.src q (by omega) a2
    rw [r3, gm]; exact q2 r (by omega) r2
  refine ⟨h'.s, h.h1, m1, by omega, fun i j i1 i2 i3 i4 => ?_, fun h0 q a1 a2 => h'.p h0 q a1 (by omega)⟩
  by_cases hc : i < c ∨ d ≤ j
  · exact h'.e i j i1 i2 i3 hc
  · by_cases e1 : m < i
    · exact hs i j (by omega) i2 (by omega)
    · by_cases e2 : i = m
      · rw [e2]
        by_cases e3 : j = m
        · rw [e3]; exact Int.le_refl _
        · exact up j (by omega) (by omega)
      · by_cases e3 : j = m
        · rw [e3]; exact lo i (by omega) (by omega)
        · exact Int.le_trans (lo i (by omega) (by omega)) (up j (by omega) (by omega))
set_option maxHeartbeats 16000000 in
theorem ok61 {n : Nat} (hn : n < 50) : ∀ (N : Nat) (zs : List Int) (a b lim : Nat), b - a = N → zs.length = n → a ≤ b → b ≤ n → lim ≤ 64 → (0 < a → ∀ q, a ≤ q → q < b → g zs (a - 1) ≤ g zs q) →
    CallOk Try.prog 61 [rV n, .d (nI a), .d (nI b), .d (nI lim)] [rB zs] (Mv a b zs fun v zs' => v = .tuple [] ∧ So a b zs') := by
  intro N
  induction N using Nat.strongRecOn with
  | ind N ih =>
  intro zs a b lim hN hl0 hab hb hlim hp
  refine CallOk.of tysOk mixed od61 Try.func61 rfl rfl code61 ?_
  refine W.loop (fun k fr σ => ∃ (c d lm : Nat) (wb wp : Bool) (xs : List Int), fr = [(0, rV n), (1, .d (nI c)), (2, .d (nI d)), (3, .d (nI lm)), (8, bI wb), (9, bI wp)] ∧ σ = [rB xs] ∧ Pq a b c d zs xs ∧ lm ≤ 64 ∧ k = d - c) (b - a)
    (Start.of [0, 1, 2, 3, 8, 9] [] (by simp)) ⟨a, b, lim, true, true, zs, rfl, rfl, ⟨Sg.refl _ _ _, Nat.le_refl _, hab, Nat.le_refl _, fun i j i1 i2 i3 i4 => by omega, hp⟩, hlim, rfl⟩ ?_
  rintro k fr σ ⟨c, d, lm, wb, wp, xs, rfl, rfl, hQ, hlm, rfl⟩
  have hh1 := hQ.h1
  have hh2 := hQ.h2
  have hh3 := hQ.h3
  have hl : xs.length = n := by rw [hQ.s.len]; exact hl0
  have el : IntKind.i64.wrap ((d : Int) - (c : Int)) = ((d - c : Nat) : Int) := by rw [wI (by omega)]; omega
  by_cases h12 : d - c ≤ 12
  · refine W.ite_t (decide_eq_true (by rw [el]; omega)) ?_
    refine W.callT [0] (ok72 (n := n) xs c d hl hh2 (by omega) (by omega)) (by decide) rfl rfl rfl rfl ?_
    rintro v σ ⟨ys, rfl, kS, rfl, hso⟩
    have hQ' := hQ.inner kS
    exact W.ret (W.ret (RetQ.all ⟨ys, rfl, hQ'.s, rfl, hQ'.fin hso⟩))
  · refine W.ite_f (decide_eq_false (by rw [el]; omega)) ?_
    by_cases hz : lm = 0
    · subst hz
      refine W.ite_t rfl ?_
      refine W.callT [0] (ok73 (n := n) xs c d hl (by omega) (by omega) (by omega)) (by decide) rfl rfl rfl rfl ?_
      rintro v σ ⟨ys, rfl, kS, rfl, hso⟩
      have hQ' := hQ.inner kS
      exact W.ret (W.ret (RetQ.all ⟨ys, rfl, hQ'.s, rfl, hQ'.fin hso⟩))
    · refine W.ite_f (beq_eq_false_iff_ne.2 (by omega)) ?_
      cases wb with
      | false =>
        refine W.ite_t rfl ?_
        refine W.callT [0] (ok74 (n := n) xs c d hl (by omega) (by omega) (by omega) (by omega)) (by decide) rfl rfl rfl rfl ?_
        rintro v σ ⟨ys, rfl, kS, rfl⟩
        have hQ2 := hQ.inner kS
        have hl2 : ys.length = n := by rw [hQ2.s.len]; exact hl0
        clear hQ hl kS
        revert hQ2 hl2
        generalize ys = xs
        intro hQ hl
        have elm : IntKind.i64.wrap ((lm : Int) - 1) = ((lm - 1 : Nat) : Int) := by rw [wI (by omega)]; omega
        skip
        refine W.callT [0] (ok75 (n := n) xs c d hl (by omega) (by omega) (by omega) (by omega)) (by decide) rfl rfl rfl rfl ?_
        rintro v σ ⟨x, hint, rfl, rfl, hx1, hx2, hh⟩
        refine W.ite_f (beq_eq_false_iff_ne.2 (by omega)) ?_
        repeat (first | refine W.ite_t rfl ?_ | refine W.ite_f rfl ?_)
        by_cases h0 : 0 < c
        · have c1 : decide ((c : Int) > 0) = true := decide_eq_true (by omega)
          have ec : IntKind.i64.wrap ((c : Int) - 1) = ((c - 1 : Nat) : Int) := by rw [wI (by omega)]; omega
          repeat (first | refine W.ite_t c1 ?_ | refine W.ite_t rfl ?_ | refine W.ite_f rfl ?_)
          refine W.need (ixI ec (by omega)) ?_
          repeat (first | refine W.ite_t c1 ?_ | refine W.ite_t rfl ?_ | refine W.ite_f rfl ?_)
          refine W.ld (eEI ec (by omega)) ?_
          repeat (first | refine W.ite_t c1 ?_ | refine W.ite_t rfl ?_ | refine W.ite_f rfl ?_)
          refine W.need (ixI (i := x) rfl (by omega)) ?_
          repeat (first | refine W.ite_t c1 ?_ | refine W.ite_t rfl ?_ | refine W.ite_f rfl ?_)
          refine W.ld (eEI (i := x) rfl (by omega)) ?_
          repeat (first | refine W.ite_t c1 ?_ | refine W.ite_t rfl ?_ | refine W.ite_f rfl ?_)
          refine W.pure (ok63 _ _) rfl rfl ?_
          repeat (first | refine W.ite_t c1 ?_ | refine W.ite_t rfl ?_ | refine W.ite_f rfl ?_)
          refine W.ite (fun cc => ?_) (fun cc => ?_)
          · have hx : ¬ g xs (c - 1) < g xs x := of_decide_eq_false (by simpa using cc)
            refine W.callT [0] (ok78 (n := n) xs c d x hl ⟨hx1, hx2⟩ (by omega) (by omega)) (by decide) rfl rfl rfl rfl ?_
            rintro v σ ⟨ys, rfl, kS, m, rfl, m1, m2, q1, q2, q3⟩
            refine W.ret ⟨_, _, _, ?_, Trim.of [0, 1, 2, 3, 8, 9] [0] (by decide) (by intro q hq; obtain rfl := List.mem_singleton.1 hq; exact Nat.zero_lt_one) keepR, m, d, (lm - 1), false, wp, ys, ?_, rfl, hQ.eq kS h0 hx m1 m2 q1 q3, by omega, rfl⟩
            · omega
            · rw [← elm]; rfl
          · clear c1 cc
            refine W.callT [0] (ok79 (n := n) xs c d x hl ⟨hx1, hx2⟩ (by omega) (by omega)) (by decide) rfl rfl rfl rfl ?_
            rintro v σ ⟨ys, rfl, kS, m, r, rfl, m1, m2, q1, q2⟩
            have hQ' := hQ.inner kS
            have hly := hQ'.s.len
            have em : IntKind.i64.wrap ((m : Int) + 1) = ((m + 1 : Nat) : Int) := by rw [wI (by omega)]; rfl
            refine W.need (by decide) ?_
            refine W.ite (fun cc => ?_) (fun cc => ?_)
            · clear cc
              refine W.callT [0] (ih (m - c) (by omega) ys c m (lm - 1) rfl (by omega) (by omega) (by omega) (by omega) (fun h0 q w1 w2 => hQ'.p h0 q w1 (by omega))) (by decide) rfl rfl (by rw [← elm]; rfl) rfl ?_
              rintro v σ ⟨ws, rfl, kS2, rfl, hso⟩
              refine W.ret ⟨_, _, _, ?_, Trim.of [0, 1, 2, 3, 8, 9] [0] (by decide) (by intro q hq; obtain rfl := List.mem_singleton.1 hq; exact Nat.zero_lt_one) keepR, m + 1, d, (lm - 1), decide (IntKind.i64.wrap ((m : Int) - (c : Int)) ≥ IntKind.i64.wrap ((IntKind.i64.wrap ((d : Int) - (c : Int))).tdiv 8)), r, ws, ?_, rfl, hQ'.left m1 m2 q1 q2 kS2 hso, by omega, rfl⟩
              · omega
              · rw [← em, ← elm]; rfl
            · clear cc
              refine W.callT [0] (ih (d - (m + 1)) (by omega) ys (m + 1) d (lm - 1) rfl (by omega) (by omega) (by omega) (by omega) (fun h0 q w1 w2 => q2 q (by omega) w2)) (by decide) rfl rfl (by rw [← em, ← elm]; rfl) rfl ?_
              rintro v σ ⟨ws, rfl, kS2, rfl, hso⟩
              refine W.ret ⟨_, _, _, ?_, Trim.of [0, 1, 2, 3, 8, 9] [0] (by decide) (by intro q hq; obtain rfl := List.mem_singleton.1 hq; exact Nat.zero_lt_one) keepR, c, m, (lm - 1), decide (IntKind.i64.wrap ((d : Int) - (m : Int)) ≥ IntKind.i64.wrap ((IntKind.i64.wrap ((d : Int) - (c : Int))).tdiv 8)), r, ws, ?_, rfl, hQ'.right m1 m2 q1 q2 kS2 hso, by omega, rfl⟩
              · omega
              · rw [← elm]; rfl
        · have c1 : decide ((c : Int) > 0) = false := decide_eq_false (by omega)
          repeat (first | refine W.ite_f c1 ?_ | refine W.ite_t rfl ?_ | refine W.ite_f rfl ?_)
          clear c1
          refine W.callT [0] (ok79 (n := n) xs c d x hl ⟨hx1, hx2⟩ (by omega) (by omega)) (by decide) rfl rfl rfl rfl ?_
          rintro v σ ⟨ys, rfl, kS, m, r, rfl, m1, m2, q1, q2⟩
          have hQ' := hQ.inner kS
          have hly := hQ'.s.len
          have em : IntKind.i64.wrap ((m : Int) + 1) = ((m + 1 : Nat) : Int) := by rw [wI (by omega)]; rfl
          refine W.need (by decide) ?_
          refine W.ite (fun cc => ?_) (fun cc => ?_)
          · clear cc
            refine W.callT [0] (ih (m - c) (by omega) ys c m (lm - 1) rfl (by omega) (by omega) (by omega) (by omega) (fun h0 q w1 w2 => hQ'.p h0 q w1 (by omega))) (by decide) rfl rfl (by rw [← elm]; rfl) rfl ?_
            rintro v σ ⟨ws, rfl, kS2, rfl, hso⟩
            refine W.ret ⟨_, _, _, ?_, Trim.of [0, 1, 2, 3, 8, 9] [0] (by decide) (by intro q hq; obtain rfl := List.mem_singleton.1 hq; exact Nat.zero_lt_one) keepR, m + 1, d, (lm - 1), decide (IntKind.i64.wrap ((m : Int) - (c : Int)) ≥ IntKind.i64.wrap ((IntKind.i64.wrap ((d : Int) - (c : Int))).tdiv 8)), r, ws, ?_, rfl, hQ'.left m1 m2 q1 q2 kS2 hso, by omega, rfl⟩
            · omega
            · rw [← em, ← elm]; rfl
          · clear cc
            refine W.callT [0] (ih (d - (m + 1)) (by omega) ys (m + 1) d (lm - 1) rfl (by omega) (by omega) (by omega) (by omega) (fun h0 q w1 w2 => q2 q (by omega) w2)) (by decide) rfl rfl (by rw [← em, ← elm]; rfl) rfl ?_
            rintro v σ ⟨ws, rfl, kS2, rfl, hso⟩
            refine W.ret ⟨_, _, _, ?_, Trim.of [0, 1, 2, 3, 8, 9] [0] (by decide) (by intro q hq; obtain rfl := List.mem_singleton.1 hq; exact Nat.zero_lt_one) keepR, c, m, (lm - 1), decide (IntKind.i64.wrap ((d : Int) - (m : Int)) ≥ IntKind.i64.wrap ((IntKind.i64.wrap ((d : Int) - (c : Int))).tdiv 8)), r, ws, ?_, rfl, hQ'.right m1 m2 q1 q2 kS2 hso, by omega, rfl⟩
            · omega
            · rw [← elm]; rfl
      | true =>
        refine W.ite_f rfl ?_
        refine W.callT [0] (ok75 (n := n) xs c d hl (by omega) (by omega) (by omega) (by omega)) (by decide) rfl rfl rfl rfl ?_
        rintro v σ ⟨x, hint, rfl, rfl, hx1, hx2, hh⟩
        refine W.ite_f (beq_eq_false_iff_ne.2 (by omega)) ?_
        cases wp with
        | false =>
          repeat (first | refine W.ite_t rfl ?_ | refine W.ite_f rfl ?_)
          by_cases h0 : 0 < c
          · have c1 : decide ((c : Int) > 0) = true := decide_eq_true (by omega)
            have ec : IntKind.i64.wrap ((c : Int) - 1) = ((c - 1 : Nat) : Int) := by rw [wI (by omega)]; omega
            repeat (first | refine W.ite_t c1 ?_ | refine W.ite_t rfl ?_ | refine W.ite_f rfl ?_)
            refine W.need (ixI ec (by omega)) ?_
            repeat (first | refine W.ite_t c1 ?_ | refine W.ite_t rfl ?_ | refine W.ite_f rfl ?_)
            refine W.ld (eEI ec (by omega)) ?_
            repeat (first | refine W.ite_t c1 ?_ | refine W.ite_t rfl ?_ | refine W.ite_f rfl ?_)
            refine W.need (ixI (i := x) rfl (by omega)) ?_
            repeat (first | refine W.ite_t c1 ?_ | refine W.ite_t rfl ?_ | refine W.ite_f rfl ?_)
            refine W.ld (eEI (i := x) rfl (by omega)) ?_
            repeat (first | refine W.ite_t c1 ?_ | refine W.ite_t rfl ?_ | refine W.ite_f rfl ?_)
            refine W.pure (ok63 _ _) rfl rfl ?_
            repeat (first | refine W.ite_t c1 ?_ | refine W.ite_t rfl ?_ | refine W.ite_f rfl ?_)
            refine W.ite (fun cc => ?_) (fun cc => ?_)
            · have hx : ¬ g xs (c - 1) < g xs x := of_decide_eq_false (by simpa using cc)
              refine W.callT [0] (ok78 (n := n) xs c d x hl ⟨hx1, hx2⟩ (by omega) (by omega)) (by decide) rfl rfl rfl rfl ?_
              rintro v σ ⟨ys, rfl, kS, m, rfl, m1, m2, q1, q2, q3⟩
              refine W.ret ⟨_, _, _, ?_, Trim.of [0, 1, 2, 3, 8, 9] [0] (by decide) (by intro q hq; obtain rfl := List.mem_singleton.1 hq; exact Nat.zero_lt_one) keepR, m, d, lm, true, false, ys, ?_, rfl, hQ.eq kS h0 hx m1 m2 q1 q3, by omega, rfl⟩
              · omega
              · rfl
            · clear c1 cc
              refine W.callT [0] (ok79 (n := n) xs c d x hl ⟨hx1, hx2⟩ (by omega) (by omega)) (by decide) rfl rfl rfl rfl ?_
              rintro v σ ⟨ys, rfl, kS, m, r, rfl, m1, m2, q1, q2⟩
              have hQ' := hQ.inner kS
              have hly := hQ'.s.len
              have em : IntKind.i64.wrap ((m : Int) + 1) = ((m + 1 : Nat) : Int) := by rw [wI (by omega)]; rfl
              refine W.need (by decide) ?_
              refine W.ite (fun cc => ?_) (fun cc => ?_)
              · clear cc
                refine W.callT [0] (ih (m - c) (by omega) ys c m lm rfl (by omega) (by omega) (by omega) (by omega) (fun h0 q w1 w2 => hQ'.p h0 q w1 (by omega))) (by decide) rfl rfl rfl rfl ?_
                rintro v σ ⟨ws, rfl, kS2, rfl, hso⟩
                refine W.ret ⟨_, _, _, ?_, Trim.of [0, 1, 2, 3, 8, 9] [0] (by decide) (by intro q hq; obtain rfl := List.mem_singleton.1 hq; exact Nat.zero_lt_one) keepR, m + 1, d, lm, decide (IntKind.i64.wrap ((m : Int) - (c : Int)) ≥ IntKind.i64.wrap ((IntKind.i64.wrap ((d : Int) - (c : Int))).tdiv 8)), r, ws, ?_, rfl, hQ'.left m1 m2 q1 q2 kS2 hso, by omega, rfl⟩
                · omega
                · rw [← em]; rfl
              · clear cc
                refine W.callT [0] (ih (d - (m + 1)) (by omega) ys (m + 1) d lm rfl (by omega) (by omega) (by omega) (by omega) (fun h0 q w1 w2 => q2 q (by omega) w2)) (by decide) rfl rfl (by rw [← em]; rfl) rfl ?_
                rintro v σ ⟨ws, rfl, kS2, rfl, hso⟩
                refine W.ret ⟨_, _, _, ?_, Trim.of [0, 1, 2, 3, 8, 9] [0] (by decide) (by intro q hq; obtain rfl := List.mem_singleton.1 hq; exact Nat.zero_lt_one) keepR, c, m, lm, decide (IntKind.i64.wrap ((d : Int) - (m : Int)) ≥ IntKind.i64.wrap ((IntKind.i64.wrap ((d : Int) - (c : Int))).tdiv 8)), r, ws, ?_, rfl, hQ'.right m1 m2 q1 q2 kS2 hso, by omega, rfl⟩
                · omega
                · rfl
          · have c1 : decide ((c : Int) > 0) = false := decide_eq_false (by omega)
            repeat (first | refine W.ite_f c1 ?_ | refine W.ite_t rfl ?_ | refine W.ite_f rfl ?_)
            clear c1
            refine W.callT [0] (ok79 (n := n) xs c d x hl ⟨hx1, hx2⟩ (by omega) (by omega)) (by decide) rfl rfl rfl rfl ?_
            rintro v σ ⟨ys, rfl, kS, m, r, rfl, m1, m2, q1, q2⟩
            have hQ' := hQ.inner kS
            have hly := hQ'.s.len
            have em : IntKind.i64.wrap ((m : Int) + 1) = ((m + 1 : Nat) : Int) := by rw [wI (by omega)]; rfl
            refine W.need (by decide) ?_
            refine W.ite (fun cc => ?_) (fun cc => ?_)
            · clear cc
              refine W.callT [0] (ih (m - c) (by omega) ys c m lm rfl (by omega) (by omega) (by omega) (by omega) (fun h0 q w1 w2 => hQ'.p h0 q w1 (by omega))) (by decide) rfl rfl rfl rfl ?_
              rintro v σ ⟨ws, rfl, kS2, rfl, hso⟩
              refine W.ret ⟨_, _, _, ?_, Trim.of [0, 1, 2, 3, 8, 9] [0] (by decide) (by intro q hq; obtain rfl := List.mem_singleton.1 hq; exact Nat.zero_lt_one) keepR, m + 1, d, lm, decide (IntKind.i64.wrap ((m : Int) - (c : Int)) ≥ IntKind.i64.wrap ((IntKind.i64.wrap ((d : Int) - (c : Int))).tdiv 8)), r, ws, ?_, rfl, hQ'.left m1 m2 q1 q2 kS2 hso, by omega, rfl⟩
              · omega
              · rw [← em]; rfl
            · clear cc
              refine W.callT [0] (ih (d - (m + 1)) (by omega) ys (m + 1) d lm rfl (by omega) (by omega) (by omega) (by omega) (fun h0 q w1 w2 => q2 q (by omega) w2)) (by decide) rfl rfl (by rw [← em]; rfl) rfl ?_
              rintro v σ ⟨ws, rfl, kS2, rfl, hso⟩
              refine W.ret ⟨_, _, _, ?_, Trim.of [0, 1, 2, 3, 8, 9] [0] (by decide) (by intro q hq; obtain rfl := List.mem_singleton.1 hq; exact Nat.zero_lt_one) keepR, c, m, lm, decide (IntKind.i64.wrap ((d : Int) - (m : Int)) ≥ IntKind.i64.wrap ((IntKind.i64.wrap ((d : Int) - (c : Int))).tdiv 8)), r, ws, ?_, rfl, hQ'.right m1 m2 q1 q2 kS2 hso, by omega, rfl⟩
              · omega
              · rfl
        | true =>
          rcases hh with rfl | rfl
          · repeat (first | refine W.ite_t rfl ?_ | refine W.ite_f rfl ?_)
            by_cases h0 : 0 < c
            · have c1 : decide ((c : Int) > 0) = true := decide_eq_true (by omega)
              have ec : IntKind.i64.wrap ((c : Int) - 1) = ((c - 1 : Nat) : Int) := by rw [wI (by omega)]; omega
              repeat (first | refine W.ite_t c1 ?_ | refine W.ite_t rfl ?_ | refine W.ite_f rfl ?_)
              refine W.need (ixI ec (by omega)) ?_
              repeat (first | refine W.ite_t c1 ?_ | refine W.ite_t rfl ?_ | refine W.ite_f rfl ?_)
              refine W.ld (eEI ec (by omega)) ?_
              repeat (first | refine W.ite_t c1 ?_ | refine W.ite_t rfl ?_ | refine W.ite_f rfl ?_)
              refine W.need (ixI (i := x) rfl (by omega)) ?_
              repeat (first | refine W.ite_t c1 ?_ | refine W.ite_t rfl ?_ | refine W.ite_f rfl ?_)
              refine W.ld (eEI (i := x) rfl (by omega)) ?_
              repeat (first | refine W.ite_t c1 ?_ | refine W.ite_t rfl ?_ | refine W.ite_f rfl ?_)
              refine W.pure (ok63 _ _) rfl rfl ?_
              repeat (first | refine W.ite_t c1 ?_ | refine W.ite_t rfl ?_ | refine W.ite_f rfl ?_)
              refine W.ite (fun cc => ?_) (fun cc => ?_)
              · have hx : ¬ g xs (c - 1) < g xs x := of_decide_eq_false (by simpa using cc)
                refine W.callT [0] (ok78 (n := n) xs c d x hl ⟨hx1, hx2⟩ (by omega) (by omega)) (by decide) rfl rfl rfl rfl ?_
                rintro v σ ⟨ys, rfl, kS, m, rfl, m1, m2, q1, q2, q3⟩
                refine W.ret ⟨_, _, _, ?_, Trim.of [0, 1, 2, 3, 8, 9] [0] (by decide) (by intro q hq; obtain rfl := List.mem_singleton.1 hq; exact Nat.zero_lt_one) keepR, m, d, lm, true, true, ys, ?_, rfl, hQ.eq kS h0 hx m1 m2 q1 q3, by omega, rfl⟩
                · omega
                · rfl
              · clear c1 cc
                refine W.callT [0] (ok79 (n := n) xs c d x hl ⟨hx1, hx2⟩ (by omega) (by omega)) (by decide) rfl rfl rfl rfl ?_
                rintro v σ ⟨ys, rfl, kS, m, r, rfl, m1, m2, q1, q2⟩
                have hQ' := hQ.inner kS
                have hly := hQ'.s.len
                have em : IntKind.i64.wrap ((m : Int) + 1) = ((m + 1 : Nat) : Int) := by rw [wI (by omega)]; rfl
                refine W.need (by decide) ?_
                refine W.ite (fun cc => ?_) (fun cc => ?_)
                · clear cc
                  refine W.callT [0] (ih (m - c) (by omega) ys c m lm rfl (by omega) (by omega) (by omega) (by omega) (fun h0 q w1 w2 => hQ'.p h0 q w1 (by omega))) (by decide) rfl rfl rfl rfl ?_
                  rintro v σ ⟨ws, rfl, kS2, rfl, hso⟩
                  refine W.ret ⟨_, _, _, ?_, Trim.of [0, 1, 2, 3, 8, 9] [0] (by decide) (by intro q hq; obtain rfl := List.mem_singleton.1 hq; exact Nat.zero_lt_one) keepR, m + 1, d, lm, decide (IntKind.i64.wrap ((m : Int) - (c : Int)) ≥ IntKind.i64.wrap ((IntKind.i64.wrap ((d : Int) - (c : Int))).tdiv 8)), r, ws, ?_, rfl, hQ'.left m1 m2 q1 q2 kS2 hso, by omega, rfl⟩
                  · omega
                  · rw [← em]; rfl
                · clear cc
                  refine W.callT [0] (ih (d - (m + 1)) (by omega) ys (m + 1) d lm rfl (by omega) (by omega) (by omega) (by omega) (fun h0 q w1 w2 => q2 q (by omega) w2)) (by decide) rfl rfl (by rw [← em]; rfl) rfl ?_
                  rintro v σ ⟨ws, rfl, kS2, rfl, hso⟩
                  refine W.ret ⟨_, _, _, ?_, Trim.of [0, 1, 2, 3, 8, 9] [0] (by decide) (by intro q hq; obtain rfl := List.mem_singleton.1 hq; exact Nat.zero_lt_one) keepR, c, m, lm, decide (IntKind.i64.wrap ((d : Int) - (m : Int)) ≥ IntKind.i64.wrap ((IntKind.i64.wrap ((d : Int) - (c : Int))).tdiv 8)), r, ws, ?_, rfl, hQ'.right m1 m2 q1 q2 kS2 hso, by omega, rfl⟩
                  · omega
                  · rfl
            · have c1 : decide ((c : Int) > 0) = false := decide_eq_false (by omega)
              repeat (first | refine W.ite_f c1 ?_ | refine W.ite_t rfl ?_ | refine W.ite_f rfl ?_)
              clear c1
              refine W.callT [0] (ok79 (n := n) xs c d x hl ⟨hx1, hx2⟩ (by omega) (by omega)) (by decide) rfl rfl rfl rfl ?_
              rintro v σ ⟨ys, rfl, kS, m, r, rfl, m1, m2, q1, q2⟩
              have hQ' := hQ.inner kS
              have hly := hQ'.s.len
              have em : IntKind.i64.wrap ((m : Int) + 1) = ((m + 1 : Nat) : Int) := by rw [wI (by omega)]; rfl
              refine W.need (by decide) ?_
              refine W.ite (fun cc => ?_) (fun cc => ?_)
              · clear cc
                refine W.callT [0] (ih (m - c) (by omega) ys c m lm rfl (by omega) (by omega) (by omega) (by omega) (fun h0 q w1 w2 => hQ'.p h0 q w1 (by omega))) (by decide) rfl rfl rfl rfl ?_
                rintro v σ ⟨ws, rfl, kS2, rfl, hso⟩
                refine W.ret ⟨_, _, _, ?_, Trim.of [0, 1, 2, 3, 8, 9] [0] (by decide) (by intro q hq; obtain rfl := List.mem_singleton.1 hq; exact Nat.zero_lt_one) keepR, m + 1, d, lm, decide (IntKind.i64.wrap ((m : Int) - (c : Int)) ≥ IntKind.i64.wrap ((IntKind.i64.wrap ((d : Int) - (c : Int))).tdiv 8)), r, ws, ?_, rfl, hQ'.left m1 m2 q1 q2 kS2 hso, by omega, rfl⟩
                · omega
                · rw [← em]; rfl
              · clear cc
                refine W.callT [0] (ih (d - (m + 1)) (by omega) ys (m + 1) d lm rfl (by omega) (by omega) (by omega) (by omega) (fun h0 q w1 w2 => q2 q (by omega) w2)) (by decide) rfl rfl (by rw [← em]; rfl) rfl ?_
                rintro v σ ⟨ws, rfl, kS2, rfl, hso⟩
                refine W.ret ⟨_, _, _, ?_, Trim.of [0, 1, 2, 3, 8, 9] [0] (by decide) (by intro q hq; obtain rfl := List.mem_singleton.1 hq; exact Nat.zero_lt_one) keepR, c, m, lm, decide (IntKind.i64.wrap ((d : Int) - (m : Int)) ≥ IntKind.i64.wrap ((IntKind.i64.wrap ((d : Int) - (c : Int))).tdiv 8)), r, ws, ?_, rfl, hQ'.right m1 m2 q1 q2 kS2 hso, by omega, rfl⟩
                · omega
                · rfl
          · repeat (first | refine W.ite_t rfl ?_ | refine W.ite_f rfl ?_)
            refine W.callT [0] (ok77 (n := n) xs c d hl (by omega) (by omega) (by omega) (by omega)) (by decide) rfl rfl rfl rfl ?_
            rintro v σ ⟨r, rfl, rfl, hr⟩
            cases r with
            | true =>
              refine W.ite_t rfl ?_
              exact W.ret (W.ret (RetQ.all ⟨xs, rfl, hQ.s, rfl, hQ.fin (hr rfl)⟩))
            | false =>
              refine W.ite_f rfl ?_
              by_cases h0 : 0 < c
              · have c1 : decide ((c : Int) > 0) = true := decide_eq_true (by omega)
                have ec : IntKind.i64.wrap ((c : Int) - 1) = ((c - 1 : Nat) : Int) := by rw [wI (by omega)]; omega
                repeat (first | refine W.ite_t c1 ?_ | refine W.ite_t rfl ?_ | refine W.ite_f rfl ?_)
                refine W.need (ixI ec (by omega)) ?_
                repeat (first | refine W.ite_t c1 ?_ | refine W.ite_t rfl ?_ | refine W.ite_f rfl ?_)
                refine W.ld (eEI ec (by omega)) ?_
                repeat (first | refine W.ite_t c1 ?_ | refine W.ite_t rfl ?_ | refine W.ite_f rfl ?_)
                refine W.need (ixI (i := x) rfl (by omega)) ?_
                repeat (first | refine W.ite_t c1 ?_ | refine W.ite_t rfl ?_ | refine W.ite_f rfl ?_)
                refine W.ld (eEI (i := x) rfl (by omega)) ?_
                repeat (first | refine W.ite_t c1 ?_ | refine W.ite_t rfl ?_ | refine W.ite_f rfl ?_)
                refine W.pure (ok63 _ _) rfl rfl ?_
                repeat (first | refine W.ite_t c1 ?_ | refine W.ite_t rfl ?_ | refine W.ite_f rfl ?_)
                refine W.ite (fun cc => ?_) (fun cc => ?_)
                · have hx : ¬ g xs (c - 1) < g xs x := of_decide_eq_false (by simpa using cc)
                  refine W.callT [0] (ok78 (n := n) xs c d x hl ⟨hx1, hx2⟩ (by omega) (by omega)) (by decide) rfl rfl rfl rfl ?_
                  rintro v σ ⟨ys, rfl, kS, m, rfl, m1, m2, q1, q2, q3⟩
                  refine W.ret ⟨_, _, _, ?_, Trim.of [0, 1, 2, 3, 8, 9] [0] (by decide) (by intro q hq; obtain rfl := List.mem_singleton.1 hq; exact Nat.zero_lt_one) keepR, m, d, lm, true, true, ys, ?_, rfl, hQ.eq kS h0 hx m1 m2 q1 q3, by omega, rfl⟩
                  · omega
                  · rfl
                · clear c1 cc
                  refine W.callT [0] (ok79 (n := n) xs c d x hl ⟨hx1, hx2⟩ (by omega) (by omega)) (by decide) rfl rfl rfl rfl ?_
                  rintro v σ ⟨ys, rfl, kS, m, r, rfl, m1, m2, q1, q2⟩
                  have hQ' := hQ.inner kS
                  have hly := hQ'.s.len
                  have em : IntKind.i64.wrap ((m : Int) + 1) = ((m + 1 : Nat) : Int) := by rw [wI (by omega)]; rfl
                  refine W.need (by decide) ?_
                  refine W.ite (fun cc => ?_) (fun cc => ?_)
                  · clear cc
                    refine W.callT [0] (ih (m - c) (by omega) ys c m lm rfl (by omega) (by omega) (by omega) (by omega) (fun h0 q w1 w2 => hQ'.p h0 q w1 (by omega))) (by decide) rfl rfl rfl rfl ?_
                    rintro v σ ⟨ws, rfl, kS2, rfl, hso⟩
                    refine W.ret ⟨_, _, _, ?_, Trim.of [0, 1, 2, 3, 8, 9] [0] (by decide) (by intro q hq; obtain rfl := List.mem_singleton.1 hq; exact Nat.zero_lt_one) keepR, m + 1, d, lm, decide (IntKind.i64.wrap ((m : Int) - (c : Int)) ≥ IntKind.i64.wrap ((IntKind.i64.wrap ((d : Int) - (c : Int))).tdiv 8)), r, ws, ?_, rfl, hQ'.left m1 m2 q1 q2 kS2 hso, by omega, rfl⟩
                    · omega
                    · rw [← em]; rfl
                  · clear cc
                    refine W.callT [0] (ih (d - (m + 1)) (by omega) ys (m + 1) d lm rfl (by omega) (by omega) (by omega) (by omega) (fun h0 q w1 w2 => q2 q (by omega) w2)) (by decide) rfl rfl (by rw [← em]; rfl) rfl ?_
                    rintro v σ ⟨ws, rfl, kS2, rfl, hso⟩
                    refine W.ret ⟨_, _, _, ?_, Trim.of [0, 1, 2, 3, 8, 9] [0] (by decide) (by intro q hq; obtain rfl := List.mem_singleton.1 hq; exact Nat.zero_lt_one) keepR, c, m, lm, decide (IntKind.i64.wrap ((d : Int) - (m : Int)) ≥ IntKind.i64.wrap ((IntKind.i64.wrap ((d : Int) - (c : Int))).tdiv 8)), r, ws, ?_, rfl, hQ'.right m1 m2 q1 q2 kS2 hso, by omega, rfl⟩
                    · omega
                    · rfl
              · have c1 : decide ((c : Int) > 0) = false := decide_eq_false (by omega)
                repeat (first | refine W.ite_f c1 ?_ | refine W.ite_t rfl ?_ | refine W.ite_f rfl ?_)
                clear c1
                refine W.callT [0] (ok79 (n := n) xs c d x hl ⟨hx1, hx2⟩ (by omega) (by omega)) (by decide) rfl rfl rfl rfl ?_
                rintro v σ ⟨ys, rfl, kS, m, r, rfl, m1, m2, q1, q2⟩
                have hQ' := hQ.inner kS
                have hly := hQ'.s.len
                have em : IntKind.i64.wrap ((m : Int) + 1) = ((m + 1 : Nat) : Int) := by rw [wI (by omega)]; rfl
                refine W.need (by decide) ?_
                refine W.ite (fun cc => ?_) (fun cc => ?_)
                · clear cc
                  refine W.callT [0] (ih (m - c) (by omega) ys c m lm rfl (by omega) (by omega) (by omega) (by omega) (fun h0 q w1 w2 => hQ'.p h0 q w1 (by omega))) (by decide) rfl rfl rfl rfl ?_
                  rintro v σ ⟨ws, rfl, kS2, rfl, hso⟩
                  refine W.ret ⟨_, _, _, ?_, Trim.of [0, 1, 2, 3, 8, 9] [0] (by decide) (by intro q hq; obtain rfl := List.mem_singleton.1 hq; exact Nat.zero_lt_one) keepR, m + 1, d, lm, decide (IntKind.i64.wrap ((m : Int) - (c : Int)) ≥ IntKind.i64.wrap ((IntKind.i64.wrap ((d : Int) - (c : Int))).tdiv 8)), r, ws, ?_, rfl, hQ'.left m1 m2 q1 q2 kS2 hso, by omega, rfl⟩
                  · omega
                  · rw [← em]; rfl
                · clear cc
                  refine W.callT [0] (ih (d - (m + 1)) (by omega) ys (m + 1) d lm rfl (by omega) (by omega) (by omega) (by omega) (fun h0 q w1 w2 => q2 q (by omega) w2)) (by decide) rfl rfl (by rw [← em]; rfl) rfl ?_
                  rintro v σ ⟨ws, rfl, kS2, rfl, hso⟩
                  refine W.ret ⟨_, _, _, ?_, Trim.of [0, 1, 2, 3, 8, 9] [0] (by decide) (by intro q hq; obtain rfl := List.mem_singleton.1 hq; exact Nat.zero_lt_one) keepR, c, m, lm, decide (IntKind.i64.wrap ((d : Int) - (m : Int)) ≥ IntKind.i64.wrap ((IntKind.i64.wrap ((d : Int) - (c : Int))).tdiv 8)), r, ws, ?_, rfl, hQ'.right m1 m2 q1 q2 kS2 hso, by omega, rfl⟩
                  · omega
                  · rfl
end Go.Proofs.Ytddhlmejaobcgaa.Pu
