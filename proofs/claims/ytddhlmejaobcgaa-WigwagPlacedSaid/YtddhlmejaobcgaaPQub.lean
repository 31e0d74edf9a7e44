import Derived.Test.YtddhlmejaobcgaaPQua
set_option maxRecDepth 100000
set_option linter.unusedVariables false
set_option linter.unusedSimpArgs false
/- Sorting in place: heaps. -/
namespace Go.Proofs.Ytddhlmejaobcgaa.Pu
open Go Go.Am Co
def od92 : Ords := [(3, [0, 1, 2, 3, 4, 5, 6, 7, 8, 9, 10, 11, 12, 13, 14, 15, 16, 17, 1018, 19]), (5, [0, 1, 2, 3, 4, 5, 6, 7, 8, 9, 10, 11, 1012, 13]), (6, [0, 1, 2, 3, 4, 5, 6, 7, 8, 9, 10, 11, 12, 13, 14, 15, 16, 17, 18, 19, 20, 1021, 22, 1023])]
theorem code92 : codeB Try.f92.ntmps od92 (match Try.f92.body with | some c => c | none => .skip) = true := by kernel_rfl
def od73 : Ords := [(10, [0, 1, 2, 3, 4, 5, 6, 7, 8, 9, 10, 11, 12, 13, 14, 15, 16, 1017, 18, 1019])]
theorem code73 : codeB Try.f73.ntmps od73 (match Try.f73.body with | some c => c | none => .skip) = true := by kernel_rfl
/-- A heap below lo. -/
def Hp (f lo hi : Nat) (zs : List Int) : Prop := ∀ c, 1 ≤ c → c < hi → lo ≤ (c - 1) / 2 → g zs (f + c) ≤ g zs (f + (c - 1) / 2)
/-- A heap but for one place. -/
structure Hs (f lo hi r : Nat) (xs : List Int) : Prop where
  a : ∀ c, 1 ≤ c → c < hi → lo ≤ (c - 1) / 2 → (c - 1) / 2 ≠ r → g xs (f + c) ≤ g xs (f + (c - 1) / 2)
  b : ∀ c, 1 ≤ c → c < hi → (c - 1) / 2 = r → 1 ≤ r → lo ≤ (r - 1) / 2 → g xs (f + c) ≤ g xs (f + (r - 1) / 2)
theorem Hs.leaf {f lo hi r : Nat} {xs : List Int} (h : Hs f lo hi r xs) (hr : hi ≤ 2 * r + 1) : Hp f lo hi xs := fun c h1 h2 h3 => h.a c h1 h2 h3 (by omega)
theorem Hs.done {f lo hi r ch : Nat} {xs : List Int} (h : Hs f lo hi r xs) (hm : ∀ c, 1 ≤ c → c < hi → (c - 1) / 2 = r → g xs (f + c) ≤ g xs (f + ch)) (hc : ¬ g xs (f + r) < g xs (f + ch)) : Hp f lo hi xs := fun c h1 h2 h3 => by
  by_cases hr : (c - 1) / 2 = r
  · have := hm c h1 h2 hr
    rw [hr]; omega
  · exact h.a c h1 h2 h3 hr
theorem Hs.step {f lo hi r ch : Nat} {xs : List Int} (hl : f + hi ≤ xs.length) (h : Hs f lo hi r xs) (hlr : lo ≤ r) (hm : ∀ c, 1 ≤ c → c < hi → (c - 1) / 2 = r → g xs (f + c) ≤ g xs (f + ch)) (hch : ch < hi) (h1 : 1 ≤ ch) (hp : (ch - 1) / 2 = r) (hc : g xs (f + r) < g xs (f + ch)) :
    Hs f lo hi ch (sw xs (f + r) (f + ch)) := by
  have gs := fun k => g_sw (zs := xs) (i := f + r) (j := f + ch) (by omega) (by omega) k
  refine ⟨fun c c1 c2 c3 c4 => ?_, fun c c1 c2 c3 c4 c5 => ?_⟩
  · rw [gs, gs]
    by_cases p1 : (c - 1) / 2 = r
    · rw [if_neg (show ¬ f + (c - 1) / 2 = f + ch by omega), if_pos (show f + (c - 1) / 2 = f + r by omega)]
      by_cases e : c = ch
      · rw [if_pos (by omega)]; omega
      · rw [if_neg (by omega), if_neg (by omega)]; exact hm c c1 c2 p1
    · rw [if_neg (show ¬ f + (c - 1) / 2 = f + ch by omega), if_neg (show ¬ f + (c - 1) / 2 = f + r by omega), if_neg (show ¬ f + c = f + ch by omega)]
      by_cases e : c = r
      · rw [if_pos (by omega)]
        have := h.b ch h1 hch hp (by omega) (by rw [← e]; exact c3)
        rw [← e] at this; exact this
      · rw [if_neg (by omega)]; exact h.a c c1 c2 c3 p1
  · rw [gs, gs, if_neg (by omega), if_neg (by omega), if_neg (by omega), if_pos (by omega)]
    have := h.a c c1 c2 (by omega) (by omega)
    rw [c3] at this; exact this
theorem Hp.max {f hi : Nat} {xs : List Int} (h : Hp f 0 hi xs) : ∀ c, c < hi → g xs (f + c) ≤ g xs f := by
  intro c
  induction c using Nat.strongRecOn with
  | ind c ih =>
    intro hc
    by_cases h0 : c = 0
    · subst h0; exact Int.le_refl _
    · exact Int.le_trans (h c (by omega) hc (Nat.zero_le _)) (ih ((c - 1) / 2) (by omega) (by omega))
set_option maxHeartbeats 4000000 in
theorem ok92 {n : Nat} (zs : List Int) (lo hi f : Nat) (hl0 : zs.length = n) (hb : f + hi ≤ n) (hlo : lo ≤ 1000000) (hn : n ≤ 1000000) (hH : Hp f (lo + 1) hi zs) :
    CallOk Try.prog 92 [rV n, .d (nI lo), .d (nI hi), .d (nI f)] [rB zs] (Mv f (f + hi) zs fun v zs' => v = .tuple [] ∧ Hp f lo hi zs') := by
  refine CallOk.of tysOk mixed od92 Try.func92 rfl rfl code92 ?_
  have h0 : Hs f lo hi lo zs := ⟨fun c h1 h2 h3 h4 => hH c h1 h2 (by omega), fun c h1 h2 h3 h4 h5 => by omega⟩
  clear hH
  refine W.loop (fun k fr σ => ∃ (r : Nat) (xs : List Int), fr = [(0, rV n), (1, .d (nI lo)), (2, .d (nI hi)), (3, .d (nI f)), (8, .d (nI r))] ∧ σ = [rB xs] ∧ Sg f (f + hi) zs xs ∧ lo ≤ r ∧ r ≤ 1000000 ∧ Hs f lo hi r xs ∧ k = hi - r) (hi - lo)
    (Start.of [0, 1, 2, 3, 8] [] (by simp)) ⟨lo, zs, rfl, rfl, Sg.refl _ _ _, by omega, by omega, h0, rfl⟩ ?_
  rintro k fr σ ⟨r, xs, rfl, rfl, hX, hlr, hr, hH, rfl⟩
  have hl := hX.len
  have ec : IntKind.i64.wrap (IntKind.i64.wrap (2 * (r : Int)) + 1) = ((2 * r + 1 : Nat) : Int) := by rw [wI (x := 2 * (r : Int)) (by omega), wI (by omega)]; rfl
  have e2 : IntKind.i64.wrap (IntKind.i64.wrap (IntKind.i64.wrap (2 * (r : Int)) + 1) + 1) = ((2 * r + 2 : Nat) : Int) := by rw [ec, wI (by omega)]; rfl
  by_cases h1 : 2 * r + 1 ≥ hi
  · refine W.ite_t (decide_eq_true (by rw [ec]; omega)) ?_
    exact W.ret (W.ret (RetQ.all ⟨xs, rfl, hX, rfl, hH.leaf (by omega)⟩))
  · have er : IntKind.i64.wrap ((f : Int) + (r : Int)) = ((f + r : Nat) : Int) := by rw [wI (by omega)]; rfl
    have e3 : IntKind.i64.wrap ((f : Int) + IntKind.i64.wrap (IntKind.i64.wrap (2 * (r : Int)) + 1)) = ((f + (2 * r + 1) : Nat) : Int) := by rw [ec, wI (by omega)]; rfl
    have e4 : IntKind.i64.wrap (IntKind.i64.wrap ((f : Int) + IntKind.i64.wrap (IntKind.i64.wrap (2 * (r : Int)) + 1)) + 1) = ((f + (2 * r + 2) : Nat) : Int) := by rw [e3, wI (by omega)]; rfl
    refine W.ite_f (decide_eq_false (by rw [ec]; omega)) ?_
    by_cases h2 : 2 * r + 2 < hi
    · have c2 : decide (IntKind.i64.wrap (IntKind.i64.wrap (IntKind.i64.wrap (2 * (r : Int)) + 1) + 1) < (hi : Int)) = true := decide_eq_true (by rw [e2]; omega)
      repeat (first | refine W.ite_t c2 ?_ | refine W.ite_t rfl ?_ | refine W.ite_f rfl ?_)
      refine W.need (ixI e3 (show f + (2 * r + 1) < n by omega)) ?_
      repeat (first | refine W.ite_t c2 ?_ | refine W.ite_t rfl ?_ | refine W.ite_f rfl ?_)
      refine W.ld (eEI e3 (show f + (2 * r + 1) < xs.length by omega)) ?_
      repeat (first | refine W.ite_t c2 ?_ | refine W.ite_t rfl ?_ | refine W.ite_f rfl ?_)
      refine W.need (ixI e4 (show f + (2 * r + 2) < n by omega)) ?_
      repeat (first | refine W.ite_t c2 ?_ | refine W.ite_t rfl ?_ | refine W.ite_f rfl ?_)
      refine W.ld (eEI e4 (show f + (2 * r + 2) < xs.length by omega)) ?_
      repeat (first | refine W.ite_t c2 ?_ | refine W.ite_t rfl ?_ | refine W.ite_f rfl ?_)
      refine W.pure (ok63 _ _) rfl rfl ?_
      repeat (first | refine W.ite_t c2 ?_ | refine W.ite_t rfl ?_ | refine W.ite_f rfl ?_)
      refine W.ite (fun c => ?_) (fun c => ?_)
      · have hc0 : g xs (f + (2 * r + 1)) < g xs (f + (2 * r + 2)) := of_decide_eq_true c
        have hm : ∀ c, 1 ≤ c → c < hi → (c - 1) / 2 = r → g xs (f + c) ≤ g xs (f + (2 * r + 2)) := fun c q1 q2 q3 => by
          have : c = 2 * r + 1 ∨ c = 2 * r + 2 := by omega
          rcases this with rfl | rfl
          · omega
          · exact Int.le_refl _
        have e5 : IntKind.i64.wrap ((f : Int) + IntKind.i64.wrap (IntKind.i64.wrap (IntKind.i64.wrap (2 * (r : Int)) + 1) + 1)) = ((f + (2 * r + 2) : Nat) : Int) := by rw [e2, wI (by omega)]; rfl
        refine W.need (ixI er (show f + r < n by omega)) ?_
        refine W.ld (eEI er (show f + r < xs.length by omega)) ?_
        refine W.need (ixI e5 (show f + (2 * r + 2) < n by omega)) ?_
        refine W.ld (eEI e5 (show f + (2 * r + 2) < xs.length by omega)) ?_
        refine W.pure (ok63 _ _) rfl rfl ?_
        refine W.ite (fun c => ?_) (fun c => ?_)
        · have hc : ¬ g xs (f + r) < g xs (f + ((2 * r + 2))) := of_decide_eq_false (by simpa using c)
          exact W.ret (W.ret (RetQ.all ⟨xs, rfl, hX, rfl, hH.done hm hc⟩))
        · have hc : g xs (f + r) < g xs (f + ((2 * r + 2))) := of_decide_eq_true (by simpa using c)
          refine W.need (ixI e5 (show f + ((2 * r + 2)) < n by omega)) ?_
          refine W.ld (eEI e5 (show f + ((2 * r + 2)) < xs.length by omega)) ?_
          refine W.need (ixI er (show f + r < n by omega)) ?_
          refine W.ld (eEI er (show f + r < xs.length by omega)) ?_
          refine W.need (ixI er (show f + r < n by omega)) ?_
          refine W.need (st0 er (show f + r < xs.length by omega)) ?_
          refine W.need (ixI e5 (show f + ((2 * r + 2)) < n by omega)) ?_
          refine W.need (st1 er e5 (show f + r < xs.length by omega) (show f + ((2 * r + 2)) < xs.length by omega)) ?_
          refine W.ret ⟨_, _, _, ?_, Trim.of [0, 1, 2, 3, 8] [0] (by decide) (by simp) keepR, (2 * r + 2), sw xs (f + r) (f + ((2 * r + 2))), ?_, swI er e5 (by omega) (by omega), hX.trans (Sg.sw ⟨by omega, by omega⟩ ⟨by omega, by omega⟩ (by omega)), by omega, by omega, hH.step (by omega) hlr hm (by omega) (by omega) (by omega) hc, rfl⟩
          · omega
          · rw [← e2]; rfl
      · have hc0 : ¬ g xs (f + (2 * r + 1)) < g xs (f + (2 * r + 2)) := of_decide_eq_false c
        have hm : ∀ c, 1 ≤ c → c < hi → (c - 1) / 2 = r → g xs (f + c) ≤ g xs (f + (2 * r + 1)) := fun c q1 q2 q3 => by
          have : c = 2 * r + 1 ∨ c = 2 * r + 2 := by omega
          rcases this with rfl | rfl
          · exact Int.le_refl _
          · omega
        have e5 : IntKind.i64.wrap ((f : Int) + IntKind.i64.wrap (IntKind.i64.wrap (2 * (r : Int)) + 1)) = ((f + (2 * r + 1) : Nat) : Int) := by rw [ec, wI (by omega)]; rfl
        refine W.need (ixI er (show f + r < n by omega)) ?_
        refine W.ld (eEI er (show f + r < xs.length by omega)) ?_
        refine W.need (ixI e5 (show f + (2 * r + 1) < n by omega)) ?_
        refine W.ld (eEI e5 (show f + (2 * r + 1) < xs.length by omega)) ?_
        refine W.pure (ok63 _ _) rfl rfl ?_
        refine W.ite (fun c => ?_) (fun c => ?_)
        · have hc : ¬ g xs (f + r) < g xs (f + ((2 * r + 1))) := of_decide_eq_false (by simpa using c)
          exact W.ret (W.ret (RetQ.all ⟨xs, rfl, hX, rfl, hH.done hm hc⟩))
        · have hc : g xs (f + r) < g xs (f + ((2 * r + 1))) := of_decide_eq_true (by simpa using c)
          refine W.need (ixI e5 (show f + ((2 * r + 1)) < n by omega)) ?_
          refine W.ld (eEI e5 (show f + ((2 * r + 1)) < xs.length by omega)) ?_
          refine W.need (ixI er (show f + r < n by omega)) ?_
          refine W.ld (eEI er (show f + r < xs.length by omega)) ?_
          refine W.need (ixI er (show f + r < n by omega)) ?_
          refine W.need (st0 er (show f + r < xs.length by omega)) ?_
          refine W.need (ixI e5 (show f + ((2 * r + 1)) < n by omega)) ?_
          refine W.need (st1 er e5 (show f + r < xs.length by omega) (show f + ((2 * r + 1)) < xs.length by omega)) ?_
          refine W.ret ⟨_, _, _, ?_, Trim.of [0, 1, 2, 3, 8] [0] (by decide) (by simp) keepR, (2 * r + 1), sw xs (f + r) (f + ((2 * r + 1))), ?_, swI er e5 (by omega) (by omega), hX.trans (Sg.sw ⟨by omega, by omega⟩ ⟨by omega, by omega⟩ (by omega)), by omega, by omega, hH.step (by omega) hlr hm (by omega) (by omega) (by omega) hc, rfl⟩
          · omega
          · rw [← ec]; rfl
    · have c2 : decide (IntKind.i64.wrap (IntKind.i64.wrap (IntKind.i64.wrap (2 * (r : Int)) + 1) + 1) < (hi : Int)) = false := decide_eq_false (by rw [e2]; omega)
      have hm : ∀ c, 1 ≤ c → c < hi → (c - 1) / 2 = r → g xs (f + c) ≤ g xs (f + (2 * r + 1)) := fun c q1 q2 q3 => by
        have : c = 2 * r + 1 := by omega
        rw [this]; exact Int.le_refl _
      repeat (first | refine W.ite_f c2 ?_ | refine W.ite_t rfl ?_ | refine W.ite_f rfl ?_)
      have e5 : IntKind.i64.wrap ((f : Int) + IntKind.i64.wrap (IntKind.i64.wrap (2 * (r : Int)) + 1)) = ((f + (2 * r + 1) : Nat) : Int) := by rw [ec, wI (by omega)]; rfl
      refine W.need (ixI er (show f + r < n by omega)) ?_
      refine W.ld (eEI er (show f + r < xs.length by omega)) ?_
      refine W.need (ixI e5 (show f + (2 * r + 1) < n by omega)) ?_
      refine W.ld (eEI e5 (show f + (2 * r + 1) < xs.length by omega)) ?_
      refine W.pure (ok63 _ _) rfl rfl ?_
      refine W.ite (fun c => ?_) (fun c => ?_)
      · have hc : ¬ g xs (f + r) < g xs (f + ((2 * r + 1))) := of_decide_eq_false (by simpa using c)
        exact W.ret (W.ret (RetQ.all ⟨xs, rfl, hX, rfl, hH.done hm hc⟩))
      · have hc : g xs (f + r) < g xs (f + ((2 * r + 1))) := of_decide_eq_true (by simpa using c)
        refine W.need (ixI e5 (show f + ((2 * r + 1)) < n by omega)) ?_
        refine W.ld (eEI e5 (show f + ((2 * r + 1)) < xs.length by omega)) ?_
        refine W.need (ixI er (show f + r < n by omega)) ?_
        refine W.ld (eEI er (show f + r < xs.length by omega)) ?_
        refine W.need (ixI er (show f + r < n by omega)) ?_
        refine W.need (st0 er (show f + r < xs.length by omega)) ?_
        refine W.need (ixI e5 (show f + ((2 * r + 1)) < n by omega)) ?_
        refine W.need (st1 er e5 (show f + r < xs.length by omega) (show f + ((2 * r + 1)) < xs.length by omega)) ?_
        refine W.ret ⟨_, _, _, ?_, Trim.of [0, 1, 2, 3, 8] [0] (by decide) (by simp) keepR, (2 * r + 1), sw xs (f + r) (f + ((2 * r + 1))), ?_, swI er e5 (by omega) (by omega), hX.trans (Sg.sw ⟨by omega, by omega⟩ ⟨by omega, by omega⟩ (by omega)), by omega, by omega, hH.step (by omega) hlr hm (by omega) (by omega) (by omega) hc, rfl⟩
        · omega
        · rw [← ec]; rfl
/-- Pairs of which the greater place is q or above are in order. -/
def Up (a q b : Nat) (zs : List Int) : Prop := ∀ i j, a ≤ i → i ≤ j → a + q ≤ j → j < b → g zs i ≤ g zs j
set_option maxHeartbeats 4000000 in
theorem ok73 {n : Nat} (zs : List Int) (a b : Nat) (hl0 : zs.length = n) (hab : a < b) (hb : b ≤ n) (hn : n ≤ 1000000) :
    CallOk Try.prog 73 [rV n, .d (nI a), .d (nI b)] [rB zs] (Mv a b zs fun v zs' => v = .tuple [] ∧ So a b zs') := by
  refine CallOk.of tysOk mixed od73 Try.func73 rfl rfl code73 ?_
  have eh : IntKind.i64.wrap ((b : Int) - (a : Int)) = ((b - a : Nat) : Int) := by rw [wI (by omega)]; omega
  obtain ⟨h, hh⟩ : ∃ h, b - a = h := ⟨_, rfl⟩
  rw [hh] at eh
  have e1 : IntKind.i64.wrap (IntKind.i64.wrap ((b : Int) - (a : Int)) - 1) = ((h - 1 : Nat) : Int) := by rw [eh, wI (by omega)]; omega
  have e2 : IntKind.i64.wrap ((IntKind.i64.wrap (IntKind.i64.wrap ((b : Int) - (a : Int)) - 1)).tdiv 2) = (((h - 1) / 2 : Nat) : Int) := by
    rw [e1, Int.tdiv_eq_ediv_of_nonneg (by omega), wI (by omega)]; rfl
  refine W.need (by decide) ?_
  refine W.loop (fun k fr σ => ∃ (iv : Int) (xs : List Int), fr = [(0, rV n), (1, .d (nI a)), (2, .d (nI b)), (6, .d (nI a)), (7, .d (nI 0)), (8, .d (nI h)), (9, .d (nI iv))] ∧ σ = [rB xs] ∧ Sg a b zs xs ∧ -1 ≤ iv ∧ iv < h ∧ Hp a (iv + 1).toNat h xs ∧ k = (iv + 1).toNat) ((h - 1) / 2 + 1)
    (Start.of [0, 1, 2, 6, 7, 8, 9] [] (by simp)) ⟨(((h - 1) / 2 : Nat) : Int), zs, by rw [← e2, ← eh]; rfl, rfl, Sg.refl _ _ _, by omega, by omega, fun c c1 c2 c3 => by omega, by omega⟩ ?_
  rintro k fr σ ⟨iv, xs, rfl, rfl, hX, i1, i2, hH, rfl⟩
  have hl := hX.len
  by_cases hneg : iv < 0
  · obtain rfl : iv = -1 := by omega
    refine W.ite_f (decide_eq_false (by decide)) ?_
    refine W.ret ?_
    have e3 : IntKind.i64.wrap ((h : Int) - 1) = ((h : Int) - 1) := by rw [wI (by omega)]
    refine W.loop (fun k fr σ => ∃ (iv : Int) (ys : List Int), fr = [(0, rV n), (1, .d (nI a)), (2, .d (nI b)), (6, .d (nI a)), (7, .d (nI 0)), (8, .d (nI h)), (10, .d (nI iv))] ∧ σ = [rB ys] ∧ Sg a b zs ys ∧ -1 ≤ iv ∧ iv < h ∧ Hp a 0 (iv + 1).toNat ys ∧ Up a (iv + 1).toNat b ys ∧ k = (iv + 1).toNat) h
      (Start.of [0, 1, 2, 6, 7, 8, 10] [] (by simp)) ⟨(h : Int) - 1, xs, by show [_, _, _, _, _, _, (10, AV.d (nI (IntKind.i64.wrap ((h : Int) - 1))))] = _; rw [e3]; rfl, rfl, hX, by omega, by omega, by rw [show ((h : Int) - 1 + 1).toNat = h by omega]; exact hH, fun i j q1 q2 q3 q4 => by omega, by omega⟩ ?_
    clear hH hX hl
    rintro k fr σ ⟨iv, ys, rfl, rfl, hX, i1, i2, hH, hU, rfl⟩
    have hl := hX.len
    by_cases hneg : iv < 0
    · obtain rfl : iv = -1 := by omega
      refine W.ite_f (decide_eq_false (by decide)) ?_
      exact W.ret (W.ret (RetQ.all ⟨ys, rfl, hX, rfl, fun p q p1 p2 p3 => hU p q p1 p2 (by show a + 0 ≤ q; omega) p3⟩))
    · obtain ⟨m, rfl⟩ := Int.eq_ofNat_of_zero_le (show 0 ≤ iv by omega)
      refine W.ite_t (decide_eq_true (by omega)) ?_
      have em : ((m : Int) + 1).toNat = m + 1 := by omega
      rw [em] at hH hU
      have ey : IntKind.i64.wrap ((a : Int) + (m : Int)) = ((a + m : Nat) : Int) := by rw [wI (by omega)]; rfl
      have ed : IntKind.i64.wrap ((m : Int) - 1) = (m : Int) - 1 := by rw [wI (by omega)]
      refine W.need (ixI ey (show a + m < n by omega)) ?_
      refine W.ld (eEI ey (show a + m < ys.length by omega)) ?_
      refine W.need (ixI (show (a : Int) = (a : Int) from rfl) (show a < n by omega)) ?_
      refine W.ld (eEI (show (a : Int) = (a : Int) from rfl) (show a < ys.length by omega)) ?_
      refine W.need (ixI (show (a : Int) = (a : Int) from rfl) (show a < n by omega)) ?_
      refine W.need (st0 (show (a : Int) = (a : Int) from rfl) (show a < ys.length by omega)) ?_
      refine W.need (ixI ey (show a + m < n by omega)) ?_
      refine W.need (st1 (show (a : Int) = (a : Int) from rfl) ey (show a < ys.length by omega) (show a + m < ys.length by omega)) ?_
      have hP : Hp a (0 + 1) m (sw ys a (a + m)) := fun c c1 c2 c3 => by
        rw [g_sw (by omega) (by omega), g_sw (by omega) (by omega), if_neg (by omega), if_neg (by omega), if_neg (by omega), if_neg (by omega)]
        exact hH c c1 (by omega) (by omega)
      have hmx := hH.max
      refine W.callT [0] (ok92 (n := n) (sw ys a (a + m)) 0 m a (by rw [sw_len]; omega) (by omega) (by omega) hn hP) (by decide) rfl rfl rfl (swI rfl ey (by omega) (by omega)) ?_
      rintro v σ ⟨xs', rfl, hS', rfl, hH'⟩
      have hS0 : Sg a b ys (sw ys a (a + m)) := Sg.sw ⟨by omega, by omega⟩ ⟨by omega, by omega⟩ (by omega)
      refine W.ret ⟨_, _, _, ?_, Trim.of [0, 1, 2, 6, 7, 8, 10] [0] (by decide) (by intro q hq; obtain rfl := List.mem_singleton.1 hq; exact Nat.zero_lt_one) keepR, (m : Int) - 1, xs', ?_, rfl, hX.trans (hS0.trans (hS'.wide (Nat.le_refl _) (by omega))), by omega, by omega, ?_, ?_, rfl⟩
      · omega
      · show [_, _, _, _, _, _, (10, AV.d (nI (IntKind.i64.wrap ((m : Int) - 1))))] = _; rw [ed]; rfl
      · rw [show ((m : Int) - 1 + 1).toNat = m by omega]; exact hH'
      · rw [show ((m : Int) - 1 + 1).toNat = m by omega]
        intro i j j1 j2 j3 j4
        have gj : g xs' j = g (sw ys a (a + m)) j := hS'.out j (by omega)
        by_cases hij : i = j
        · rw [hij]; exact Int.le_refl _
        · -- the lesser place
          have low : ∀ q, a ≤ q → q < a + m → ∃ r, a ≤ r ∧ r ≤ a + m ∧ g xs' q = g ys r := fun q q1 q2 => by
            obtain ⟨r, r1, r2, r3⟩ := hS'.src q q1 q2
            rw [g_sw (by omega) (by omega)] at r3
            by_cases e : r = a
            · rw [if_neg (by omega), if_pos e] at r3; exact ⟨a + m, by omega, by omega, r3⟩
            · rw [if_neg (by omega), if_neg e] at r3; exact ⟨r, r1, by omega, r3⟩
          by_cases hjm : j = a + m
          · rw [gj, g_sw (by omega) (by omega), if_pos hjm]
            obtain ⟨r, r1, r2, r3⟩ := low i j1 (by omega)
            rw [r3]
            have := hmx (r - a) (by omega)
            rw [show a + (r - a) = r by omega] at this
            exact this
          · rw [gj, g_sw (by omega) (by omega), if_neg hjm, if_neg (by omega)]
            by_cases hi1 : i < a + m
            · obtain ⟨r, r1, r2, r3⟩ := low i j1 hi1
              rw [r3]
              exact hU r j r1 (by omega) (by omega) j4
            · have gi : g xs' i = g (sw ys a (a + m)) i := hS'.out i (by omega)
              rw [gi, g_sw (by omega) (by omega)]
              by_cases hi2 : i = a + m
              · rw [if_pos hi2]; exact hU a j (Nat.le_refl _) (by omega) (by omega) j4
              · rw [if_neg hi2, if_neg (by omega)]; exact hU i j j1 j2 (by omega) j4
  · obtain ⟨m, rfl⟩ := Int.eq_ofNat_of_zero_le (show 0 ≤ iv by omega)
    refine W.ite_t (decide_eq_true (by omega)) ?_
    have em : ((m : Int) + 1).toNat = m + 1 := by omega
    rw [em] at hH
    have ed : IntKind.i64.wrap ((m : Int) - 1) = (m : Int) - 1 := by rw [wI (by omega)]
    refine W.callT [0] (ok92 (n := n) xs m h a (by omega) (by omega) (by omega) hn hH) (by decide) rfl rfl rfl rfl ?_
    rintro v σ ⟨xs', rfl, hS', rfl, hH'⟩
    refine W.ret ⟨_, _, _, ?_, Trim.of [0, 1, 2, 6, 7, 8, 9] [0] (by decide) (by intro q hq; obtain rfl := List.mem_singleton.1 hq; exact Nat.zero_lt_one) keepR, (m : Int) - 1, xs', ?_, rfl, hX.trans (hS'.wide (Nat.le_refl _) (by omega)), by omega, by omega, ?_, rfl⟩
    · omega
    · show [_, _, _, _, _, _, (9, AV.d (nI (IntKind.i64.wrap ((m : Int) - 1))))] = _; rw [ed]; rfl
    · rw [show ((m : Int) - 1 + 1).toNat = m by omega]; exact hH'
end Go.Proofs.Ytddhlmejaobcgaa.Pu
