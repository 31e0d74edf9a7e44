import Derived.Test.YtddhlmejaobcgaaDoorG9
set_option maxRecDepth 100000
set_option linter.unusedVariables false
set_option linter.unusedSimpArgs false
/- The statement WigwagMet. -/
namespace Go.Proofs.YtddhlmejaobcgaaDoor.Gr
open Go Go.Am Va
def od3 : Ords := [(14, [0, 1, 2, 3, 4, 5, 6, 7, 8, 1009, 10, 11, 12, 13, 14]), (15, [0, 1, 2, 3, 4, 5, 6, 7, 8, 9, 1010, 11])]
theorem code3 : codeB Tryd.f3.ntmps od3 (match Tryd.f3.body with | some c => c | none => .skip) = true := by kernel_rfl
theorem ge_bad' {g : GE} (h : g ≠ .ok) : ∃ t d, geD g = .iface t d := by
  cases g with
  | ok => exact absurd rfl h
  | arg => exact ⟨_, _, rfl⟩
  | val i => exact ⟨_, _, rfl⟩
theorem two_keep : ∀ j, j < 2 → [0, 1][j]? = some j := by
  intro j hj; have : j = 0 ∨ j = 1 := (by omega); rcases this with rfl | rfl <;> rfl
theorem beq_nat1 (c : Nat) : (((c : Nat) : Int) == 1) = decide (c = 1) := by
  rw [beq_int]
  by_cases h : c = 1
  · rw [h]; rfl
  · rw [decide_eq_false h, decide_eq_false (by omega)]
set_option maxHeartbeats 8000000 in
theorem ok3 (s0 : List Att) (f0 : List Prd) (e0 : Evt) (n : Int) : Go.Am.Pure Tryd.prog 3 [slF atC s0, slF prC f0, .d (.agg (evC e0)), .d (nI n)] (bI true) := by
  refine CallOk.of tysOk mixed od3 Tryd.func3 rfl rfl code3 ?_
  refine W.pure (ok5 s0) rfl rfl ?_
  refine W.pure (ok6 f0) rfl rfl ?_
  refine W.pure (ok7 e0) rfl rfl ?_
  have hp6 := att6_len s0
  have hf6 := prd6_len f0
  have hnm : ∀ a ∈ att6 s0, a.nm.size ≤ 1000 := fun a ha => by
    obtain ⟨b, _, rfl⟩ := List.mem_map.1 ha
    have := cutN_le b.nm 20
    show (cutN b.nm 20).size ≤ 1000
    omega
  have hqn : ∀ a ∈ prd6 f0, a.nm.size ≤ 1000 := fun a ha => by
    obtain ⟨b, _, rfl⟩ := List.mem_map.1 ha
    have := cutN_le b.nm 20
    show (cutN b.nm 20).size ≤ 1000
    omega
  generalize att6 s0 = s at *
  generalize prd6 f0 = f at *
  generalize evt6 e0 = e at *
  have kcv := Dy.ok8 1 6 3
  rw [show Dy.slI (Dy.cover 1 6 3) = Dy.slI [(3, 1), (2, 1), (2, 2), (3, 6)] from by rw [show Dy.cover 1 6 3 = [(3, 1), (2, 1), (2, 2), (3, 6)] from by decide +kernel]] at kcv
  refine W.pure kcv rfl rfl ?_
  repeat (first | refine W.ite_t rfl ?_ | refine W.ite_f rfl ?_)
  have k1 := ok9 s (by omega) f n
  have k2 := ok10 s (by omega) hnm e n
  have k3 := ok11 s (by omega) f hqn n
  by_cases hc : chooseE s f n = .ok
  · have hfine := chooseE_ok.1 hc
    obtain ⟨j, q, hj, hjl, hq, _⟩ := hfine.best
    have hci : chooseI s f n = j := by unfold chooseI; rw [hc]; exact hj
    have hqm := List.mem_of_getElem? hq
    obtain ⟨k, a, hk, ha, hat, hga, hpo, hsm⟩ := hfine.prd hqm
    have hkl := (List.getElem?_eq_some_iff.1 ha).1
    have hrq : rgQ s q n = rgA a q n := by unfold rgQ; rw [hat]
    have hrg := hfine.rg hqm
    have hpq : pickQ s f n = q := by unfold pickQ; rw [hj]; simp [hq]
    have hof : ofL s f n = names q.nm (Dy.cover (rgQ s q n).1 (rgQ s q n).2 n) := by unfold ofL; rw [hc]; simp only [hpq]
    rw [hc, hci] at k1
    rw [hc, hof] at k3
    by_cases hr : reachE s e n = .ok
    · have hfe := reachE_ok.1 hr
      have hn0 := hfe.n0
      have hn8 := hfe.n8
      have hL : reachL s e n = reachN s e n s.length := by unfold reachL; rw [hr]
      have hlen := hfe.len s.length (Nat.le_refl _)
      have hel := evtErr_none hfe.evt
      have hY : (reachN s e n s.length).length ≤ 60 := by
        rw [hlen]
        calc s.length * (n.toNat + 1) ≤ 6 * 9 := Nat.mul_le_mul hp6 (by omega)
          _ ≤ 60 := by omega
      have hmc := meet_count hfine hfe hqm hk ha
      have hX : (names q.nm (Dy.cover (rgQ s q n).1 (rgQ s q n).2 n)).length ≤ 1000 := by rw [names_len]; exact Dy.cover_len _ _ _
      obtain ⟨v, hv⟩ : ∃ x, e.vals[k]? = some x := ⟨_, List.getElem?_eq_getElem (by omega)⟩
      have hva : valAt e k = v := by unfold valAt; rw [hv]; rfl
      rw [hva] at hmc
      rw [hr, hL] at k2
      generalize names q.nm (Dy.cover (rgQ s q n).1 (rgQ s q n).2 n) = X at *
      generalize reachN s e n s.length = Y at *
      refine W.pure k1 rfl rfl ?_
      refine W.pure k2 rfl rfl ?_
      repeat (first | refine W.ite_t rfl ?_ | refine W.ite_f rfl ?_)
      refine W.pure k3 rfl rfl ?_
      have c0 : decide ((j : Int) < 0) = false := decide_eq_false (by omega)
      have c1 : decide ((j : Int) ≥ f.length) = false := decide_eq_false (by omega)
      repeat (first | refine W.ite_t rfl ?_ | refine W.ite_f rfl ?_ | refine W.ite_f c0 ?_ | refine W.ite_f c1 ?_)
      refine W.need (ix_ok prC_len (by decide) hjl) ?_
      refine W.ld (prF0 hq) ?_
      refine W.pure (hk ▸ ok12 s (by omega) q.nm) rfl rfl ?_
      refine W.need (ix_ok atC_len (by decide) hkl) ?_
      refine W.ld (atE ha) ?_
      refine W.need (ix_ok prC_len (by decide) hjl) ?_
      refine W.ld (prE hq) ?_
      refine W.pure (Dy.ok13' a q n hsm) rfl rfl ?_
      refine W.need (ix_ok atC_len (by decide) hkl) ?_
      refine W.ld (atE ha) ?_
      refine W.need (ix_ok vaC_len (by decide) (by omega)) ?_
      refine W.ld (vaE hv) ?_
      refine W.pure (Dy.ok14' a v n) rfl rfl ?_
      refine W.loop (fun k fr σ => ∃ i : Nat, fr = [(17, slS Y), (19, slS X), (22, .d (nI (rgA a q n).1)), (23, .d (nI (rgA a q n).2)), (24, .d (nI (Dy.cellA a v n))), (25, .d (nI (cntS2 (X.take i) Y))), (124, slS X), (125, .d (nI X.length)), (126, .d (nI i))] ∧ σ = [bD (evC e0), bD (evC e)] ∧ i ≤ X.length ∧ k = X.length - i) X.length
        (Start.of [17, 19, 22, 23, 24, 25, 124, 125, 126] [] (by simp)) ⟨0, rfl, rfl, by omega, rfl⟩ ?_
      rintro z fr σ ⟨i, rfl, rfl, hi, rfl⟩
      have hb1 : cntS2 (X.take i) Y ≤ 60000 := by
        have := cntS2_le Y (X.take i)
        have h2 : (X.take i).length * Y.length ≤ 1000 * 60 := Nat.mul_le_mul (by simp; omega) hY
        omega
      refine W.ite (fun c1 => ?_) (fun c1 => ?_)
      · have hil : i < X.length := by have := of_decide_eq_true c1; omega
        obtain ⟨x, hx⟩ : ∃ x, X[i]? = some x := ⟨_, List.getElem?_eq_getElem hil⟩
        have hstep : cntS2 (X.take (i + 1)) Y = cntS2 (X.take i) Y + cntS x Y := by
          rw [List.take_add_one, hx, cntS2_left]
          simp [cntS2]
        refine W.need (ix_ok sC_len (by decide) hil) ?_
        refine W.ld (sE hx) ?_
        generalize cntS2 (X.take i) Y = A at *
        refine W.loop (fun k fr σ => ∃ m : Nat, fr = [(17, slS Y), (19, slS X), (22, .d (nI (rgA a q n).1)), (23, .d (nI (rgA a q n).2)), (24, .d (nI (Dy.cellA a v n))), (25, .d (nI ((A + cntS x (Y.take m) : Nat) : Int))), (27, .d (sD x)), (124, slS X), (125, .d (nI X.length)), (126, .d (nI i)), (130, slS Y), (131, .d (nI Y.length)), (132, .d (nI m))] ∧ σ = [bD (evC e0), bD (evC e)] ∧ m ≤ Y.length ∧ k = Y.length - m) Y.length
          (Start.of [17, 19, 22, 23, 24, 25, 27, 124, 125, 126, 130, 131, 132] [] (by simp)) ⟨0, rfl, rfl, by omega, rfl⟩ ?_
        rintro z fr σ ⟨m, rfl, rfl, hm, rfl⟩
        have hb2 := cntS_le x (Y.take m)
        have hb3 : (Y.take m).length ≤ 60 := by simp; omega
        refine W.ite (fun c2 => ?_) (fun c2 => ?_)
        · have hml : m < Y.length := by have := of_decide_eq_true c2; omega
          obtain ⟨y, hy⟩ : ∃ x, Y[m]? = some x := ⟨_, List.getElem?_eq_getElem hml⟩
          have hst2 : cntS x (Y.take (m + 1)) = cntS x (Y.take m) + (if x.toList = y.toList then 1 else 0) := by
            rw [List.take_add_one, hy, cntS_append]
            simp [cntS]
          refine W.need (ix_ok sC_len (by decide) hml) ?_
          refine W.ld (sE hy) ?_
          have g1 : IntKind.i64.wrap ((m : Int) + 1) = ((m + 1 : Nat) : Int) := by rw [wrap64 (by omega) (by omega)]; rfl
          refine W.ite (fun c3 => ?_) (fun c3 => ?_)
          · have h3 : x.toList = y.toList := eq_of_beq c3
            have g2 : IntKind.i64.wrap (((A + cntS x (Y.take m) : Nat) : Int) + 1) = ((A + cntS x (Y.take (m + 1)) : Nat) : Int) := by
              rw [wrap64 (by omega) (by omega), hst2, if_pos h3]; omega
            refine W.ret ⟨_, _, _, ?_, Trim.of [17, 19, 22, 23, 24, 25, 27, 124, 125, 126, 130, 131, 132] [0, 1] (by decide) (by simp) two_keep, m + 1, ?_, rfl, by omega, rfl⟩
            · omega
            · rw [← g1, ← g2]; rfl
          · have h3 : ¬ x.toList = y.toList := by
              have : (x.toList == y.toList) = false := c3
              rw [beq_eq_false_iff_ne] at this
              exact this
            have g2 : cntS x (Y.take (m + 1)) = cntS x (Y.take m) := by rw [hst2, if_neg h3]; rfl
            refine W.ret ⟨_, _, _, ?_, Trim.of [17, 19, 22, 23, 24, 25, 27, 124, 125, 126, 130, 131, 132] [0, 1] (by decide) (by simp) two_keep, m + 1, ?_, rfl, by omega, rfl⟩
            · omega
            · rw [← g1, g2]; rfl
        · have hml : m = Y.length := by have := of_decide_eq_false c2; omega
          have g1 : IntKind.i64.wrap ((i : Int) + 1) = ((i + 1 : Nat) : Int) := by rw [wrap64 (by omega) (by omega)]; rfl
          refine W.ret (W.ret ⟨_, _, _, ?_, Trim.of [17, 19, 22, 23, 24, 25, 124, 125, 126] [0, 1] (by decide) (by simp) two_keep, i + 1, ?_, rfl, by omega, rfl⟩)
          · omega
          · rw [hstep, ← g1]
            have : cntS x (Y.take m) = cntS x Y := by rw [hml, List.take_length]
            rw [← this]
            rfl
      · have hil : i = X.length := by have := of_decide_eq_false c1; omega
        rw [hil, List.take_length]
        refine W.ret ?_
        rw [hrq] at hmc
        by_cases h1 : (rgA a q n).1 ≤ Dy.cellA a v n
        · have d1 : decide (Dy.cellA a v n ≥ (rgA a q n).1) = true := decide_eq_true h1
          by_cases h2 : Dy.cellA a v n ≤ (rgA a q n).2
          · have d2 : decide (Dy.cellA a v n ≤ (rgA a q n).2) = true := decide_eq_true h2
            rw [if_pos ⟨h1, h2⟩] at hmc
            rw [hmc]
            have d3 : ((((1 : Nat) : Int) == 1) == decide (Dy.cellA a v n ≤ (rgA a q n).2)) = true := by rw [d2]; rfl
            repeat (first | refine W.ite_t rfl ?_ | refine W.ite_f rfl ?_ | refine W.ite_t d1 ?_ | refine W.ite_t d3 ?_)
            exact W.ret (RetQ.pure rfl rfl)
          · have d2 : decide (Dy.cellA a v n ≤ (rgA a q n).2) = false := decide_eq_false h2
            rw [if_neg (fun h => h2 h.2)] at hmc
            rw [hmc]
            have d3 : ((((0 : Nat) : Int) == 1) == decide (Dy.cellA a v n ≤ (rgA a q n).2)) = true := by rw [d2]; rfl
            repeat (first | refine W.ite_t rfl ?_ | refine W.ite_f rfl ?_ | refine W.ite_t d1 ?_ | refine W.ite_t d3 ?_)
            exact W.ret (RetQ.pure rfl rfl)
        · have d1 : decide (Dy.cellA a v n ≥ (rgA a q n).1) = false := decide_eq_false h1
          rw [if_neg (fun h => h1 h.1)] at hmc
          rw [hmc]
          repeat (first | refine W.ite_t rfl ?_ | refine W.ite_f rfl ?_ | refine W.ite_f d1 ?_)
          exact W.ret (RetQ.pure rfl rfl)
    · obtain ⟨t, d, ht⟩ := ge_bad' hr
      rw [ht] at k2
      have d1 : ((j : Int) == -1) = false := by rw [beq_int]; exact decide_eq_false (by omega)
      refine W.pure k1 rfl rfl ?_
      refine W.pure k2 rfl rfl ?_
      repeat (first | refine W.ite_t rfl ?_ | refine W.ite_f rfl ?_ | refine W.ite_f d1 ?_)
      exact W.ret (RetQ.pure rfl rfl)
  · obtain ⟨t, d, ht⟩ := ge_bad' hc
    rw [ht, choose_bad hc] at k1
    by_cases hr : reachE s e n = .ok
    · rw [hr] at k2
      refine W.pure k1 rfl rfl ?_
      refine W.pure k2 rfl rfl ?_
      repeat (first | refine W.ite_t rfl ?_ | refine W.ite_f rfl ?_)
      exact W.ret (RetQ.pure rfl rfl)
    · obtain ⟨t2, d2, ht2⟩ := ge_bad' hr
      rw [ht2] at k2
      refine W.pure k1 rfl rfl ?_
      refine W.pure k2 rfl rfl ?_
      repeat (first | refine W.ite_t rfl ?_ | refine W.ite_f rfl ?_)
      exact W.ret (RetQ.pure rfl rfl)
end Go.Proofs.YtddhlmejaobcgaaDoor.Gr
