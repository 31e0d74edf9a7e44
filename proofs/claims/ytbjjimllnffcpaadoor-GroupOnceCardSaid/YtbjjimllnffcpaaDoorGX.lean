import Derived.Test.YtbjjimllnffcpaaDoorG9
set_option maxRecDepth 100000
set_option linter.unusedVariables false
set_option linter.unusedSimpArgs false
/- The statement GroupOnce. -/
namespace Go.Proofs.YtbjjimllnffcpaaDoor.Gr
open Go Go.Am Va
def od6 : Ords := [(15, [0, 1, 2, 3, 4, 5, 6, 7, 8])]
theorem code6 : codeB Tryd.f6.ntmps od6 (match Tryd.f6.body with | some c => c | none => .skip) = true := by kernel_rfl
theorem ge_bad' {g : GE} (h : g ≠ .ok) : ∃ t d, geD g = .iface t d := by
  cases g with
  | ok => exact absurd rfl h
  | arg => exact ⟨_, _, rfl⟩
  | val i => exact ⟨_, _, rfl⟩
theorem two_keep : ∀ j, j < 2 → [0, 1][j]? = some j := by
  intro j hj; have : j = 0 ∨ j = 1 := (by omega); rcases this with rfl | rfl <;> rfl
theorem len0 : AV.d (.sl 0 (flat sC [])) = slS [] := rfl
set_option maxHeartbeats 8000000 in
theorem ok6 (s0 : List Att) (f0 : List Prd) (e0 : Evt) (n : Int) : Go.Am.Pure Tryd.prog 6 [slF atC s0, slF prC f0, .d (.agg (evC e0)), .d (nI n)] (bI true) := by
  refine CallOk.of tysOk mixed od6 Tryd.func6 rfl rfl code6 ?_
  refine W.pure (ok12 s0) rfl rfl ?_
  refine W.pure (ok13 f0) rfl rfl ?_
  refine W.pure (ok17 e0) rfl rfl ?_
  have hp6 := att6_len s0
  have hf6 := prd6_len f0
  have hnm : ∀ a ∈ att6 s0, a.nm.size ≤ 1000 := fun a ha => by
    obtain ⟨b, _, rfl⟩ := List.mem_map.1 ha
    have := cutN_le b.nm 20
    show (cutN b.nm 20).size ≤ 1000
    omega
  have hqm : ∀ a ∈ prd6 f0, a.nm.size ≤ 1000 := fun a ha => by
    obtain ⟨b, _, rfl⟩ := List.mem_map.1 ha
    have := cutN_le b.nm 20
    show (cutN b.nm 20).size ≤ 1000
    omega
  generalize att6 s0 = s at *
  generalize prd6 f0 = f at *
  generalize evt6 e0 = e at *
  have k1 := ok18 s (by omega) hnm e n
  by_cases hr : reachE s e n = .ok
  · have hfe := reachE_ok.1 hr
    have hn0 := hfe.n0
    have hn8 := hfe.n8
    have hL : reachL s e n = reachN s e n s.length := by unfold reachL; rw [hr]
    have hlen := hfe.len s.length (Nat.le_refl _)
    have hdif := reach_differ hfe.chk e n s.length (Nat.le_refl _)
    rw [hr, hL] at k1
    refine W.pure k1 rfl rfl ?_
    repeat (first | refine W.ite_t rfl ?_ | refine W.ite_f rfl ?_)
    have hY : (reachN s e n s.length).length ≤ 60 := by
      rw [hlen]
      calc s.length * (n.toNat + 1) ≤ 6 * 9 := Nat.mul_le_mul hp6 (by omega)
        _ ≤ 60 := by omega
    have hcast : ((reachN s e n s.length).length : Int) = (s.length : Int) * (n + 1) := by
      rw [hlen, Int.natCast_mul]
      congr 1
      omega
    have g0 : IntKind.i64.wrap (n + 1) = n + 1 := wrap64 (by omega) (by omega)
    have c0 : (((reachN s e n s.length).length : Int) != IntKind.i64.wrap ((s.length : Int) * IntKind.i64.wrap (n + 1))) = false := by
      rw [g0, ← hcast, wrap64 (by omega) (by omega)]
      simp
    refine W.ite_f c0 ?_
    have k2 := ok19 s (by omega) f hqm n
    have hmt : Fine s f n → ∃ (q : Prd) (k : Nat) (a : Att), q ∈ f ∧ findA s q.nm = k ∧ s[k]? = some a ∧ attOf s q.nm = a ∧ Dy.goodA a ∧ prdOk a q = true ∧ ofL s f n = names q.nm (Dy.cover (rgQ s q n).1 (rgQ s q n).2 n) := fun hfine => by
      obtain ⟨j, q, hj, hjl, hq, _⟩ := hfine.best
      have hqm := List.mem_of_getElem? hq
      obtain ⟨k, a, hk, ha, hat, hga, hpo, hsm⟩ := hfine.prd hqm
      have hpq : pickQ s f n = q := by unfold pickQ; rw [hj]; simp [hq]
      refine ⟨q, k, a, hqm, hk, ha, hat, hga, hpo, ?_⟩
      unfold ofL
      rw [chooseE_ok.2 hfine]
      simp only [hpq]
    have hcount : ∀ hfine : Fine s f n, cntS2 (ofL s f n) (reachN s e n s.length) ≤ 1 ∧ (matchV s f e = true → cntS2 (ofL s f n) (reachN s e n s.length) = 1) ∧ ((ofL s f n).length : Int) ≤ max 1 (2 * n - 2) ∧ (ofL s f n).length ≤ 1000 := fun hfine => by
      obtain ⟨q, k, a, hqf, hk, ha, hat, hga, hpo, hof⟩ := hmt hfine
      have hrq : rgQ s q n = rgA a q n := by unfold rgQ; rw [hat]
      have hmc := meet_count hfine hfe hqf hk ha
      have hrg := hfine.rg hqf
      rw [hof, hmc, names_len]
      refine ⟨by split <;> omega, fun hm => ?_, cover_few fun h0 => ?_, Dy.cover_len _ _ _⟩
      · have hkl := (List.getElem?_eq_some_iff.1 ha).1
        have hel := evtErr_none hfe.evt
        obtain ⟨v, hv⟩ : ∃ x, e.vals[k]? = some x := ⟨_, List.getElem?_eq_getElem (by omega)⟩
        have hvo : valOf s e q.nm = v := by unfold valOf; rw [hk]; simp [hv]
        have hva : valAt e k = v := by unfold valAt; rw [hv]; rfl
        have ht := (matchV_iff.1 hm).2.2 q hqf
        rw [hvo] at ht
        obtain ⟨q1, q2, q3, q4⟩ := Dy.in_range (n := n) hn0 hn8 hga hpo ht
        rw [hva, hrq, if_pos ⟨q2, q3⟩]
      · refine Dy.cover_nil h0 ⟨hrg.2.1, Dy.good_iff.2 ⟨hn0, hn8, hn0, Int.le_refl _, hrg.1, ?_⟩, Dy.good_iff.2 ⟨hn0, hn8, hn0, Int.le_refl _, ?_, hrg.2.2⟩⟩
        · omega
        · omega
    clear k1 hcast c0 hlen hmt
    generalize reachN s e n s.length = Y at *
    refine W.loop (fun k fr σ => ∃ i : Nat, fr = [(3, .d (nI n)), (9, slF atC s), (11, slF prC f), (13, .ptr 1 0), (15, slS Y), (65, .d (nI Y.length)), (66, .d (nI i))] ∧ σ = [bD (evC e0), bD (evC e)] ∧ i ≤ Y.length ∧ k = Y.length - i) Y.length
      (Start.of [3, 9, 11, 13, 15, 65, 66] [] (by simp)) ⟨0, rfl, rfl, by omega, rfl⟩ ?_
    rintro k fr σ ⟨i, rfl, rfl, hi, rfl⟩
    refine W.ite (fun c1 => ?_) (fun c1 => ?_)
    · have hil : i < Y.length := by have := of_decide_eq_true c1; omega
      obtain ⟨x, hx⟩ : ∃ x, Y[i]? = some x := ⟨_, List.getElem?_eq_getElem hil⟩
      refine W.need (by omega) ?_
      refine W.loop (fun k fr σ => ∃ m : Nat, fr = [(3, .d (nI n)), (9, slF atC s), (11, slF prC f), (13, .ptr 1 0), (15, slS Y), (17, .d (nI i)), (65, .d (nI Y.length)), (66, .d (nI i)), (72, .d (nI (((i : Int).toNat - 0 : Nat) : Int))), (73, .d (nI m))] ∧ σ = [bD (evC e0), bD (evC e)] ∧ m ≤ i ∧ k = i - m) i
        (Start.of [3, 9, 11, 13, 15, 17, 65, 66, 72, 73] [] (by simp)) ⟨0, rfl, rfl, by omega, rfl⟩ ?_
      rintro k fr σ ⟨m, rfl, rfl, hm, rfl⟩
      refine W.ite (fun c2 => ?_) (fun c2 => ?_)
      · have hml : m < i := by have := of_decide_eq_true c2; omega
        obtain ⟨y, hy⟩ : ∃ x, Y[m]? = some x := ⟨_, List.getElem?_eq_getElem (by omega)⟩
        refine W.need (ix_ok sC_len (by decide) hil) ?_
        refine W.ld (sE hx) ?_
        refine W.need (ix_ok sC_len (by decide) (by omega)) ?_
        refine W.ld (sE hy) ?_
        have hne : (x.toList == y.toList) = false := by
          rw [beq_eq_false_iff_ne]
          intro h
          have := List.pairwise_iff_getElem.1 hdif m i (by omega) hil hml
          rw [List.getElem?_eq_getElem hil] at hx
          rw [List.getElem?_eq_getElem (by omega)] at hy
          obtain rfl := Option.some.inj hx
          obtain rfl := Option.some.inj hy
          exact this h.symm
        refine W.ite_f hne ?_
        have g1 : IntKind.i64.wrap ((m : Int) + 1) = ((m + 1 : Nat) : Int) := by rw [wrap64 (by omega) (by omega)]; rfl
        refine W.ret ⟨_, _, _, ?_, Trim.of [3, 9, 11, 13, 15, 17, 65, 66, 72, 73] [0, 1] (by decide) (by simp) two_keep, m + 1, ?_, rfl, by omega, rfl⟩
        · omega
        · rw [← g1]; rfl
      · have g1 : IntKind.i64.wrap ((i : Int) + 1) = ((i + 1 : Nat) : Int) := by rw [wrap64 (by omega) (by omega)]; rfl
        refine W.ret (W.ret ⟨_, _, _, ?_, Trim.of [3, 9, 11, 13, 15, 65, 66] [0, 1] (by decide) (by simp) two_keep, i + 1, ?_, rfl, by omega, rfl⟩)
        · omega
        · rw [← g1]; rfl
    · refine W.ret ?_
      by_cases hc : chooseE s f n = .ok
      · have hfine := chooseE_ok.1 hc
        obtain ⟨hc1, hc2, hc3, hc4⟩ := hcount hfine
        clear hcount
        rw [hc] at k2
        refine W.pure k2 rfl rfl ?_
        repeat (first | refine W.ite_t rfl ?_ | refine W.ite_f rfl ?_)
        generalize ofL s f n = X at *
        refine W.loop (fun k fr σ => ∃ i : Nat, fr = [(3, .d (nI n)), (9, slF atC s), (11, slF prC f), (13, .ptr 1 0), (15, slS Y), (19, slS X), (21, .d (nI (cntS2 (X.take i) Y))), (102, slS X), (103, .d (nI X.length)), (104, .d (nI i))] ∧ σ = [bD (evC e0), bD (evC e)] ∧ i ≤ X.length ∧ k = X.length - i) X.length
          (Start.of [3, 9, 11, 13, 15, 19, 21, 102, 103, 104] [] (by simp)) ⟨0, rfl, rfl, by omega, rfl⟩ ?_
        rintro k fr σ ⟨i, rfl, rfl, hi, rfl⟩
        have hb1 : cntS2 (X.take i) Y ≤ 60000 := by
          have := cntS2_le Y (X.take i)
          have h2 : (X.take i).length * Y.length ≤ 1000 * 60 := Nat.mul_le_mul (by simp; omega) hY
          omega
        refine W.ite (fun c1 => ?_) (fun c1 => ?_)
        · have hil : i < X.length := by have := of_decide_eq_true c1; omega
          obtain ⟨x, hx⟩ : ∃ x, X[i]? = some x := ⟨_, List.getElem?_eq_getElem hil⟩
          have hstep : cntS2 (X.take (i + 1)) Y = cntS2 (X.take i) Y + cntS x Y := by
            rw [List.take_add_one, hx, cntS2_left]
            simp [cntS2]
          refine W.need (ix_ok sC_len (by decide) hil) ?_
          refine W.ld (sE hx) ?_
          generalize cntS2 (X.take i) Y = A at *
          refine W.loop (fun k fr σ => ∃ m : Nat, fr = [(3, .d (nI n)), (9, slF atC s), (11, slF prC f), (13, .ptr 1 0), (15, slS Y), (19, slS X), (21, .d (nI ((A + cntS x (Y.take m) : Nat) : Int))), (23, .d (sD x)), (102, slS X), (103, .d (nI X.length)), (104, .d (nI i)), (108, slS Y), (109, .d (nI Y.length)), (110, .d (nI m))] ∧ σ = [bD (evC e0), bD (evC e)] ∧ m ≤ Y.length ∧ k = Y.length - m) Y.length
            (Start.of [3, 9, 11, 13, 15, 19, 21, 23, 102, 103, 104, 108, 109, 110] [] (by simp)) ⟨0, rfl, rfl, by omega, rfl⟩ ?_
          rintro k fr σ ⟨m, rfl, rfl, hm, rfl⟩
          have hb2 := cntS_le x (Y.take m)
          have hb3 : (Y.take m).length ≤ 60 := by simp; omega
          refine W.ite (fun c2 => ?_) (fun c2 => ?_)
          · have hml : m < Y.length := by have := of_decide_eq_true c2; omega
            obtain ⟨y, hy⟩ : ∃ x, Y[m]? = some x := ⟨_, List.getElem?_eq_getElem hml⟩
            have hst2 : cntS x (Y.take (m + 1)) = cntS x (Y.take m) + (if x.toList = y.toList then 1 else 0) := by
              rw [List.take_add_one, hy, cntS_append]
              simp [cntS]
            refine W.need (ix_ok sC_len (by decide) hml) ?_
            refine W.ld (sE hy) ?_
            have g1 : IntKind.i64.wrap ((m : Int) + 1) = ((m + 1 : Nat) : Int) := by rw [wrap64 (by omega) (by omega)]; rfl
            refine W.ite (fun c3 => ?_) (fun c3 => ?_)
            · have h3 : x.toList = y.toList := eq_of_beq c3
              have g2 : IntKind.i64.wrap (((A + cntS x (Y.take m) : Nat) : Int) + 1) = ((A + cntS x (Y.take (m + 1)) : Nat) : Int) := by
                rw [wrap64 (by omega) (by omega), hst2, if_pos h3]; omega
              refine W.ret ⟨_, _, _, ?_, Trim.of [3, 9, 11, 13, 15, 19, 21, 23, 102, 103, 104, 108, 109, 110] [0, 1] (by decide) (by simp) two_keep, m + 1, ?_, rfl, by omega, rfl⟩
              · omega
              · rw [← g1, ← g2]; rfl
            · have h3 : ¬ x.toList = y.toList := by
                have : (x.toList == y.toList) = false := c3
                rw [beq_eq_false_iff_ne] at this
                exact this
              have g2 : cntS x (Y.take (m + 1)) = cntS x (Y.take m) := by rw [hst2, if_neg h3]; rfl
              refine W.ret ⟨_, _, _, ?_, Trim.of [3, 9, 11, 13, 15, 19, 21, 23, 102, 103, 104, 108, 109, 110] [0, 1] (by decide) (by simp) two_keep, m + 1, ?_, rfl, by omega, rfl⟩
              · omega
              · rw [← g1, g2]; rfl
          · have hml : m = Y.length := by have := of_decide_eq_false c2; omega
            have g1 : IntKind.i64.wrap ((i : Int) + 1) = ((i + 1 : Nat) : Int) := by rw [wrap64 (by omega) (by omega)]; rfl
            refine W.ret (W.ret ⟨_, _, _, ?_, Trim.of [3, 9, 11, 13, 15, 19, 21, 102, 103, 104] [0, 1] (by decide) (by simp) two_keep, i + 1, ?_, rfl, by omega, rfl⟩)
            · omega
            · rw [hstep, ← g1]
              have : cntS x (Y.take m) = cntS x Y := by rw [hml, List.take_length]
              rw [← this]
              rfl
        · have hil : i = X.length := by have := of_decide_eq_false c1; omega
          rw [hil, List.take_length]
          refine W.ret ?_
          have km := ok20 s (by omega) f e
          have d1 : decide (((cntS2 X Y : Nat) : Int) ≤ 1) = true := decide_eq_true (by omega)
          have d2 : decide ((X.length : Int) ≤ (if IntKind.i64.wrap (IntKind.i64.wrap (2 * n) - 2) > 1 then IntKind.i64.wrap (IntKind.i64.wrap (2 * n) - 2) else 1)) = true := by
            rw [wrap64 (n := 2 * n) (by omega) (by omega), wrap64 (by omega) (by omega)]
            refine decide_eq_true ?_
            split <;> omega
          refine W.pure ok10 rfl rfl ?_
          repeat (first | refine W.ite_t rfl ?_ | refine W.ite_f rfl ?_ | refine W.ite_t d1 ?_)
          refine W.pure km rfl rfl ?_
          cases hmv : matchV s f e with
          | true =>
            have d3 : (((cntS2 X Y : Nat) : Int) == 1) = true := by rw [hc2 hmv]; rfl
            repeat (first | refine W.ite_t rfl ?_ | refine W.ite_f rfl ?_ | refine W.ite_t d1 ?_ | refine W.ite_t d3 ?_)
            exact W.ret (RetQ.pure rfl (ret_bI d2))
          | false =>
            repeat (first | refine W.ite_t rfl ?_ | refine W.ite_f rfl ?_ | refine W.ite_t d1 ?_)
            exact W.ret (RetQ.pure rfl (ret_bI d2))
      · obtain ⟨t, d, ht⟩ := ge_bad' hc
        have hX : ofL s f n = [] := by
          unfold ofL
          cases hg : chooseE s f n with
          | ok => exact absurd hg hc
          | _ => rfl
        rw [ht, hX] at k2
        refine W.pure k2 rfl rfl ?_
        repeat (first | refine W.ite_t rfl ?_ | refine W.ite_f rfl ?_)
        refine W.pure ok10 rfl rfl ?_
        repeat (first | refine W.ite_t rfl ?_ | refine W.ite_f rfl ?_)
        exact W.ret (RetQ.pure rfl rfl)
  · obtain ⟨t, d, ht⟩ := ge_bad' hr
    have hL : reachL s e n = [] := by
      unfold reachL
      cases hg : reachE s e n with
      | ok => exact absurd hg hr
      | _ => rfl
    rw [ht, hL] at k1
    refine W.pure k1 rfl rfl ?_
    repeat (first | refine W.ite_t rfl ?_ | refine W.ite_f rfl ?_)
    refine W.pure ok10 rfl rfl ?_
    repeat (first | refine W.ite_t rfl ?_ | refine W.ite_f rfl ?_)
    exact W.ret (RetQ.pure rfl rfl)
end Go.Proofs.YtbjjimllnffcpaaDoor.Gr
