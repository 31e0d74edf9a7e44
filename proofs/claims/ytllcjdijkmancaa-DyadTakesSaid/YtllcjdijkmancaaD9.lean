import Derived.Test.YtllcjdijkmancaaD8
set_option maxRecDepth 100000
set_option linter.unusedVariables false
set_option linter.unusedSimpArgs false
namespace Go.Proofs.Ytllcjdijkmancaa.Dy
open Go Go.Am
theorem code4 : codeB Try.f4.ntmps [] (match Try.f4.body with | some c => c | none => .skip) = true := by kernel_rfl
theorem ivs_toI {l : List (Int × Int)} {i : Nat} {p : Int × Int} (h : l[i]? = some p) : (rdD (ivs l) (i * 2)).toI = p.1 ∧ (rdD (ivs l) (i * 2 + 1)).toI = p.2 := by
  obtain ⟨e1, e2⟩ := ivs_rd l i p h
  rw [e1, e2]
  exact ⟨rfl, rfl⟩
theorem cells_le {l i n : Int} (h : good l i n = true) : 0 ≤ (cells l i n).1 ∧ (cells l i n).1 ≤ (cells l i n).2 ∧ (cells l i n).2 < 256 := by
  obtain ⟨g1, g2, g3, g4, g5, g6⟩ := good_iff.1 h
  rw [cells_good h]
  have hb := pow2_mul (a := l.toNat) (b := (n - l).toNat) (by omega) g5 (by omega)
  have hb' := pow2_mul (a := l.toNat) (b := (n - l).toNat) (by omega) (i := i + 1) (by omega) (by omega)
  have hp : (0 : Int) < 2 ^ (n - l).toNat := Int.pow_pos (by omega)
  simp only [Int.add_mul, Int.one_mul] at *
  omega
set_option maxHeartbeats 4000000 in
theorem ok4 (lo hi n cell : Int) : Go.Am.Pure Try.prog 4 [.d (nI lo), .d (nI hi), .d (nI n), .d (nI cell)] (bI true) := by
  refine CallOk.of tysOk mixed [] Try.func4 rfl rfl code4 ?_
  refine W.pure (ok21 lo hi n) rfl rfl ?_
  have hnil := cover_nil (lo := lo) (hi := hi) (n := n)
  have hgood := cover_good (lo := lo) (hi := hi) (n := n)
  have htiles := tiles_of_cover (lo := lo) (hi := hi) (n := n)
  have hfew : cover lo hi n ≠ [] → (((cover lo hi n).length : Nat) : Int) ≤ max 1 (2 * n - 2) := fun h => by
    obtain ⟨N, H, X, rfl, rfl, rfl, h1, h2, h3, h4⟩ := cover_of_good (cover_good h)
    have := few h2 (H + 1 - X) X h3
    rw [h4]
    omega
  generalize cover lo hi n = l at *
  refine W.ite (fun h => ?_) (fun h => ?_)
  · have h0 : l = [] := by
      have : (l.length : Int) = 0 := by simpa using h
      exact List.eq_nil_of_length_eq_zero (by omega)
    have hbad := hnil h0
    refine W.pure ok13 rfl rfl ?_
    repeat (first | refine W.ite_t rfl ?_ | refine W.ite_f rfl ?_)
    refine W.ite (fun c1 => ?_) (fun c1 => ?_)
    · repeat (first | refine W.ite_t rfl ?_ | refine W.ite_f rfl ?_ | refine W.ite_t c1 ?_)
      refine W.ret ?_; refine RetQ.pure rfl ?_; rfl
    have n1 := of_decide_eq_false c1
    repeat (first | refine W.ite_t rfl ?_ | refine W.ite_f rfl ?_ | refine W.ite_f c1 ?_)
    refine W.ite (fun c2 => ?_) (fun c2 => ?_)
    · repeat (first | refine W.ite_t rfl ?_ | refine W.ite_f rfl ?_ | refine W.ite_t c2 ?_ | refine W.ite_f c1 ?_)
      refine W.ret ?_; refine RetQ.pure rfl ?_; rfl
    have n2 := of_decide_eq_false c2
    repeat (first | refine W.ite_t rfl ?_ | refine W.ite_f rfl ?_ | refine W.ite_f c1 ?_ | refine W.ite_f c2 ?_)
    refine W.ite (fun c3 => ?_) (fun c3 => ?_)
    · repeat (first | refine W.ite_t rfl ?_ | refine W.ite_f rfl ?_ | refine W.ite_t c3 ?_ | refine W.ite_f c1 ?_ | refine W.ite_f c2 ?_)
      refine W.ret ?_; refine RetQ.pure rfl ?_; rfl
    have n3 := of_decide_eq_false c3
    repeat (first | refine W.ite_t rfl ?_ | refine W.ite_f rfl ?_ | refine W.ite_f c1 ?_ | refine W.ite_f c2 ?_ | refine W.ite_f c3 ?_)
    refine W.ite (fun c4 => ?_) (fun c4 => ?_)
    · repeat (first | refine W.ite_t rfl ?_ | refine W.ite_f rfl ?_ | refine W.ite_t c4 ?_ | refine W.ite_f c1 ?_ | refine W.ite_f c2 ?_ | refine W.ite_f c3 ?_)
      refine W.ret ?_; refine RetQ.pure rfl ?_; rfl
    have n4 := of_decide_eq_false c4
    repeat (first | refine W.ite_t rfl ?_ | refine W.ite_f rfl ?_ | refine W.ite_f c1 ?_ | refine W.ite_f c2 ?_ | refine W.ite_f c3 ?_ | refine W.ite_f c4 ?_)
    refine W.need ?_ ?_
    · show 0 ≤ n
      omega
    repeat (first | refine W.ite_t rfl ?_ | refine W.ite_f rfl ?_ | refine W.ite_f c1 ?_ | refine W.ite_f c2 ?_ | refine W.ite_f c3 ?_ | refine W.ite_f c4 ?_)
    refine W.ret ?_; refine RetQ.pure rfl ?_
    refine ret_bI ?_
    have hp := pow2_le (k := n.toNat) (by omega)
    rw [min64 (by omega), Int.one_mul, wrap64 (by omega) (by omega)]
    refine decide_eq_true ?_
    rcases Int.lt_or_le hi (2 ^ n.toNat) with hh | hh
    · exact absurd ⟨by omega, good_iff.2 (by omega), good_iff.2 (by omega)⟩ hbad
    · exact hh
  · have hne : l ≠ [] := fun e => by subst e; simp at h
    obtain ⟨hlh, hg1, hg2⟩ := hgood hne
    have htiles := htiles hne
    have hfew := hfew hne
    obtain ⟨a1, a2, a3, a4, a5, a6⟩ := good_iff.1 hg1
    obtain ⟨b1, b2, b3, b4, b5, b6⟩ := good_iff.1 hg2
    clear hnil hgood
    have hp := pow2_le (k := n.toNat) (by omega)
    have d0 : decide (n < 0) = false := decide_eq_false (by omega)
    have d1 : decide (n > 8) = false := decide_eq_false (by omega)
    have d2 : decide ((l.length : Int) > (if IntKind.i64.wrap (IntKind.i64.wrap (2 * n) - 2) > 1 then IntKind.i64.wrap (IntKind.i64.wrap (2 * n) - 2) else 1)) = false := by
      rw [wrap64 (n := 2 * n) (by omega) (by omega), wrap64 (by omega) (by omega)]
      exact decide_eq_false (by split <;> omega)
    repeat (first | refine W.ite_t rfl ?_ | refine W.ite_f rfl ?_ | refine W.ite_f d0 ?_ | refine W.ite_f d1 ?_ | refine W.ite_f d2 ?_)
    refine W.loop (fun k fr σ => ∃ (i : Nat) (x : Int), fr = [(0, .d (nI lo)), (1, .d (nI hi)), (2, .d (nI n)), (3, .d (nI cell)), (9, slI l), (68, slI l), (69, .d (nI l.length)), (70, .d (nI i)), (10, .d (nI x))] ∧ σ = [] ∧ i ≤ l.length ∧ Tiles n x (l.drop i) (hi + 1) ∧ k = l.length - i) l.length
      (Start.of [0, 1, 2, 3, 9, 68, 69, 70, 10] [] (by simp)) ⟨0, lo, rfl, rfl, by omega, by simpa using htiles, rfl⟩ ?_
    rintro k fr σ ⟨i, x, rfl, rfl, hi', ht, rfl⟩
    refine W.ite (fun h => ?_) (fun h => ?_)
    · have hlt : i < l.length := by have : (i : Int) < l.length := (by simpa using h); omega
      obtain ⟨p, hpi⟩ : ∃ p, l[i]? = some p := ⟨_, List.getElem?_eq_getElem hlt⟩
      have hdrop : l.drop i = p :: l.drop (i + 1) := by
        rw [List.drop_eq_getElem_cons hlt]
        congr 1
        rw [List.getElem?_eq_getElem hlt] at hpi
        exact Option.some.inj hpi
      rw [hdrop] at ht
      obtain ⟨t1, t2, t3⟩ := ht
      obtain ⟨e1, e2⟩ := ivs_toI hpi
      refine W.need ?_ ?_
      · exact ⟨by omega, by omega, ivs_ne hlt⟩
      refine W.need ?_ ?_
      · exact ivs_load hpi
      refine W.pure (ok11 _ _ _) rfl rfl ?_
      have hle := cells_le t1
      have f0 : ((cells (rdD (ivs l) (i * 2)).toI (rdD (ivs l) (i * 2 + 1)).toI n).1 != x) = false := by rw [e1, e2, t2]; simp
      have f1 : decide ((cells (rdD (ivs l) (i * 2)).toI (rdD (ivs l) (i * 2 + 1)).toI n).2 < (cells (rdD (ivs l) (i * 2)).toI (rdD (ivs l) (i * 2 + 1)).toI n).1) = false := by rw [e1, e2]; exact decide_eq_false (by omega)
      repeat (first | refine W.ite_t rfl ?_ | refine W.ite_f rfl ?_ | refine W.ite_f f0 ?_ | refine W.ite_f f1 ?_)
      refine W.ret ⟨_, _, _, ?_, Trim.of [0, 1, 2, 3, 9, 68, 69, 70, 10] [] (by decide) (by simp) (by simp), i + 1, (cells p.1 p.2 n).2 + 1, ?_, rfl, by omega, t3, rfl⟩
      · omega
      · have g1 : IntKind.i64.wrap ((i : Int) + 1) = ((i + 1 : Nat) : Int) := by
          have : l.length ≤ 16 := by omega
          rw [wrap64 (by omega) (by omega)]; rfl
        have g2 : IntKind.i64.wrap ((cells (rdD (ivs l) (i * 2)).toI (rdD (ivs l) (i * 2 + 1)).toI n).2 + 1) = (cells p.1 p.2 n).2 + 1 := by
          rw [e1, e2, wrap64 (by omega) (by omega)]
        rw [← g1, ← g2]; rfl
    · have hlast : i = l.length := by have : ¬ (i : Int) < l.length := (by simpa using h); omega
      subst hlast
      have hx : x = hi + 1 := by simpa [Tiles] using ht
      refine W.ret ?_
      have f0 : (x != IntKind.i64.wrap (hi + 1)) = false := by rw [wrap64 (by omega) (by omega), hx]; simp
      repeat (first | refine W.ite_t rfl ?_ | refine W.ite_f rfl ?_ | refine W.ite_f f0 ?_)
      refine W.pure (ok19 cell n) rfl rfl ?_
      clear ht f0 hx
      have hcl : (chain cell n).length ≤ 9 := by
        unfold chain
        split
        · simp [chainI]; omega
        · simp
      have htotal : (cnt2 l (chain cell n) = if lo ≤ cell ∧ cell < hi + 1 then 1 else 0) := by
        by_cases hg : good n cell n = true
        · exact (cnt2_tiles hg l lo (hi + 1) htiles).1
        · have : ¬ (lo ≤ cell ∧ cell < hi + 1) := fun hh => hg (good_iff.2 (by omega))
          simp [chain, hg, cnt2, this]
      have hcle : ∀ p (r : List (Int × Int)), cnt p r ≤ r.length := fun p r => by
        induction r with
        | nil => simp [cnt]
        | cons q r ih => simp only [cnt, List.length_cons]; split <;> omega
      have hll : l.length ≤ 16 := by omega
      have hc2 : ∀ r : List (Int × Int), cnt2 l r ≤ r.length * 16 := fun r => by
        induction r with
        | nil => simp [cnt2]
        | cons q r ih => have := hcle q l; simp only [cnt2, List.length_cons]; omega
      generalize chain cell n = c at *
      refine W.loop (fun k fr σ => ∃ (i : Nat), fr = [(0, .d (nI lo)), (1, .d (nI hi)), (2, .d (nI n)), (3, .d (nI cell)), (9, slI l), (97, slI c), (98, .d (nI c.length)), (99, .d (nI i)), (15, .d (nI (cnt2 l (c.take i))))] ∧ σ = [] ∧ i ≤ c.length ∧ k = c.length - i) c.length
        (Start.of [0, 1, 2, 3, 9, 97, 98, 99, 15] [] (by simp)) ⟨0, rfl, rfl, by omega, rfl⟩ ?_
      rintro k fr σ ⟨i, rfl, rfl, hi', rfl⟩
      refine W.ite (fun h => ?_) (fun h => ?_)
      · have hlt : i < c.length := by have : (i : Int) < c.length := (by simpa using h); omega
        obtain ⟨p, hpi⟩ : ∃ p, c[i]? = some p := ⟨_, List.getElem?_eq_getElem hlt⟩
        obtain ⟨e1, e2⟩ := ivs_toI hpi
        have htake : c.take (i + 1) = c.take i ++ [p] := by
          rw [List.take_add_one, hpi]; rfl
        refine W.need ?_ ?_
        · exact ⟨by omega, by omega, ivs_ne hlt⟩
        refine W.need ?_ ?_
        · exact ivs_load hpi
        refine W.loop (fun k fr σ => ∃ (b : Nat), fr = [(0, .d (nI lo)), (1, .d (nI hi)), (2, .d (nI n)), (3, .d (nI cell)), (9, slI l), (97, slI c), (98, .d (nI c.length)), (99, .d (nI i)), (17, .ptr 0 0), (103, slI l), (104, .d (nI l.length)), (105, .d (nI b)), (15, .d (nI (cnt2 l (c.take i) + cnt p (l.take b) : Nat)))] ∧ σ = [.var [.d (nI (rdD (ivs c) (i * 2)).toI), .d (nI (rdD (ivs c) (i * 2 + 1)).toI)]] ∧ b ≤ l.length ∧ k = l.length - b) l.length
          (Start.of [0, 1, 2, 3, 9, 97, 98, 99, 17, 103, 104, 105, 15] [] (by simp)) ⟨0, rfl, rfl, by omega, rfl⟩ ?_
        rintro k fr σ ⟨b, rfl, rfl, hb', rfl⟩
        have hcc := hc2 (c.take i)
        have hcp := hcle p (l.take b)
        have htl : (c.take i).length ≤ 9 := by simp; omega
        have htl2 : (l.take b).length ≤ 16 := by simp; omega
        refine W.ite (fun h => ?_) (fun h => ?_)
        · have hlt2 : b < l.length := by have : (b : Int) < l.length := (by simpa using h); omega
          obtain ⟨q, hqb⟩ : ∃ q, l[b]? = some q := ⟨_, List.getElem?_eq_getElem hlt2⟩
          obtain ⟨e3, e4⟩ := ivs_toI hqb
          have htake2 : l.take (b + 1) = l.take b ++ [q] := by
            rw [List.take_add_one, hqb]; rfl
          have g1 : IntKind.i64.wrap ((b : Int) + 1) = ((b + 1 : Nat) : Int) := by rw [wrap64 (by omega) (by omega)]; rfl
          refine W.need ?_ ?_
          · exact ⟨by omega, by omega, ivs_ne hlt2⟩
          refine W.need ?_ ?_
          · exact ivs_load hqb
          refine W.ite (fun hc => ?_) (fun hc => ?_)
          · have hpq : p.1 = q.1 ∧ p.2 = q.2 := by
              have : ((rdD (ivs c) (i * 2)).toI == (rdD (ivs l) (b * 2)).toI && ((rdD (ivs c) (i * 2 + 1)).toI == (rdD (ivs l) (b * 2 + 1)).toI && true)) = true := hc
              rw [e1, e2, e3, e4] at this
              simpa using this
            refine W.ret ⟨_, _, _, ?_, Trim.of [0, 1, 2, 3, 9, 97, 98, 99, 17, 103, 104, 105, 15] [0] (by decide) (by simp) (by simp), b + 1, ?_, rfl, by omega, rfl⟩
            · omega
            · have g2 : IntKind.i64.wrap (((cnt2 l (c.take i) + cnt p (l.take b) : Nat) : Int) + 1) = ((cnt2 l (c.take i) + cnt p (l.take (b + 1)) : Nat) : Int) := by
                rw [wrap64 (by omega) (by omega), htake2, cnt_append]
                simp only [cnt, hpq, and_self, if_true]
                omega
              rw [← g1, ← g2]; rfl
          · have hpq : ¬ (p.1 = q.1 ∧ p.2 = q.2) := fun hpq => by
              have : ((rdD (ivs c) (i * 2)).toI == (rdD (ivs l) (b * 2)).toI && ((rdD (ivs c) (i * 2 + 1)).toI == (rdD (ivs l) (b * 2 + 1)).toI && true)) = false := hc
              rw [e1, e2, e3, e4] at this
              simp [hpq] at this
            refine W.ret ⟨_, _, _, ?_, Trim.of [0, 1, 2, 3, 9, 97, 98, 99, 17, 103, 104, 105, 15] [0] (by decide) (by simp) (by simp), b + 1, ?_, rfl, by omega, rfl⟩
            · omega
            · have g2 : ((cnt2 l (c.take i) + cnt p (l.take b) : Nat) : Int) = ((cnt2 l (c.take i) + cnt p (l.take (b + 1)) : Nat) : Int) := by
                rw [htake2, cnt_append]
                simp only [cnt, hpq, if_false]
                omega
              rw [← g1, ← g2]; rfl
        · have hlast : b = l.length := by have : ¬ (b : Int) < l.length := (by simpa using h); omega
          subst hlast
          refine W.ret (W.ret ⟨_, _, _, ?_, Trim.of [0, 1, 2, 3, 9, 97, 98, 99, 15] [] (by decide) (by simp) (by simp), i + 1, ?_, rfl, by omega, rfl⟩)
          · omega
          · have g1 : IntKind.i64.wrap ((i : Int) + 1) = ((i + 1 : Nat) : Int) := by rw [wrap64 (by omega) (by omega)]; rfl
            have g2 : ((cnt2 l (c.take i) + cnt p (l.take l.length) : Nat) : Int) = ((cnt2 l (c.take (i + 1)) : Nat) : Int) := by
              rw [htake, cnt2_append, List.take_length]
              simp only [cnt2]
              omega
            rw [← g1, ← g2]; rfl
      · have hlast : i = c.length := by have : ¬ (i : Int) < c.length := (by simpa using h); omega
        subst hlast
        rw [List.take_length, htotal]
        refine W.ret ?_
        have fin : ∀ {N : Nat}, N = (if lo ≤ cell ∧ cell < hi + 1 then 1 else 0) → (decide (cell ≥ lo) = true → ((((N : Nat) : Int) == 1) == decide (cell ≤ hi)) = true) ∧ (decide (cell ≥ lo) = false → ((((N : Nat) : Int) == 1) == false) = true) ∧ decide ((N : Int) ≤ 1) = true := fun {N} hN => by
          refine ⟨fun h => ?_, fun h => ?_, ?_⟩
          · have := of_decide_eq_true h
            by_cases h2 : cell ≤ hi
            · rw [if_pos (by omega)] at hN
              subst hN
              simp [h2]
            · rw [if_neg (by omega)] at hN
              subst hN
              simp [h2]
          · have := of_decide_eq_false h
            rw [if_neg (by omega)] at hN
            subst hN
            rfl
          · split at hN <;> subst hN <;> rfl
        obtain ⟨f1, f2, f3⟩ := fin rfl
        refine W.ite (fun h1 => ?_) (fun h1 => ?_)
        · have f1 := f1 h1
          repeat (first | refine W.ite_t rfl ?_ | refine W.ite_f rfl ?_ | refine W.ite_t h1 ?_)
          refine W.pure ok13 rfl rfl ?_
          repeat (first | refine W.ite_t rfl ?_ | refine W.ite_f rfl ?_ | refine W.ite_t f1 ?_)
          refine W.ret ?_; refine RetQ.pure rfl ?_
          exact ret_bI f3
        · have f2 := f2 h1
          repeat (first | refine W.ite_t rfl ?_ | refine W.ite_f rfl ?_ | refine W.ite_f h1 ?_)
          refine W.pure ok13 rfl rfl ?_
          repeat (first | refine W.ite_t rfl ?_ | refine W.ite_f rfl ?_ | refine W.ite_t f2 ?_)
          refine W.ret ?_; refine RetQ.pure rfl ?_
          exact ret_bI f3
end Go.Proofs.Ytllcjdijkmancaa.Dy
