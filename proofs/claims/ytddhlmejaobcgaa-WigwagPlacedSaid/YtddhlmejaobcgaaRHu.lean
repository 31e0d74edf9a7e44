import Derived.Test.YtddhlmejaobcgaaRGu
set_option maxRecDepth 100000
set_option linter.unusedVariables false
set_option linter.unusedSimpArgs false
/- Rows made of unlike elements. -/
namespace Go.Proofs.Ytddhlmejaobcgaa.Pu
open Go Go.Am Co
def od17 : Ords := []
theorem code17 : codeB Try.f17.ntmps od17 (match Try.f17.body with | some c => c | none => .skip) = true := by kernel_rfl
/-- The first k rise. -/
def St (k : Nat) (zs : List Int) : Prop := ∀ i j, i < j → j < k → g zs i < g zs j
theorem eE2 {zs : List Int} {k j : Nat} {J : Int} (hJ : J = (j : Int)) (h : k + j < zs.length) : Elem (flat eC zs) [.int .u64] (0 + k * 1 + J.toNat * 1) 1 [uD (g zs (k + j))] := by
  subst hJ
  have := eE h
  rw [show 0 + (k + j) * 1 = 0 + k * 1 + j * 1 by omega] at this
  exact this
set_option maxHeartbeats 4000000 in
theorem ok42 {n : Nat} (zs : List Int) (hl0 : zs.length = n) (h1 : 1 ≤ n) (hn : n ≤ 1000000) (hso : So 0 n zs) :
    CallOk Try.prog 42 [rV n] [rB zs] (fun v s => ∃ (k : Nat) (ws : List Int) (cs : List D), v = .row 0 1 0 k ∧ s = [.row 1 1 cs] ∧ 1 ≤ k ∧ k ≤ n ∧ ws.length = n ∧ cs.length = n ∧ cs.take k = (flat eC ws).take k ∧ St k ws ∧ (∀ i, i < k → ∃ j, j < n ∧ g ws i = g zs j) ∧ (St n zs → k = n ∧ ws = zs)) := by
  refine CallOk.of tysOk mixed od42 Try.func42 rfl rfl code42 ?_
  by_cases h2 : n < 2
  · refine W.ite_t (decide_eq_true (by omega)) ?_
    exact W.ret (RetQ.all ⟨n, zs, flat eC zs, rfl, rfl, h1, Nat.le_refl _, hl0, by rw [fl_len]; exact hl0, rfl, fun i j a b => by omega, fun i hi => ⟨i, hi, rfl⟩, fun _ => ⟨rfl, rfl⟩⟩)
  · refine W.ite_f (decide_eq_false (by omega)) ?_
    refine W.loop (fun k fr σ => ∃ i : Nat, fr = [(0, rV n), (3, .d (nI i))] ∧ σ = [rB zs] ∧ 1 ≤ i ∧ i ≤ n ∧ St i zs ∧ k = n - i) (n - 1)
      (Start.of [0, 3] [] (by simp)) ⟨1, rfl, rfl, by omega, by omega, fun i j a b => by omega, rfl⟩ ?_
    rintro k fr σ ⟨i, rfl, rfl, i1, i2, hst, rfl⟩
    by_cases hin : i < n
    · have ei : IntKind.i64.wrap ((i : Int) - 1) = ((i - 1 : Nat) : Int) := by rw [wI (by omega)]; omega
      have gi : IntKind.i64.wrap ((i : Int) + 1) = ((i + 1 : Nat) : Int) := by rw [wI (by omega)]; rfl
      refine W.ite_t (decide_eq_true (by omega)) ?_
      refine W.need (ixI (i := i) rfl hin) ?_
      refine W.ld (eEI (i := i) rfl (by omega)) ?_
      refine W.need (ixI ei (by omega)) ?_
      refine W.ld (eEI ei (by omega)) ?_
      refine W.ite (fun c => ?_) (fun c => ?_)
      · have hc : g zs i = g zs (i - 1) := by simpa using c
        refine W.need (show 0 + n * 1 ≤ (flat eC zs).length by rw [fl_len]; omega) ?_
        refine W.need (show (0 : Int) ≤ (i : Int) ∧ (i : Int) ≤ (n : Int) by omega) ?_
        refine W.loop (fun k fr σ => ∃ (q m : Nat) (xs : List Int), fr = [(0, rV n), (3, .d (nI q)), (4, .row 0 1 (0 + i * 1) (n - i)), (5, .d (nI m))] ∧ σ = [rB xs] ∧ xs.length = n ∧ i ≤ q ∧ q + 1 ≤ i + m ∧ i + m ≤ n ∧ 1 ≤ m ∧ St q xs ∧ (∀ j, q ≤ j → g xs j = g zs j) ∧ g xs (q - 1) = g zs (i + m - 1) ∧ (∀ p, p < q → ∃ j, j < n ∧ g xs p = g zs j) ∧ k = n - i - m) (n - i - 1)
          (Start.of [0, 3, 4, 5] [] (by simp)) ⟨i, 1, zs, rfl, rfl, hl0, by omega, by omega, by omega, by omega, hst, fun _ _ => rfl, by rw [← hc]; rfl, fun p hp => ⟨p, by omega, rfl⟩, rfl⟩ ?_
        rintro k fr σ ⟨q, m, xs, rfl, rfl, hlx, q1, q2, q3, q4, hsx, hsame, hlast, hsrc, rfl⟩
        have gm : IntKind.i64.wrap ((m : Int) + 1) = ((m + 1 : Nat) : Int) := by rw [wI (by omega)]; rfl
        have em : IntKind.i64.wrap ((m : Int) - 1) = ((m - 1 : Nat) : Int) := by rw [wI (by omega)]; omega
        have gq : IntKind.i64.wrap ((q : Int) + 1) = ((q + 1 : Nat) : Int) := by rw [wI (by omega)]; rfl
        by_cases hm : m < n - i
        · refine W.ite_t (decide_eq_true (by omega)) ?_
          refine W.need (ixI (i := m) rfl hm) ?_
          refine W.ld (eE2 (j := m) rfl (by omega)) ?_
          refine W.need (ixI em (by omega)) ?_
          refine W.ld (eE2 em (by omega)) ?_
          have h3 : g xs (i + m) = g zs (i + m) := hsame _ (by omega)
          have h4 : g xs (i + (m - 1)) = g zs (i + m - 1) := by rw [hsame _ (by omega), show i + (m - 1) = i + m - 1 by omega]
          have h5 : g zs (i + m - 1) ≤ g zs (i + m) := hso _ _ (by omega) (by omega) (by omega)
          refine W.ite (fun cc => ?_) (fun cc => ?_)
          · have hne : g xs (i + m) ≠ g xs (i + (m - 1)) := by simpa using cc
            refine W.need (ixI (i := m) rfl hm) ?_
            refine W.ld (eE2 (j := m) rfl (by omega)) ?_
            refine W.need (ixI (i := q) rfl (by omega)) ?_
            refine W.need (st0 (i := q) rfl (by omega)) ?_
            refine W.ret ⟨_, _, _, ?_, Trim.of [0, 3, 4, 5] [0] (by decide) (by simp) keepR, q + 1, m + 1, xs.set q (g xs (i + m)), ?_, ?_, by simpa using hlx, by omega, by omega, by omega, by omega, ?_, ?_, ?_, ?_, rfl⟩
            · omega
            · rw [← gq, ← gm]; rfl
            · exact congrArg (fun c => [Blk.row 1 1 c]) (put_flat (zs := xs) (i := q) (by omega) (g xs (i + m)))
            · intro a b hab hb
              rw [g_set (by omega), g_set (by omega), if_neg (by omega)]
              by_cases hbq : b = q
              · rw [if_pos hbq]
                by_cases ha : a = q - 1
                · rw [ha, hlast]; omega
                · have := hsx a (q - 1) (by omega) (by omega)
                  rw [hlast] at this; omega
              · rw [if_neg hbq]; exact hsx a b hab (by omega)
            · intro j hj
              rw [g_set (by omega), if_neg (by omega)]; exact hsame j (by omega)
            · rw [g_set (by omega), if_pos (by omega), h3, show i + (m + 1) - 1 = i + m by omega]
            · intro p hp
              rw [g_set (by omega)]
              by_cases hpq : p = q
              · rw [if_pos hpq]; exact ⟨i + m, by omega, h3⟩
              · rw [if_neg hpq]; exact hsrc p (by omega)
          · have he : g xs (i + m) = g xs (i + (m - 1)) := by simpa using cc
            refine W.ret ⟨_, _, _, ?_, Trim.of [0, 3, 4, 5] [0] (by decide) (by simp) keepR, q, m + 1, xs, ?_, rfl, hlx, by omega, by omega, by omega, by omega, hsx, hsame, ?_, hsrc, rfl⟩
            · omega
            · rw [← gm]; rfl
            · rw [hlast, show i + (m + 1) - 1 = i + m by omega]; omega
        · refine W.ite_f (decide_eq_false (by omega)) ?_
          refine W.ret ?_
          refine W.need (show 0 + n * 1 ≤ (flat eC xs).length by rw [fl_len]; omega) ?_
          refine W.need (show (0 : Int) ≤ (q : Int) ∧ (q : Int) ≤ (n : Int) by omega) ?_
          refine W.need (show 0 + q * 1 + (n - q) * 1 ≤ (flat eC xs).length by rw [fl_len]; omega) ?_
          obtain ⟨cs, hcs⟩ : ∃ cs, (flat eC xs).take (0 + q * 1) ++ (List.replicate (n - q) ([Value.int .u64 0].map D.lit)).flatten ++ (flat eC xs).drop (0 + q * 1 + (n - q) * 1) = cs := ⟨_, rfl⟩
          have hcl : cs.length = n := by
            rw [← hcs]
            simp [fl_len]
            omega
          have hct : cs.take q = (flat eC xs).take q := by
            rw [← hcs, List.append_assoc, List.take_append_of_le_length (by simp [fl_len]; omega)]
            rw [Nat.zero_add, Nat.mul_one, List.take_take, Nat.min_self]
          refine W.need (show 0 + n * 1 ≤ ((flat eC xs).take (0 + q * 1) ++ (List.replicate (n - q) ([Value.int .u64 0].map D.lit)).flatten ++ (flat eC xs).drop (0 + q * 1 + (n - q) * 1)).length by rw [hcs]; omega) ?_
          refine W.need (show (0 : Int) ≤ (q : Int) ∧ (q : Int) ≤ (((((flat eC xs).take (0 + q * 1) ++ (List.replicate (n - q) ([Value.int .u64 0].map D.lit)).flatten ++ (flat eC xs).drop (0 + q * 1 + (n - q) * 1)).length - 0) / 1 : Nat) : Int) by rw [hcs]; omega) ?_
          exact W.ret (W.ret (RetQ.all ⟨q, xs, cs, rfl, congrArg (fun c => [Blk.row 1 1 c]) hcs, by omega, by omega, hlx, hcl, hct, hsx, hsrc, fun h => by
            have := h (i - 1) i (by omega) hin
            omega⟩))
      · have hc : g zs i ≠ g zs (i - 1) := by simpa using c
        refine W.ret ⟨_, _, _, ?_, Trim.of [0, 3] [0] (by decide) (by simp) keepR, i + 1, ?_, rfl, by omega, by omega, ?_, rfl⟩
        · omega
        · rw [← gi]; rfl
        · intro a b hab hb
          have h5 := hso (i - 1) i (by omega) (by omega) hin
          by_cases hbi : b = i
          · rw [hbi]
            by_cases ha : a = i - 1
            · rw [ha]; omega
            · have := hst a (i - 1) (by omega) (by omega); omega
          · exact hst a b hab (by omega)
    · obtain rfl : i = n := by omega
      refine W.ite_f (decide_eq_false (by omega)) ?_
      refine W.ret ?_
      exact W.ret (RetQ.all ⟨i, zs, flat eC zs, rfl, rfl, h1, Nat.le_refl _, hl0, by rw [fl_len]; exact hl0, rfl, hst, fun j hj => ⟨j, hj, rfl⟩, fun _ => ⟨rfl, rfl⟩⟩)
theorem compact0 {x : AV} {s : Store} (h : Mt x s) : CallOk Try.prog 42 [x] s (fun v σ => v = x ∧ σ = s) := by
  rcases h with ⟨rfl, rfl⟩ | ⟨rfl, rfl⟩
  · refine CallOk.of tysOk mixed od42 Try.func42 rfl rfl code42 ?_
    refine W.ite_t rfl ?_
    exact W.ret (RetQ.all ⟨rfl, rfl⟩)
  · refine CallOk.of tysOk mixed od42 Try.func42 rfl rfl code42 ?_
    refine W.ite_t rfl ?_
    exact W.ret (RetQ.all ⟨rfl, rfl⟩)
/-- What Sorted makes of places. -/
def Srt (zs us : List Int) : Prop := us.length ≤ zs.length ∧ St us.length us ∧ (us = [] ↔ zs = []) ∧ (∀ x ∈ us, x ∈ zs) ∧ ∃ ys : List Int, ys.Perm zs ∧ So 0 ys.length ys ∧ (St ys.length ys → us = ys)
theorem g_take {zs : List Int} {k i : Nat} (h : i < k) : g (zs.take k) i = g zs i := by
  unfold g; simp [List.getD_eq_getElem?_getD, List.getElem?_take, h]
theorem g_mem {zs : List Int} {i : Nat} (h : i < zs.length) : g zs i ∈ zs := List.mem_of_getElem? (g_some h)
theorem mem_g {zs : List Int} {x : Int} (h : x ∈ zs) : ∃ i, i < zs.length ∧ g zs i = x := by
  obtain ⟨i, hi, e⟩ := List.getElem_of_mem h
  exact ⟨i, hi, by unfold g; rw [List.getD_eq_getElem?_getD, List.getElem?_eq_getElem hi]; exact e⟩
theorem ok17 (zs : List Int) (hl : zs.length < 50) : CallOk Try.prog 17 [slZ zs] [] (fun v s => ∃ us, v = slZ us ∧ s = [] ∧ Srt zs us) := by
  refine CallOk.softG (CallOk.freeze ?_)
  refine CallOk.of tysOk mixed od17 Try.func17 rfl rfl code17 ?_
  by_cases h0 : zs = []
  · subst h0
    have hS : Srt [] [] := ⟨Nat.le_refl _, fun i j a b => by simp at b, ⟨fun _ => rfl, fun _ => rfl⟩, fun x h => h, [], .refl _, fun i j a b c => by simp at c, fun _ => rfl⟩
    refine W.callT [] clone0 (by decide) rfl rfl rfl rfl ?_
    rintro v σ (⟨rfl, rfl⟩ | ⟨rfl, rfl⟩)
    · refine W.callT [] (sort0 (.inl ⟨rfl, rfl⟩)) (by decide) rfl rfl rfl rfl ?_
      rintro v σ ⟨rfl, rfl⟩
      refine W.callT [] (compact0 (.inl ⟨rfl, rfl⟩)) (by decide) rfl rfl rfl rfl ?_
      rintro v σ ⟨rfl, rfl⟩
      exact W.ret (RetQ.all (.inl ⟨[], rfl, rfl, hS⟩))
    · refine W.callT [0] (sort0 (.inr ⟨rfl, rfl⟩)) (by decide) rfl rfl rfl rfl ?_
      rintro v σ ⟨rfl, rfl⟩
      refine W.callT [0] (compact0 (.inr ⟨rfl, rfl⟩)) (by decide) rfl rfl rfl rfl ?_
      rintro v σ ⟨rfl, rfl⟩
      exact W.ret (RetQ.all (.inr ⟨[], 0, 0, 0, 0, 1, [], rfl, rfl, Nat.le_refl _, by decide, by simp, fun i hi => by simp at hi, by simp, Nat.le_refl _, [], rfl, rfl, hS⟩))
  · have hpos : 1 ≤ zs.length := by cases zs with | nil => exact absurd rfl h0 | cons z r => simp
    refine W.callT [] (ok40r zs h0 (by omega)) (by decide) rfl rfl rfl rfl ?_
    rintro v σ ⟨rfl, rfl⟩
    refine W.callT [0] (ok41 hl zs rfl) (by decide) rfl rfl rfl rfl ?_
    rintro v σ ⟨rfl, ys, rfl, hly, hperm, hso⟩
    refine W.callT [0] (ok42 ys hly hpos (by omega) hso) (by decide) rfl rfl rfl rfl ?_
    rintro v σ ⟨k, ws, cs, rfl, rfl, k1, k2, hlw, hlc, hct, hst, hsrc, hall⟩
    have hfl : (flat eC ws).take k = flat eC (ws.take k) := by
      have := flat_take eC_len k ws
      rwa [Nat.mul_one] at this
    have hkl : (ws.take k).length = k := by rw [List.length_take]; omega
    refine W.ret (RetQ.all (.inr ⟨[], 0, 1, 0, k, 1, cs, rfl, rfl, by omega, by decide, by simp, fun i hi => by simp at hi, by simp, Nat.le_refl _, ws.take k, ?_, rfl, ?_, ?_, ?_, ?_, ys, hperm, by rw [hly]; exact hso, ?_⟩))
    · show AV.d (.sl k ((cs.drop 0).take (k * 1))) = AV.d (.sl (ws.take k).length (flat eC (ws.take k)))
      rw [List.drop_zero, Nat.mul_one, hct, hfl, hkl]
    · omega
    · rw [hkl]; intro i j a b; rw [g_take (by omega), g_take (by omega)]; exact hst i j a b
    · constructor
      · intro h; rw [h] at hkl; simp at hkl; omega
      · intro h; exact absurd h h0
    · intro x hx
      obtain ⟨i, hi, e⟩ := mem_g hx
      rw [hkl] at hi
      rw [g_take hi] at e
      obtain ⟨j, hj, e'⟩ := hsrc i hi
      rw [← e, e']
      exact hperm.mem_iff.1 (g_mem (by omega))
    · intro h
      rw [hly] at h
      obtain ⟨rfl, rfl⟩ := hall h
      rw [← hlw, List.take_length]
end Go.Proofs.Ytddhlmejaobcgaa.Pu
