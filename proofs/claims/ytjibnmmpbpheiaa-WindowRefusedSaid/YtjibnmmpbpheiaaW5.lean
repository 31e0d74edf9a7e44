import Derived.Test.YtjibnmmpbpheiaaW4
set_option maxRecDepth 100000
set_option linter.unusedVariables false
set_option linter.unusedSimpArgs false
namespace Go.Proofs.Ytjibnmmpbpheiaa.Wi
open Go Go.Am
theorem new_step {s : Wn} {p n : Int} (h : n > (get s p).1) : ∃ (t : T) (X : Nat), come s p n = (1, some t) ∧ X.testBit 0 = true ∧ get (some t) p = (n, X) ∧ ∀ q, q ≠ p → get (some t) q = get s q := by
  cases hg : get s p with
  | mk l c =>
    rw [hg] at h
    obtain ⟨X, h1, h2, _⟩ := comeV_new (l := l) (n := n) (c := c) h
    rw [← hg] at h1
    refine ⟨setT p (n, X) (tab s), X, come_some h1, h2, ?_, fun q hq => ?_⟩
    · show getT p (setT p (n, X) (tab s)) = _
      rw [getT_setT, if_pos rfl]
    · show getT q (setT p (n, X) (tab s)) = _
      rw [getT_setT, if_neg hq]
      rfl
theorem twice_step {s : Wn} {p n : Int} {X : Nat} (h : get s p = (n, X)) (hX : X.testBit 0 = true) : come s p n = (2, s) := come_none (by rw [h]; exact comeV_last hX)
theorem code4 : codeB Try.f4.ntmps [] (match Try.f4.body with | some c => c | none => .skip) = true := by kernel_rfl
set_option maxHeartbeats 4000000 in
theorem ok4 (p q n y : Int) : Go.Am.Pure Try.prog 4 [.d (nI p), .d (nI q), .d (nI n), .d (nI y)] (bI true) := by
  refine CallOk.of tysOk mixed [] Try.func4 rfl rfl code4 ?_
  iterate 8
    (refine W.ite (fun c => ?_) (fun c => ?_)
     · repeat (first | refine W.ite_t rfl ?_ | refine W.ite_f rfl ?_ | refine W.ite_t (by assumption) ?_ | refine W.ite_f (by assumption) ?_)
       exact W.pure ok9 rfl rfl (W.ret (RetQ.pure rfl rfl))
     repeat (first | refine W.ite_t rfl ?_ | refine W.ite_f rfl ?_ | refine W.ite_t (by assumption) ?_ | refine W.ite_f (by assumption) ?_))
  refine W.ite (fun c => ?_) (fun c => ?_)
  · exact W.pure ok9 rfl rfl (W.ret (RetQ.pure rfl rfl))
  have hpq : p ≠ q := by
    rename_i h1 h2 h3 h4 h5 h6 h7 h8
    simpa using h5
  simp only [decide_eq_false_iff_not] at *
  have hm : ∀ i : Nat, (i : Int) < n → 0 ≤ (i : Int) * y ∧ (i : Int) * y ≤ 200000 := fun i hi => by
    refine ⟨Int.mul_nonneg (by omega) (by omega), ?_⟩
    have := Int.mul_le_mul (show (i : Int) ≤ 200 by omega) (show y ≤ 1000 by omega) (by omega) (by omega)
    omega
  refine W.loop (fun k fr σ => ∃ (i : Nat) (s : Wn), fr = [(0, .d (nI p)), (1, .d (nI q)), (2, .d (nI n)), (3, .d (nI y)), (9, .ptr 0 0), (10, .d (nI i))] ∧ σ = winS s ∧ GoodW s ∧ (get s p).1 = (if i = 0 then 0 else 1 + ((i : Int) - 1) * y) ∧ (get s q).1 = i ∧ (i : Int) ≤ n ∧ k = n.toNat - i) n.toNat
    (Start.of [0, 1, 2, 3, 9, 10] [] (by simp)) ⟨0, none, rfl, rfl, good_none, rfl, rfl, by omega, rfl⟩ ?_
  rintro k fr σ ⟨i, s, rfl, rfl, hs, hp, hq, hin, rfl⟩
  refine W.ite (fun c => ?_) (fun c => ?_)
  · have hlt : (i : Int) < n := of_decide_eq_true c
    have hmi := hm i hlt
    have w1 : IntKind.i64.wrap ((i : Int) * y) = i * y := wrap64 (by omega) (by omega)
    have w2 : IntKind.i64.wrap (1 + IntKind.i64.wrap ((i : Int) * y)) = 1 + i * y := by rw [w1]; exact wrap64 (by omega) (by omega)
    have w3 : IntKind.i64.wrap (1 + (i : Int)) = 1 + i := wrap64 (by omega) (by omega)
    have r1 : inR p (1 + i * y) := ⟨by omega, by omega, by omega, by omega⟩
    have r2 : inR q (1 + i) := ⟨by omega, by omega, by omega, by omega⟩
    have hgt : 1 + i * y > (get s p).1 := by
      rw [hp]
      split
      · omega
      · rename_i h0
        have : (i : Int) * y = ((i : Int) - 1) * y + y := by rw [Int.sub_mul, Int.one_mul]; omega
        omega
    obtain ⟨t1, X1, a1, a2, a3, a4⟩ := new_step hgt
    have g1 : GoodW (some t1) := by have := come_good (p := p) hs r1.2.2; rw [a1] at this; exact this
    obtain ⟨t2, X2, b1, b2, b3, b4⟩ := new_step (s := some t1) (p := q) (n := 1 + i) (by rw [a4 q (Ne.symm hpq), hq]; omega)
    have g2 : GoodW (some t2) := by have := come_good (p := q) g1 r2.2.2; rw [b1] at this; exact this
    have c1 : come (some t2) p (1 + i * y) = (2, some t2) := twice_step (X := X1) (by rw [b4 p hpq]; exact a3) a2
    have k1 := ok8e hs r1 a1
    have k2 := ok8e g1 r2 b1
    have k3 := ok8e g2 r1 c1
    rw [← w2] at k1 k3
    rw [← w3] at k2
    refine win1 (r := [nI p, nI (IntKind.i64.wrap (1 + IntKind.i64.wrap ((i : Int) * y)))]) rfl k1 (by simp) ?_
    refine win1 (s := some _) (r := [nI q, nI (IntKind.i64.wrap (1 + (i : Int)))]) rfl k2 (by simp) ?_
    refine win1 (s := some _) (r := [nI p, nI (IntKind.i64.wrap (1 + IntKind.i64.wrap ((i : Int) * y)))]) rfl k3 (by simp) ?_
    repeat (first | refine W.ite_t rfl ?_ | refine W.ite_f rfl ?_)
    refine W.ret ⟨_, _, _, ?_, Trim.of [0, 1, 2, 3, 9, 10] [0, 1] (by decide) (by simp [winS, winM]) (by intro j hj; have : j = 0 ∨ j = 1 := (by simp [winS, winM] at hj; omega); rcases this with rfl | rfl <;> rfl), i + 1, some t2, ?_, rfl, g2, ?_, ?_, by omega, rfl⟩
    · omega
    · have : IntKind.i64.wrap ((i : Int) + 1) = ((i + 1 : Nat) : Int) := by rw [wrap64 (by omega) (by omega)]; rfl
      rw [← this]; rfl
    · rw [b4 p hpq, a3, if_neg (by omega)]
      show 1 + (i : Int) * y = 1 + ((i + 1 : Nat) - 1) * y
      congr 2
      omega
    · rw [b3]
      show 1 + (i : Int) = ((i + 1 : Nat) : Int)
      omega
  · have hge : i = n := by have := of_decide_eq_false c; omega
    refine W.ret ?_
    refine W.pure ok9 rfl rfl ?_
    repeat (first | refine W.ite_t rfl ?_ | refine W.ite_f rfl ?_)
    have hk := hm (i - 1) (by omega)
    have e1 : ((i - 1 : Nat) : Int) = n - 1 := by omega
    rw [e1] at hk
    refine win1 (r := [nI p]) rfl (ok10 _ p) (by simp) ?_
    have d1 : ((get s p).1 == IntKind.i64.wrap (1 + IntKind.i64.wrap (IntKind.i64.wrap (n - 1) * y))) = true := by
      rw [wrap64 (n := n - 1) (by omega) (by omega), wrap64 (n := (n - 1) * y) (by omega) (by omega), wrap64 (n := 1 + _) (by omega) (by omega), hp, if_neg (by omega)]
      simp [hge]
    have d2 : ((get s q).1 == n) = true := by rw [hq]; simpa using hge
    repeat (first | refine W.ite_t rfl ?_ | refine W.ite_f rfl ?_ | refine W.ite_t d1 ?_)
    refine win1 (r := [nI q]) rfl (ok10 _ q) (by simp) ?_
    repeat (first | refine W.ite_t rfl ?_ | refine W.ite_f rfl ?_ | refine W.ite_t d1 ?_)
    refine W.ret ?_
    refine RetQ.pure rfl ?_
    exact ret_bI d2
end Go.Proofs.Ytjibnmmpbpheiaa.Wi
