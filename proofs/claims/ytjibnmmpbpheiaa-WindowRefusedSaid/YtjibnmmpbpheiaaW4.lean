import Derived.Test.YtjibnmmpbpheiaaW3
set_option maxRecDepth 100000
set_option linter.unusedVariables false
set_option linter.unusedSimpArgs false
namespace Go.Proofs.Ytjibnmmpbpheiaa.Wi
open Go Go.Am
theorem comeV_new {l n : Int} {c : Nat} (h : n > l) : ∃ X : Nat, comeV (l, c) n = (1, some (n, X)) ∧ X.testBit 0 = true ∧ (n - l ≥ 64 → X = 1) := by
  refine ⟨if n - l < 64 then (c * 2 ^ (n - l).toNat) % 18446744073709551616 ||| 1 else 1, ?_, ?_, ?_⟩
  · unfold comeV
    rw [if_pos (show n > (l, c).1 from h)]
  · split
    · rw [Nat.testBit_or]; simp
    · rfl
  · intro h'
    rw [if_neg (by omega)]
theorem comeV_last {l : Int} {c : Nat} (h : c.testBit 0 = true) : comeV (l, c) l = (2, none) := by
  unfold comeV
  rw [if_neg (show ¬ l > (l, c).1 from by show ¬ l > l; omega), if_neg (by show ¬ l - l ≤ -64; omega), if_pos (by show c.testBit (l - l).toNat = true; rw [Int.sub_self]; exact h)]
theorem comeV_old {l n : Int} {c : Nat} (h : n - l ≤ -64) : comeV (l, c) n = (3, none) := by
  unfold comeV
  rw [if_neg (show ¬ n > (l, c).1 from by show ¬ n > l; omega), if_pos (by show n - l ≤ -64; omega)]
theorem comeV_known {l n : Int} {c : Nat} (h0 : n ≤ l) (h : ¬ n - l ≤ -64) (hb : c.testBit (l - n).toNat = true) : comeV (l, c) n = (2, none) := by
  unfold comeV
  rw [if_neg (show ¬ n > (l, c).1 from by show ¬ n > l; omega), if_neg (by show ¬ n - l ≤ -64; omega), if_pos (by show c.testBit (l - n).toNat = true; exact hb)]
theorem comeV_fill {l n : Int} {c : Nat} (h0 : n ≤ l) (h : ¬ n - l ≤ -64) (hb : c.testBit (l - n).toNat = false) : comeV (l, c) n = (1, some (l, c ||| 2 ^ (l - n).toNat)) := by
  unfold comeV
  rw [if_neg (show ¬ n > (l, c).1 from by show ¬ n > l; omega), if_neg (by show ¬ n - l ≤ -64; omega), if_neg (by show ¬ c.testBit (l - n).toNat = true; rw [hb]; decide)]
theorem code6 : codeB Try.f6.ntmps [] (match Try.f6.body with | some c => c | none => .skip) = true := by kernel_rfl
set_option maxHeartbeats 4000000 in
theorem ok6 (p l b : Int) : Go.Am.Pure Try.prog 6 [.d (nI p), .d (nI l), .d (nI b)] (bI true) := by
  refine CallOk.of tysOk mixed [] Try.func6 rfl rfl code6 ?_
  iterate 5
    (refine W.ite (fun c => ?_) (fun c => ?_)
     · repeat (first | refine W.ite_t rfl ?_ | refine W.ite_f rfl ?_ | refine W.ite_t (by assumption) ?_ | refine W.ite_f (by assumption) ?_)
       exact W.pure ok9 rfl rfl (W.ret (RetQ.pure rfl rfl))
     repeat (first | refine W.ite_t rfl ?_ | refine W.ite_f rfl ?_ | refine W.ite_t (by assumption) ?_ | refine W.ite_f (by assumption) ?_))
  refine W.ite (fun c => ?_) (fun c => ?_)
  · exact W.pure ok9 rfl rfl (W.ret (RetQ.pure rfl rfl))
  simp only [decide_eq_false_iff_not] at *
  have r1 : inR p l := ⟨by omega, by omega, by omega, by omega⟩
  have r2 : inR p (l - b) := ⟨by omega, by omega, by omega, by omega⟩
  obtain ⟨X, hX, _, hX1⟩ := comeV_new (l := 0) (n := l) (c := 0) (by omega)
  obtain rfl := hX1 (by omega)
  have e1 : come none p l = (1, some [(p, l, 1)]) := by
    rw [come_some (s := none) (p := p) (n := l) (v := (l, 1)) (c := 1) hX]
    rfl
  have g1 : GoodW (some [(p, l, 1)]) := by have := come_good (p := p) good_none r1.2.2; rw [e1] at this; exact this
  have hg1 : get (some [(p, l, 1)]) p = (l, 1) := by simp [get, tab, getT]
  have w1 : IntKind.i64.wrap (l - b) = l - b := wrap64 (by omega) (by omega)
  refine win1 (s := none) (r := [nI p, nI l]) rfl (ok8e good_none r1 e1) (by simp) ?_
  have d0 : (l != l) = false := by simp
  by_cases hb : b ≥ 64
  · have e2 : come (some [(p, l, 1)]) p (l - b) = (3, some [(p, l, 1)]) := come_none (by rw [hg1]; exact comeV_old (by omega))
    have k2 := ok8e g1 r2 e2
    rw [← w1] at k2
    refine win1 (s := some _) (r := [nI p, nI (IntKind.i64.wrap (l - b))]) rfl k2 (by simp) ?_
    refine win1 (s := some _) (r := [nI p, nI (IntKind.i64.wrap (l - b))]) rfl k2 (by simp) ?_
    repeat (first | refine W.ite_t rfl ?_ | refine W.ite_f rfl ?_)
    refine win1 (s := some _) (r := [nI p]) rfl (ok10 _ p) (by simp) ?_
    rw [hg1]
    have db : decide (b ≥ 64) = true := decide_eq_true hb
    repeat (first | refine W.ite_t rfl ?_ | refine W.ite_f rfl ?_ | refine W.ite_f d0 ?_ | refine W.ite_t db ?_)
    refine W.pure ok9 rfl rfl ?_
    repeat (first | refine W.ite_t rfl ?_ | refine W.ite_f rfl ?_)
    exact W.ret (RetQ.pure rfl rfl)
  · have hbit : Nat.testBit 1 (l - (l - b)).toNat = false := by
      obtain ⟨k, hk⟩ : ∃ k : Nat, (l - (l - b)).toNat = k + 1 := ⟨(l - (l - b)).toNat - 1, by omega⟩
      rw [hk, Nat.testBit_succ]
      simp
    have e2 : come (some [(p, l, 1)]) p (l - b) = (1, some [(p, l, 1 ||| 2 ^ (l - (l - b)).toNat)]) := by
      rw [come_some (v := (l, 1 ||| 2 ^ (l - (l - b)).toNat)) (c := 1) (by rw [hg1]; exact comeV_fill (by omega) (by omega) hbit)]
      simp [tab, setT]
    have g2 : GoodW (some [(p, l, 1 ||| 2 ^ (l - (l - b)).toNat)]) := by have := come_good (p := p) g1 r2.2.2; rw [e2] at this; exact this
    have hg2 : get (some [(p, l, 1 ||| 2 ^ (l - (l - b)).toNat)]) p = (l, 1 ||| 2 ^ (l - (l - b)).toNat) := by simp [get, tab, getT]
    have e3 : come (some [(p, l, 1 ||| 2 ^ (l - (l - b)).toNat)]) p (l - b) = (2, some [(p, l, 1 ||| 2 ^ (l - (l - b)).toNat)]) :=
      come_none (by rw [hg2]; exact comeV_known (by omega) (by omega) (by rw [Nat.testBit_or]; simp [Nat.testBit_two_pow_self]))
    have k2 := ok8e g1 r2 e2
    have k3 := ok8e g2 r2 e3
    rw [← w1] at k2 k3
    refine win1 (s := some _) (r := [nI p, nI (IntKind.i64.wrap (l - b))]) rfl k2 (by simp) ?_
    refine win1 (s := some _) (r := [nI p, nI (IntKind.i64.wrap (l - b))]) rfl k3 (by simp) ?_
    repeat (first | refine W.ite_t rfl ?_ | refine W.ite_f rfl ?_)
    refine win1 (s := some _) (r := [nI p]) rfl (ok10 _ p) (by simp) ?_
    rw [w1, hg2]
    have db : decide (b ≥ 64) = false := decide_eq_false hb
    repeat (first | refine W.ite_t rfl ?_ | refine W.ite_f rfl ?_ | refine W.ite_f d0 ?_ | refine W.ite_f db ?_)
    refine W.pure ok9 rfl rfl ?_
    repeat (first | refine W.ite_t rfl ?_ | refine W.ite_f rfl ?_)
    exact W.ret (RetQ.pure rfl rfl)
end Go.Proofs.Ytjibnmmpbpheiaa.Wi
