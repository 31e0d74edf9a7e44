import Derived.Test.YtllcjdijkmancaaD14
set_option maxRecDepth 100000
set_option linter.unusedVariables false
set_option linter.unusedSimpArgs false
namespace Go.Proofs.Ytllcjdijkmancaa.Dy
open Go Go.Am
def od34 : Ords := [(2, [0, 1, 2, 3, 4, 5, 6, 7, 8, 9, 10, 11, 12])]
theorem code34 : codeB Try.f34.ntmps od34 (match Try.f34.body with | some c => c | none => .skip) = true := by kernel_rfl
/-- The reference's cover below an interval. -/
def refC (lo hi n : Int) : Nat → Int → Int → List (Int × Int)
  | 0, _, _ => []
  | f + 1, l, i => if i * 2 ^ (n - l).toNat > hi ∨ i * 2 ^ (n - l).toNat + 2 ^ (n - l).toNat - 1 < lo then []
    else if i * 2 ^ (n - l).toNat ≥ lo ∧ i * 2 ^ (n - l).toNat + 2 ^ (n - l).toNat - 1 ≤ hi then [(l, i)]
    else refC lo hi n f (l + 1) (2 * i) ++ refC lo hi n f (l + 1) (2 * i + 1)
theorem refC_len (lo hi n : Int) : ∀ (f : Nat) (l i : Int), (refC lo hi n f l i).length ≤ 2 ^ f
  | 0, _, _ => by simp [refC]
  | f + 1, l, i => by
    unfold refC
    have h1 := refC_len lo hi n f (l + 1) (2 * i)
    have h2 := refC_len lo hi n f (l + 1) (2 * i + 1)
    have h3 : 2 ^ (f + 1) = 2 ^ f * 2 := Nat.pow_succ ..
    have h4 := Nat.one_le_two_pow (n := f)
    split
    · simp
    · split
      · simp; omega
      · rw [List.length_append]; omega
/-- An answer that is a row. -/
def isRow (L : List (Int × Int)) (v : AV) (s : Store) : Prop := v = .vec 0 L.length ∧ s = [.vec 2 L.length (ivs L)]
theorem ivs_one : ∀ (L : List (Int × Int)), ∀ c ∈ ivs L, c.one = true
  | [], c, h => by simp [ivs] at h
  | p :: r, c, h => by
    simp only [ivs, List.mem_cons] at h
    rcases h with rfl | rfl | h
    · rfl
    · rfl
    · exact ivs_one r c h
theorem ivs_take (L : List (Int × Int)) : (ivs L).take (L.length * 2) = ivs L := List.take_of_length_le (by rw [ivs_length]; omega)
theorem ok34 (lo hi n : Int) (hlo : 0 ≤ lo) (hhi : hi ≤ 256) (hn : 0 ≤ n) (hn8 : n ≤ 8) : ∀ (f : Nat) (l i : Int), (n - l).toNat < f → f ≤ 9 → 0 ≤ l → l ≤ n → 0 ≤ i → i < 2 ^ l.toNat →
    CallOk Try.prog 34 [iv l i, .d (nI lo), .d (nI hi), .d (nI n)] [] (isRow (refC lo hi n f l i))
  | 0, _, _, h, _, _, _, _, _ => absurd h (Nat.not_lt_zero _)
  | f + 1, l, i, h, hf9, h0, h1, h2, h3 => by
    refine CallOk.of tysOk mixed od34 Try.func34 rfl rfl code34 ?_
    have e1 : IntKind.i64.wrap (n - l) = n - l := wrap64 (by omega) (by omega)
    refine W.pure (ok16 _ ?_ ?_) rfl rfl ?_
    · show 0 ≤ IntKind.i64.wrap (n - l); omega
    · show IntKind.i64.wrap (n - l) ≤ 8; omega
    have hp := pow2_le (k := (n - l).toNat) (by omega)
    have hb := pow2_mul (a := l.toNat) (b := (n - l).toNat) (by omega) h2 (by omega)
    have ea : IntKind.i64.wrap (i * 2 ^ (IntKind.i64.wrap (n - l)).toNat) = i * 2 ^ (n - l).toNat := by rw [e1, wrap64 (by omega) (by omega)]
    have eb : IntKind.i64.wrap (IntKind.i64.wrap (IntKind.i64.wrap (i * 2 ^ (IntKind.i64.wrap (n - l)).toNat) + 2 ^ (IntKind.i64.wrap (n - l)).toNat) - 1) = i * 2 ^ (n - l).toNat + 2 ^ (n - l).toNat - 1 := by
      rw [ea, e1, wrap64 (n := _ + _) (by omega) (by omega), wrap64 (by omega) (by omega)]
    generalize hA : i * 2 ^ (n - l).toNat = A at *
    generalize hB : A + 2 ^ (n - l).toNat - 1 = B at *
    have hR : refC lo hi n (f + 1) l i = if A > hi ∨ B < lo then [] else if A ≥ lo ∧ B ≤ hi then [(l, i)] else refC lo hi n f (l + 1) (2 * i) ++ refC lo hi n f (l + 1) (2 * i + 1) := by
      rw [refC, hA, hB]
    have none : (A > hi ∨ B < lo) → ∀ {c : Blk}, RetQ ([] : Store).length (isRow (refC lo hi n (f + 1) l i)) .ret [(0, .vec 1 0)] [c, .vec 2 0 []] := fun hh c => by
      rw [hR, if_pos hh]
      exact RetQ.part [1] (by decide) (by simp) (by simp) ⟨rfl, rfl⟩
    refine W.ite (fun c1 => ?_) (fun c1 => ?_)
    · repeat (first | refine W.ite_t rfl ?_ | refine W.ite_f rfl ?_ | refine W.ite_t c1 ?_)
      rw [ea] at c1
      exact W.ret (none (.inl (of_decide_eq_true c1)))
    · have n1 : ¬ A > hi := by rw [ea] at c1; exact of_decide_eq_false c1
      repeat (first | refine W.ite_t rfl ?_ | refine W.ite_f rfl ?_ | refine W.ite_f c1 ?_)
      refine W.ite (fun c2 => ?_) (fun c2 => ?_)
      · repeat (first | refine W.ite_t rfl ?_ | refine W.ite_f rfl ?_ | refine W.ite_t c2 ?_)
        rw [eb] at c2
        exact W.ret (none (.inr (of_decide_eq_true c2)))
      · have n2 : ¬ B < lo := by rw [eb] at c2; exact of_decide_eq_false c2
        repeat (first | refine W.ite_t rfl ?_ | refine W.ite_f rfl ?_ | refine W.ite_f c2 ?_)
        have e2 : IntKind.i64.wrap (l + 1) = l + 1 := wrap64 (by omega) (by omega)
        have one : A ≥ lo → B ≤ hi → ∀ {c : Blk}, RetQ ([] : Store).length (isRow (refC lo hi n (f + 1) l i)) .ret [(0, .vec 1 1)] [c, .vec 2 1 [nI l, nI i]] := fun h1 h2 c => by
          rw [hR, if_neg (by omega), if_pos ⟨h1, h2⟩]
          exact RetQ.part [1] (by decide) (by simp) (by simp) ⟨rfl, rfl⟩
        have hlt : ¬ (A ≥ lo ∧ B ≤ hi) → l < n := fun hh => by
          rcases Int.lt_or_le l n with h' | h'
          · exact h'
          · have : (n - l).toNat = 0 := by omega
            rw [this] at hB
            simp at hB
            omega
        have hpow : l < n → (2 : Int) ^ (l + 1).toNat = 2 ^ l.toNat * 2 := fun _ => by
          rw [show (l + 1).toNat = l.toNat + 1 from by omega, Int.pow_succ]
        have hl8 := pow2_le (k := l.toNat) (by omega)
        have e3 : IntKind.i64.wrap (2 * i) = 2 * i := wrap64 (by omega) (by omega)
        have left : ¬ (A ≥ lo ∧ B ≤ hi) → CallOk Try.prog 34 [iv (IntKind.i64.wrap (l + 1)) (IntKind.i64.wrap (2 * i)), .d (nI lo), .d (nI hi), .d (nI n)] [] (isRow (refC lo hi n f (l + 1) (2 * i))) := fun hh => by
          have := hlt hh
          have := hpow this
          rw [e2, e3]
          exact ok34 lo hi n hlo hhi hn hn8 f (l + 1) (2 * i) (by omega) (by omega) (by omega) (by omega) (by omega) (by omega)
        have len1 := refC_len lo hi n f (l + 1) (2 * i)
        have len2 := refC_len lo hi n f (l + 1) (2 * i + 1)
        have hpf := Nat.pow_le_pow_right (n := 2) (by omega) (show f ≤ 9 by omega)
        have e4 : IntKind.i64.wrap (2 * i + 1) = 2 * i + 1 := wrap64 (by omega) (by omega)
        have right : ¬ (A ≥ lo ∧ B ≤ hi) → CallOk Try.prog 34 [iv (IntKind.i64.wrap (l + 1)) (IntKind.i64.wrap (IntKind.i64.wrap (2 * i) + 1)), .d (nI lo), .d (nI hi), .d (nI n)] [] (isRow (refC lo hi n f (l + 1) (2 * i + 1))) := fun hh => by
          have := hlt hh
          have := hpow this
          rw [e2, e3, e4]
          exact ok34 lo hi n hlo hhi hn hn8 f (l + 1) (2 * i + 1) (by omega) (by omega) (by omega) (by omega) (by omega) (by omega)
        have hcat : ¬ (A ≥ lo ∧ B ≤ hi) → refC lo hi n (f + 1) l i = refC lo hi n f (l + 1) (2 * i) ++ refC lo hi n f (l + 1) (2 * i + 1) := fun hh => by
          rw [hR, if_neg (by omega), if_neg hh]
        generalize refC lo hi n f (l + 1) (2 * i) = L1 at *
        generalize refC lo hi n f (l + 1) (2 * i + 1) = L2 at *
        have fin1 : 2 = 2 ∧ L1.length = L1.length ∧ L2.length * 2 = ((ivs L2).take (L2.length * 2)).length ∧ (L1.length + L2.length) * 16 ≤ 140737488355328 ∧ L1.length + L2.length ≤ 9223372036854775807 ∧ ∀ c ∈ (ivs L2).take (L2.length * 2), c.one = true :=
          ⟨rfl, rfl, by rw [ivs_take, ivs_length]; omega, by omega, by omega, fun c hc => ivs_one L2 c (by rw [ivs_take] at hc; exact hc)⟩
        have fin2 : ¬ (A ≥ lo ∧ B ≤ hi) → ∀ {σ : Store} {c d : Blk}, σ = [c, .vec 2 (L1.length + L2.length) (ivs L1 ++ (ivs L2).take (L2.length * 2)), d] → RetQ ([] : Store).length (isRow (refC lo hi n (f + 1) l i)) .ret [(0, .vec 1 (L1.length + L2.length))] σ := fun hh σ c d e => by
          subst e
          rw [hcat hh]
          refine RetQ.part [1] (by decide) (by simp) (by simp) ⟨?_, ?_⟩
          · rw [List.length_append]; rfl
          · rw [List.length_append, ivs_append, ivs_take]; rfl
        refine W.ite (fun c3 => ?_) (fun c3 => ?_)
        · have m3 : A ≥ lo := by rw [ea] at c3; exact of_decide_eq_true c3
          repeat (first | refine W.ite_t rfl ?_ | refine W.ite_f rfl ?_ | refine W.ite_t c3 ?_)
          refine W.ite (fun c4 => ?_) (fun c4 => ?_)
          · have m4 : B ≤ hi := by rw [eb] at c4; exact of_decide_eq_true c4
            refine W.alt_r ?_
            exact W.ret (one m3 m4)
          · have m4 : ¬ B ≤ hi := by rw [eb] at c4; exact of_decide_eq_false c4
            refine W.call [] (by decide) (by simp) (by simp) rfl rfl (left (by omega)) ?_
            rintro v s ⟨rfl, rfl⟩
            refine W.call [] (by decide) (by simp) (by simp) rfl rfl (right (by omega)) ?_
            rintro v s ⟨rfl, rfl⟩
            refine W.need ?_ ?_
            · exact fin1
            refine W.ret ?_
            exact fin2 (by omega) (σ := _) (c := _) (d := _) rfl
        · have m3 : ¬ A ≥ lo := by rw [ea] at c3; exact of_decide_eq_false c3
          repeat (first | refine W.ite_t rfl ?_ | refine W.ite_f rfl ?_ | refine W.ite_f c3 ?_)
          refine W.call [] (by decide) (by simp) (by simp) rfl rfl (left (by omega)) ?_
          rintro v s ⟨rfl, rfl⟩
          refine W.call [] (by decide) (by simp) (by simp) rfl rfl (right (by omega)) ?_
          rintro v s ⟨rfl, rfl⟩
          refine W.need ?_ ?_
          · exact fin1
          refine W.ret ?_
          exact fin2 (by omega) (σ := _) (c := _) (d := _) rfl
end Go.Proofs.Ytllcjdijkmancaa.Dy
