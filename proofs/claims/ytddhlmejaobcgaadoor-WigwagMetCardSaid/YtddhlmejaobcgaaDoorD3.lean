import Derived.Test.YtddhlmejaobcgaaDoorD2
set_option maxRecDepth 100000
set_option linter.unusedVariables false
set_option linter.unusedSimpArgs false
namespace Go.Proofs.YtddhlmejaobcgaaDoor.Dy
open Go Go.Am
def od8 : Ords := []
theorem code8 : codeB Tryd.f8.ntmps od8 (match Tryd.f8.body with | some c => c | none => .skip) = true := by kernel_rfl
def inner (lo hi n : Nat) : Nat → Nat → Nat
  | 0, b => b
  | f + 1, b => if b < n ∧ lo % 2 ^ (b + 1) = 0 ∧ lo + 2 ^ (b + 1) ≤ hi + 1 then inner lo hi n f (b + 1) else b
def coverN (hi n : Nat) : Nat → Nat → List (Int × Int)
  | 0, _ => []
  | f + 1, lo => if lo ≤ hi then (((n - inner lo hi n n 0 : Nat) : Int), ((lo / 2 ^ inner lo hi n n 0 : Nat) : Int)) :: coverN hi n f (lo + 2 ^ inner lo hi n n 0) else []
def cover (lo hi n : Int) : List (Int × Int) := if lo ≤ hi ∧ good n lo n = true ∧ good n hi n = true then coverN hi.toNat n.toNat (hi + 1 - lo).toNat lo.toNat else []
theorem inner_le (lo hi n : Nat) : ∀ (f b : Nat), b ≤ n → inner lo hi n f b ≤ n ∧ b ≤ inner lo hi n f b
  | 0, b, h => ⟨h, Nat.le_refl _⟩
  | f + 1, b, h => by
    unfold inner
    split
    · rename_i h1
      have := inner_le lo hi n f (b + 1) h1.1
      omega
    · omega
theorem inner_fits (lo hi n : Nat) (h : lo ≤ hi) : ∀ (f b : Nat), lo + 2 ^ b ≤ hi + 1 → lo + 2 ^ inner lo hi n f b ≤ hi + 1
  | 0, b, hb => hb
  | f + 1, b, hb => by
    unfold inner
    split
    · rename_i h1
      exact inner_fits lo hi n h f (b + 1) h1.2.2
    · exact hb
theorem and_mask (x k : Nat) (hx : x < 512) (hk : k ≤ 9) : (BitVec.ofInt 64 (x : Int) &&& BitVec.ofInt 64 ((2 : Int) ^ k - 1)).toNat = x % 2 ^ k := by
  have e : (2 : Int) ^ k - 1 = ((2 ^ k - 1 : Nat) : Int) := by
    have := Nat.one_le_two_pow (n := k)
    rw [Int.natCast_sub this]
    simp
  have hk2 : 2 ^ k ≤ 512 := by
    have := Nat.pow_le_pow_right (n := 2) (by omega) hk
    simpa using this
  rw [e, BitVec.toNat_and, BitVec.ofInt_natCast, BitVec.ofInt_natCast, BitVec.toNat_ofNat, BitVec.toNat_ofNat, Nat.mod_eq_of_lt (by omega), Nat.mod_eq_of_lt (by omega), Nat.and_two_pow_sub_one_eq_mod]
theorem pow2N {k : Nat} (h : k ≤ 8) : 1 ≤ 2 ^ k ∧ 2 ^ k ≤ 256 := by
  have : k = 0 ∨ k = 1 ∨ k = 2 ∨ k = 3 ∨ k = 4 ∨ k = 5 ∨ k = 6 ∨ k = 7 ∨ k = 8 := by omega
  rcases this with rfl | rfl | rfl | rfl | rfl | rfl | rfl | rfl | rfl <;> decide
set_option maxHeartbeats 4000000 in
theorem ok8 (lo hi n : Int) : Go.Am.Pure Tryd.prog 8 [.d (nI lo), .d (nI hi), .d (nI n)] (slI (cover lo hi n)) := by
  refine CallOk.soft (CallOk.of tysOk mixed [] Tryd.func8 rfl rfl code8 ?_)
  have nil : ∀ {Q : Prop}, ¬ (lo ≤ hi ∧ good n lo n = true ∧ good n hi n = true) → (AV.d (.lit (.slice none 0 0))).soft = slI (cover lo hi n) := fun {Q} h => by
    simp only [cover, h, if_false]
    rfl
  refine W.ite (fun h => ?_) (fun h => ?_)
  · repeat (first | refine W.ite_t rfl ?_ | refine W.ite_f rfl ?_ | refine W.ite_t (by assumption) ?_ | refine W.ite_f (by assumption) ?_)
    refine W.ret (RetQ.soft rfl (nil (Q := True) ?_))
    have : lo > hi := by simpa using h
    omega
  have hlh : lo ≤ hi := by have : ¬ lo > hi := (by simpa using h); omega
  repeat (first | refine W.ite_t rfl ?_ | refine W.ite_f rfl ?_ | refine W.ite_t (by assumption) ?_ | refine W.ite_f (by assumption) ?_)
  refine W.pure (ok23 n lo n) rfl rfl ?_
  repeat (first | refine W.ite_t rfl ?_ | refine W.ite_f rfl ?_ | refine W.ite_t (by assumption) ?_ | refine W.ite_f (by assumption) ?_)
  refine W.ite (fun h1 => ?_) (fun h1 => ?_)
  · repeat (first | refine W.ite_t rfl ?_ | refine W.ite_f rfl ?_ | refine W.ite_t (by assumption) ?_ | refine W.ite_f (by assumption) ?_)
    refine W.ret (RetQ.soft rfl (nil (Q := True) ?_))
    have : good n lo n = false := by simpa using h1
    simp [this]
  have hg1 : good n lo n = true := by simpa using h1
  repeat (first | refine W.ite_t rfl ?_ | refine W.ite_f rfl ?_ | refine W.ite_t (by assumption) ?_ | refine W.ite_f (by assumption) ?_)
  refine W.pure (ok23 n hi n) rfl rfl ?_
  repeat (first | refine W.ite_t rfl ?_ | refine W.ite_f rfl ?_ | refine W.ite_t (by assumption) ?_ | refine W.ite_f (by assumption) ?_)
  refine W.ite (fun h2 => ?_) (fun h2 => ?_)
  · refine W.ret (RetQ.soft rfl (nil (Q := True) ?_))
    have : good n hi n = false := by simpa using h2
    simp [this]
  have hg2 : good n hi n = true := by simpa using h2
  clear h h1 h2 nil
  obtain ⟨a1, a2, a3, a4, a5, a6⟩ := good_iff.1 hg1
  obtain ⟨b1, b2, b3, b4, b5, b6⟩ := good_iff.1 hg2
  obtain ⟨N, rfl⟩ : ∃ N : Nat, n = N := ⟨n.toNat, by omega⟩
  obtain ⟨H, rfl⟩ : ∃ H : Nat, hi = H := ⟨hi.toNat, by omega⟩
  obtain ⟨X, rfl⟩ : ∃ X : Nat, lo = X := ⟨lo.toNat, by omega⟩
  have hN : N ≤ 8 := by omega
  have hH : H < 2 ^ N := by
    have : ((2 : Int) ^ ((N : Int).toNat)) = ((2 ^ N : Nat) : Int) := by simp
    omega
  have hH2 : H < 256 := by have := pow2N hN; omega
  have hcov : cover (X : Int) H N = coverN H N (H + 1 - X) X := by
    simp only [cover, hlh, hg1, hg2, and_self, if_true]
    congr 1
    omega
  refine W.loop (fun k fr σ => ∃ (j x f : Nat) (done : List (Int × Int)), fr = [(0, .d (nI x)), (1, .d (nI H)), (2, .d (nI N)), (7, .vec 0 j)] ∧ σ = [.vec 2 j (ivs done)] ∧ done.length = j ∧ j ≤ 256 ∧ j + f ≤ 256 ∧ done ++ coverN H N f x = cover X H N ∧ x ≤ 256 ∧ H + 1 - x ≤ f ∧ f = k) (H + 1 - X)
    (Start.of [0, 1, 2] [(7, 2)] (by simp; rfl)) ⟨0, X, H + 1 - X, [], rfl, rfl, rfl, by omega, by omega, hcov.symm, by omega, by omega, rfl⟩ ?_
  rintro k fr σ ⟨j, x, f, done, rfl, rfl, hdone, hj, hjf, hc, hx, hf, rfl⟩
  refine W.ite (fun h => ?_) (fun h => ?_)
  · have hxH : x ≤ H := by have : (x : Int) ≤ H := (by simpa using h); omega
    obtain ⟨f, rfl⟩ : ∃ f', f = f' + 1 := ⟨f - 1, by omega⟩
    have hB := inner_le x H N N 0 (by omega)
    refine W.loop (fun k fr σ => ∃ (b g : Nat), fr = [(0, .d (nI x)), (1, .d (nI H)), (2, .d (nI N)), (7, .vec 0 j), (8, .d (nI b))] ∧ σ = [.vec 2 j (ivs done)] ∧ b ≤ N ∧ N ≤ b + g ∧ inner x H N g b = inner x H N N 0 ∧ g = k) N
      (Start.of [0, 1, 2, 7, 8] [] (by simp)) ⟨0, N, rfl, rfl, by omega, by omega, rfl, rfl⟩ ?_
    rintro k fr σ ⟨b, g, rfl, rfl, hb, hg, hin, rfl⟩
    have e1 : IntKind.i64.wrap ((b : Int) + 1) = ((b + 1 : Nat) : Int) := by rw [wrap64 (by omega) (by omega)]; rfl
    have hp := pow2N (k := b) (by omega)
    have e2 : IntKind.i64.wrap (1 * 2 ^ min (IntKind.i64.wrap ((b : Int) + 1)).toNat IntKind.i64.bits) = 2 ^ (b + 1) := by
      rw [e1, min64 (by omega), Int.one_mul, Int.toNat_natCast, wrap64]
      · have : (2 : Int) ^ (b + 1) = ((2 ^ (b + 1) : Nat) : Int) := by simp
        rw [this, Nat.pow_succ]; omega
      · have : (2 : Int) ^ (b + 1) = ((2 ^ (b + 1) : Nat) : Int) := by simp
        rw [this, Nat.pow_succ]; omega
    have hpI : (2 : Int) ^ (b + 1) = ((2 ^ (b + 1) : Nat) : Int) := by simp
    have hp2 : 2 ^ (b + 1) = 2 ^ b * 2 := Nat.pow_succ ..
    have e3 : ∀ y : Int, y = 2 ^ (b + 1) → IntKind.i64.wrap ((BitVec.ofInt IntKind.i64.bits (x : Int) &&& BitVec.ofInt IntKind.i64.bits (IntKind.i64.wrap (y - 1))).toNat : Nat) = ((x % 2 ^ (b + 1) : Nat) : Int) := fun y hy => by
      subst hy
      rw [wrap64 (n := 2 ^ (b + 1) - 1) (by omega) (by omega), bits64, and_mask x (b + 1) (by omega) (by omega)]
      have := Nat.mod_le x (2 ^ (b + 1))
      rw [wrap64 (by omega) (by omega)]
    have e4 : IntKind.i64.wrap ((x : Int) + IntKind.i64.wrap (1 * 2 ^ min (b : Int).toNat IntKind.i64.bits)) = ((x + 2 ^ b : Nat) : Int) := by
      have : (2 : Int) ^ b = ((2 ^ b : Nat) : Int) := by simp
      rw [Int.toNat_natCast, min64 (by omega), Int.one_mul, this, wrap64 (n := ((2 ^ b : Nat) : Int)) (by omega) (by omega), wrap64 (by omega) (by omega)]
      rfl
    have e5 : IntKind.i64.wrap ((N : Int) - b) = ((N - b : Nat) : Int) := by rw [wrap64 (by omega) (by omega)]; omega
    have e6 : (x : Int).fdiv (2 ^ min (b : Int).toNat IntKind.i64.bits) = ((x / 2 ^ b : Nat) : Int) := by
      have : (2 : Int) ^ b = ((2 ^ b : Nat) : Int) := by simp
      rw [Int.toNat_natCast, min64 (by omega), this, Int.fdiv_eq_ediv_of_nonneg _ (by omega)]
      rfl
    have hle : inner x H N N 0 = b → x + 2 ^ b ≤ H + 1 := fun e => by rw [← e]; exact inner_fits x H N hxH N 0 (by omega)
    refine W.ite (fun h1 => ?_) (fun h1 => ?_)
    · have hbN : b < N := by have : (b : Int) < N := (by simpa using h1); omega
      obtain ⟨g, rfl⟩ : ∃ g', g = g' + 1 := ⟨g - 1, by omega⟩
      repeat (first | refine W.ite_t rfl ?_ | refine W.ite_f rfl ?_ | refine W.ite_t (by assumption) ?_ | refine W.ite_f (by assumption) ?_)
      refine W.need ?_ ?_
      · show 0 ≤ IntKind.i64.wrap ((b : Int) + 1)
        rw [e1]; omega
      repeat (first | refine W.ite_t rfl ?_ | refine W.ite_f rfl ?_ | refine W.ite_t (by assumption) ?_ | refine W.ite_f (by assumption) ?_)
      refine W.ite (fun h2 => ?_) (fun h2 => ?_)
      · have hm : x % 2 ^ (b + 1) = 0 := by
          rw [e3 _ e2] at h2
          have : ((x % 2 ^ (b + 1) : Nat) : Int) = 0 := by simpa using h2
          omega
        repeat (first | refine W.ite_t rfl ?_ | refine W.ite_f rfl ?_ | refine W.ite_t (by assumption) ?_ | refine W.ite_f (by assumption) ?_)
        refine W.need ?_ ?_
        · show 0 ≤ IntKind.i64.wrap ((b : Int) + 1)
          rw [e1]; omega
        repeat (first | refine W.ite_t rfl ?_ | refine W.ite_f rfl ?_ | refine W.ite_t (by assumption) ?_ | refine W.ite_f (by assumption) ?_)
        refine W.ite (fun h3 => ?_) (fun h3 => ?_)
        · have hH3 : x + 2 ^ (b + 1) ≤ H + 1 := by
            rw [e2, hpI, wrap64 (n := (x : Int) + _) (by omega) (by omega), wrap64 (by omega) (by omega)] at h3
            have : (x : Int) + (2 ^ (b + 1) : Nat) - 1 ≤ H := by simpa using h3
            omega
          refine W.ret ⟨g, _, _, by omega, Trim.of [0, 1, 2, 7, 8] [0] (by decide) (by simp) (by simp), b + 1, g, ?_, ?_, by omega, by omega, ?_, rfl⟩
          · rw [← e1]; rfl
          · rfl
          · rw [← hin, inner, if_pos ⟨hbN, hm, hH3⟩]
        · have hout : inner x H N N 0 = b := by
            rw [← hin, inner, if_neg]
            intro hh
            rw [e2, hpI, wrap64 (n := (x : Int) + _) (by omega) (by omega), wrap64 (by omega) (by omega)] at h3
            have : ¬ (x : Int) + (2 ^ (b + 1) : Nat) - 1 ≤ H := by simpa using h3
            omega
          have hle := hle hout
          refine W.ret ?_
          refine W.need ?_ ?_
          · show (0 : Int) ≤ b
            omega
          refine W.alt_l ?_
          refine W.need ⟨rfl, rfl, rfl, by omega, by omega, by intro c hc; simp at hc; rcases hc with rfl | rfl <;> rfl⟩ ?_
          refine W.need ?_ ?_
          · show (0 : Int) ≤ b
            omega
          refine W.ret ⟨f, _, _, by omega, Trim.of [0, 1, 2, 7] [0] (by decide) (by simp) (by simp), j + 1, x + 2 ^ b, f, done ++ [(((N - b : Nat) : Int), ((x / 2 ^ b : Nat) : Int))], ?_, ?_, by simp [hdone], by omega, by omega, ?_, by omega, by omega, rfl⟩
          · rw [← e4]; rfl
          · show [Blk.vec 2 (j + 1) (ivs done ++ [nI (IntKind.i64.wrap ((N : Int) - b)), nI ((x : Int).fdiv (2 ^ min (b : Int).toNat IntKind.i64.bits))])] = _
            rw [ivs_append, e5, e6]
            rfl
          · rw [← hc, List.append_assoc, coverN, if_pos hxH, hout]
            rfl
      · have hout : inner x H N N 0 = b := by
          rw [← hin, inner, if_neg]
          intro hh
          rw [e3 _ e2, hh.2.1] at h2
          simp at h2
        have hle := hle hout
        repeat (first | refine W.ite_t rfl ?_ | refine W.ite_f rfl ?_ | refine W.ite_t (by assumption) ?_ | refine W.ite_f (by assumption) ?_)
        refine W.ret ?_
        refine W.need ?_ ?_
        · show (0 : Int) ≤ b
          omega
        refine W.alt_l ?_
        refine W.need ⟨rfl, rfl, rfl, by omega, by omega, by intro c hc; simp at hc; rcases hc with rfl | rfl <;> rfl⟩ ?_
        refine W.need ?_ ?_
        · show (0 : Int) ≤ b
          omega
        refine W.ret ⟨f, _, _, by omega, Trim.of [0, 1, 2, 7] [0] (by decide) (by simp) (by simp), j + 1, x + 2 ^ b, f, done ++ [(((N - b : Nat) : Int), ((x / 2 ^ b : Nat) : Int))], ?_, ?_, by simp [hdone], by omega, by omega, ?_, by omega, by omega, rfl⟩
        · rw [← e4]; rfl
        · show [Blk.vec 2 (j + 1) (ivs done ++ [nI (IntKind.i64.wrap ((N : Int) - b)), nI ((x : Int).fdiv (2 ^ min (b : Int).toNat IntKind.i64.bits))])] = _
          rw [ivs_append, e5, e6]
          rfl
        · rw [← hc, List.append_assoc, coverN, if_pos hxH, hout]
          rfl
    · have hout : inner x H N N 0 = b := by
        have hbN : b = N := by have : ¬ (b : Int) < N := (by simpa using h1); omega
        rw [← hin]
        cases g with
        | zero => rfl
        | succ g => rw [inner, if_neg (by omega)]
      have hle := hle hout
      repeat (first | refine W.ite_t rfl ?_ | refine W.ite_f rfl ?_ | refine W.ite_t (by assumption) ?_ | refine W.ite_f (by assumption) ?_)
      refine W.ret ?_
      refine W.need ?_ ?_
      · show (0 : Int) ≤ b
        omega
      refine W.alt_l ?_
      refine W.need ⟨rfl, rfl, rfl, by omega, by omega, by intro c hc; simp at hc; rcases hc with rfl | rfl <;> rfl⟩ ?_
      refine W.need ?_ ?_
      · show (0 : Int) ≤ b
        omega
      refine W.ret ⟨f, _, _, by omega, Trim.of [0, 1, 2, 7] [0] (by decide) (by simp) (by simp), j + 1, x + 2 ^ b, f, done ++ [(((N - b : Nat) : Int), ((x / 2 ^ b : Nat) : Int))], ?_, ?_, by simp [hdone], by omega, by omega, ?_, by omega, by omega, rfl⟩
      · rw [← e4]; rfl
      · show [Blk.vec 2 (j + 1) (ivs done ++ [nI (IntKind.i64.wrap ((N : Int) - b)), nI ((x : Int).fdiv (2 ^ min (b : Int).toNat IntKind.i64.bits))])] = _
        rw [ivs_append, e5, e6]
        rfl
      · rw [← hc, List.append_assoc, coverN, if_pos hxH, hout]
        rfl
  · have hxH : H < x := by have : ¬ (x : Int) ≤ H := (by simpa using h); omega
    refine W.ret (W.ret (RetQ.row (cs := ivs done) rfl ?_))
    have hl : (ivs done).take (j * 2) = ivs done := by
      rw [List.take_of_length_le]; rw [ivs_length]; omega
    have : coverN H N f x = [] := by
      cases f with
      | zero => rfl
      | succ f => rw [coverN, if_neg (by omega)]
    rw [this, List.append_nil] at hc
    rw [hl, ← hc, slI, hdone]
end Go.Proofs.YtddhlmejaobcgaaDoor.Dy
