import Derived.Test.YtllcjdijkmancaaD3
set_option maxRecDepth 100000
set_option linter.unusedVariables false
set_option linter.unusedSimpArgs false
namespace Go.Proofs.Ytllcjdijkmancaa.Dy
open Go Go.Am
theorem ivs_rd : ∀ (l : List (Int × Int)) (i : Nat) (p : Int × Int), l[i]? = some p → rdD (ivs l) (i * 2) = nI p.1 ∧ rdD (ivs l) (i * 2 + 1) = nI p.2
  | q :: r, 0, p, h => by simp at h; subst h; exact ⟨rfl, rfl⟩
  | q :: r, i + 1, p, h => by
    have := ivs_rd r i p (by simpa using h)
    rw [show (i + 1) * 2 = i * 2 + 2 from by omega]
    exact this
theorem ivs_ne {l : List (Int × Int)} {i : Nat} (h : i < l.length) : ivs l ≠ [] := fun e => by
  have := ivs_length l
  rw [e] at this
  simp at this
  omega
/-- A load of interval i. -/
theorem ivs_load {l : List (Int × Int)} {i : Nat} {p : Int × Int} (h : l[i]? = some p) : i * 2 + 2 ≤ (ivs l).length ∧ formedOk (ivs l) [.int .i64, .int .i64] (i * 2) := by
  obtain ⟨e1, e2⟩ := ivs_rd l i p h
  have := (List.getElem?_eq_some_iff.1 h).1
  refine ⟨by rw [ivs_length]; omega, ?_, ?_, True.intro⟩
  · show rdD _ _ = .lit (.int .i64 (rdD _ _).toI)
    rw [e1]; rfl
  · show rdD _ _ = .lit (.int .i64 (rdD _ _).toI)
    rw [e2]; rfl
theorem code13 : codeB Try.f13.ntmps [] (match Try.f13.body with | some c => c | none => .skip) = true := by kernel_rfl
theorem cover163 : cover 1 6 3 = [(3, 1), (2, 1), (2, 2), (3, 6)] := by decide +kernel
theorem chain53 : (chain 5 3).length = 4 := by decide +kernel
theorem ok13 : Go.Am.Pure Try.prog 13 [] (bI true) := by
  refine CallOk.of tysOk mixed [] Try.func13 rfl rfl code13 ?_
  have h := ok21 1 6 3
  rw [cover163] at h
  refine W.pure h rfl rfl ?_
  repeat (first | refine W.ite_t rfl ?_ | refine W.ite_f rfl ?_)
  refine W.need ?_ ?_
  · exact ⟨by decide, by decide, fun e => (by cases e)⟩
  repeat (first | refine W.ite_t rfl ?_ | refine W.ite_f rfl ?_)
  refine W.need ?_ ?_
  · exact ivs_load (l := [(3, 1), (2, 1), (2, 2), (3, 6)]) (i := 1) (p := (2, 1)) rfl
  repeat (first | refine W.ite_t rfl ?_ | refine W.ite_f rfl ?_)
  have h2 := ok19 5 3
  unfold slI at h2
  rw [chain53] at h2
  refine W.pure h2 rfl rfl ?_
  repeat (first | refine W.ite_t rfl ?_ | refine W.ite_f rfl ?_)
  refine W.ret (RetQ.pure rfl rfl)

theorem code6 : codeB Try.f6.ntmps [] (match Try.f6.body with | some c => c | none => .skip) = true := by kernel_rfl
theorem fdiv_two (c : Int) (k : Nat) : c.fdiv (2 ^ k) = c / 2 ^ k := Int.fdiv_eq_ediv_of_nonneg _ (Int.le_of_lt (Int.pow_pos (by omega)))
/-- The interval of a chain has its cell. -/
theorem chain_has {cell n : Int} (hg : good n cell n = true) {i : Nat} (hi : (i : Int) ≤ n) :
    good i (cell.fdiv (2 ^ (n - i).toNat)) n = true ∧ cell.fdiv (2 ^ (n - i).toNat) * 2 ^ (n - i).toNat ≤ cell ∧ cell < (cell.fdiv (2 ^ (n - i).toNat) + 1) * 2 ^ (n - i).toNat := by
  obtain ⟨h1, h2, h3, h4, h5, h6⟩ := good_iff.1 hg
  rw [fdiv_two]
  have hp : (0 : Int) < 2 ^ (n - i).toNat := Int.pow_pos (by omega)
  have e := Int.emod_add_mul_ediv cell (2 ^ (n - i).toNat)
  have m1 := Int.emod_nonneg cell (Int.ne_of_gt hp)
  have m2 := Int.emod_lt_of_pos cell hp
  rw [Int.mul_comm] at e
  have q0 : 0 ≤ cell / 2 ^ (n - i).toNat := Int.ediv_nonneg h5 (Int.le_of_lt hp)
  refine ⟨good_iff.2 ⟨h1, h2, by omega, hi, q0, ?_⟩, by omega, by rw [Int.add_mul]; omega⟩
  have : (2 : Int) ^ n.toNat = 2 ^ (i : Int).toNat * 2 ^ (n - i).toNat := by
    rw [← Int.pow_add]; congr 1; omega
  rw [this] at h6
  exact Int.ediv_lt_of_lt_mul hp h6
theorem ok6 (cell n : Int) : Go.Am.Pure Try.prog 6 [.d (nI cell), .d (nI n)] (bI true) := by
  refine CallOk.of tysOk mixed [] Try.func6 rfl rfl code6 ?_
  refine W.pure (ok19 cell n) rfl rfl ?_
  generalize hl : chain cell n = l
  have hlen : l.length ≤ 9 ∧ ∀ (i : Nat) p, l[i]? = some p → good n cell n = true ∧ (i : Int) ≤ n ∧ p = ((i : Int), cell.fdiv (2 ^ (n - i).toNat)) := by
    subst hl
    unfold chain
    split
    · rename_i hg
      obtain ⟨h1, h2, h3, h4, h5, h6⟩ := good_iff.1 hg
      refine ⟨by simp [chainI]; omega, fun i p h => ⟨hg, ?_, ?_⟩⟩
      · have := (List.getElem?_eq_some_iff.1 h).1
        simp [chainI] at this
        omega
      · simp only [chainI, List.getElem?_map, Option.map_eq_some_iff] at h
        obtain ⟨j, hj, rfl⟩ := h
        have := List.getElem?_eq_some_iff.1 hj
        simp at this
        rw [this.2]
    · exact ⟨by simp, fun i p h => by simp at h⟩
  refine W.loop (fun k fr σ => ∃ i : Nat, fr = [(0, .d (nI cell)), (1, .d (nI n)), (5, slI l), (13, slI l), (14, .d (nI l.length)), (15, .d (nI i))] ∧ σ = [] ∧ i ≤ l.length ∧ k = l.length - i) l.length
    (Start.of [0, 1, 5, 13, 14, 15] [] (by simp)) ⟨0, rfl, rfl, by omega, rfl⟩ ?_
  rintro k fr σ ⟨i, rfl, rfl, hi, rfl⟩
  refine W.ite (fun h => ?_) (fun h => ?_)
  · have hlt : i < l.length := by have : (i : Int) < l.length := (by simpa using h); omega
    obtain ⟨p, hp⟩ : ∃ p, l[i]? = some p := ⟨_, List.getElem?_eq_getElem hlt⟩
    obtain ⟨hg, hin, rfl⟩ := hlen.2 i p hp
    obtain ⟨r1, r2⟩ := ivs_rd l i _ hp
    obtain ⟨c1, c2, c3⟩ := chain_has hg hin
    refine W.need ?_ ?_
    · exact ⟨by omega, by omega, ivs_ne hlt⟩
    refine W.need ?_ ?_
    · exact ivs_load hp
    refine W.pure (ok11 _ _ _) rfl rfl ?_
    have hL : (rdD (ivs l) (i * 2)).toI = i := by rw [r1]; rfl
    have hY : (rdD (ivs l) (i * 2 + 1)).toI = cell.fdiv (2 ^ (n - i).toNat) := by rw [r2]; rfl
    have hC : cells (rdD (ivs l) (i * 2)).toI (rdD (ivs l) (i * 2 + 1)).toI n = (cell.fdiv (2 ^ (n - i).toNat) * 2 ^ (n - i).toNat, (cell.fdiv (2 ^ (n - i).toNat) + 1) * 2 ^ (n - i).toNat - 1) := by
      rw [hL, hY, cells, if_pos c1]
    obtain ⟨g1, g2, g3, g4, g5, g6⟩ := good_iff.1 c1
    generalize cell.fdiv (2 ^ (n - i).toNat) = y at *
    have hp1 := pow2_le (k := (n - i).toNat) (by omega)
    have hb := pow2_mul (a := (i : Int).toNat) (b := (n - i).toNat) (by omega) g5 (by omega)
    have hb' := pow2_mul (a := (i : Int).toNat) (b := (n - i).toNat) (by omega) (i := y + 1) (by omega) (by omega)
    have e1 : IntKind.i64.wrap (n - i) = n - i := wrap64 (by omega) (by omega)
    have d0 : ((rdD (ivs l) (i * 2)).toI != (i : Int)) = false := by rw [hL]; simp
    have d1 : decide (cell < (cells (rdD (ivs l) (i * 2)).toI (rdD (ivs l) (i * 2 + 1)).toI n).1) = false := by rw [hC]; exact decide_eq_false (by simp only; omega)
    have d2 : decide (cell > (cells (rdD (ivs l) (i * 2)).toI (rdD (ivs l) (i * 2 + 1)).toI n).2) = false := by rw [hC]; exact decide_eq_false (by simp only; omega)
    have d3 : (IntKind.i64.wrap (IntKind.i64.wrap ((cells (rdD (ivs l) (i * 2)).toI (rdD (ivs l) (i * 2 + 1)).toI n).2 - (cells (rdD (ivs l) (i * 2)).toI (rdD (ivs l) (i * 2 + 1)).toI n).1) + 1) != IntKind.i64.wrap (1 * 2 ^ min (IntKind.i64.wrap (n - i)).toNat IntKind.i64.bits)) = false := by
      rw [hC, e1, min64 (by omega), Int.one_mul]
      simp only
      have : (y + 1) * 2 ^ (n - ↑i).toNat = y * 2 ^ (n - ↑i).toNat + 2 ^ (n - ↑i).toNat := by rw [Int.add_mul, Int.one_mul]
      rw [wrap64 (n := _ - _) (by omega) (by omega), wrap64 (n := _ + 1) (by omega) (by omega), wrap64 (n := 2 ^ _) (by omega) (by omega)]
      exact bne_eq_false_iff_eq.2 (by omega)
    repeat (first | refine W.ite_t rfl ?_ | refine W.ite_f rfl ?_ | refine W.ite_f d0 ?_ | refine W.ite_f d1 ?_ | refine W.ite_f d2 ?_)
    refine W.need ?_ ?_
    · show 0 ≤ IntKind.i64.wrap (n - i)
      omega
    repeat (first | refine W.ite_t rfl ?_ | refine W.ite_f rfl ?_ | refine W.ite_f d0 ?_ | refine W.ite_f d1 ?_ | refine W.ite_f d2 ?_ | refine W.ite_f d3 ?_)
    refine W.ret ⟨_, _, _, ?_, Trim.of [0, 1, 5, 13, 14, 15] [] (by decide) (by simp) (by simp), i + 1, ?_, rfl, by omega, rfl⟩
    · omega
    · have : IntKind.i64.wrap ((i : Int) + 1) = ((i + 1 : Nat) : Int) := by rw [wrap64 (by omega) (by omega)]; rfl
      rw [← this]; rfl
  · refine W.ret ?_
    refine W.pure ok13 rfl rfl ?_
    have hlast : (((l.length : Int) == 0) = true) ∨ (((l.length : Int) == IntKind.i64.wrap (n + 1)) = true) := by
      subst hl
      unfold chain
      split
      · rename_i hg
        obtain ⟨h1, h2, h3, h4, h5, h6⟩ := good_iff.1 hg
        right
        rw [wrap64 (by omega) (by omega)]
        simp [chainI]
        omega
      · left; rfl
    repeat (first | refine W.ite_t rfl ?_ | refine W.ite_f rfl ?_)
    refine W.ite (fun h0 => ?_) (fun h0 => ?_)
    · repeat (first | refine W.ite_t rfl ?_ | refine W.ite_f rfl ?_ | refine W.ite_t h0 ?_)
      exact W.ret (RetQ.pure rfl rfl)
    · have hlast := hlast.resolve_left (by rw [h0]; decide)
      repeat (first | refine W.ite_t rfl ?_ | refine W.ite_f rfl ?_ | refine W.ite_f h0 ?_)
      refine W.ret (RetQ.pure rfl ?_)
      exact ret_bI hlast
end Go.Proofs.Ytllcjdijkmancaa.Dy
