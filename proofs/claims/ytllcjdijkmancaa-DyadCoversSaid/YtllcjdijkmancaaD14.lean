import Derived.Test.YtllcjdijkmancaaD13
set_option maxRecDepth 100000
set_option linter.unusedVariables false
set_option linter.unusedSimpArgs false
namespace Go.Proofs.Ytllcjdijkmancaa.Dy
open Go Go.Am
theorem code20 : codeB Try.f20.ntmps [] (match Try.f20.body with | some c => c | none => .skip) = true := by kernel_rfl
/-- Level L's interval of the chain, if i has passed it. -/
def passed (cell n : Int) (L i : Nat) : List (Int × Int) := if cell.fdiv (2 ^ (n - L).toNat) < i then [((L : Int), cell.fdiv (2 ^ (n - L).toNat))] else []
theorem ok20 (cell n : Int) : Go.Am.Pure Try.prog 20 [.d (nI cell), .d (nI n)] (slI (chain cell n)) := by
  refine CallOk.soft (CallOk.of tysOk mixed [] Try.func20 rfl rfl code20 ?_)
  refine W.pure (ok12 n cell n) rfl rfl ?_
  refine W.ite (fun h => ?_) (fun h => ?_)
  · have hg : good n cell n = false := by simpa using h
    refine W.ret (RetQ.row (cs := []) rfl ?_)
    simp [chain, hg]
    rfl
  have hg : good n cell n = true := by simpa using h
  obtain ⟨h1, h2, h3, h4, h5, h6⟩ := good_iff.1 hg
  have hpn := pow2_le (k := n.toNat) (by omega)
  refine W.loop (fun k fr σ => ∃ L : Nat, fr = [(0, .d (nI cell)), (1, .d (nI n)), (5, .vec 0 (chainI cell n L).length), (6, .d (nI L))] ∧ σ = [.vec 2 (chainI cell n L).length (ivs (chainI cell n L))] ∧ (L : Int) ≤ n + 1 ∧ k = (n + 1 - L).toNat) (n + 1).toNat
    (Start.of [0, 1, 5, 6] [] (by simp)) ⟨0, rfl, rfl, by omega, by simp⟩ ?_
  rintro k fr σ ⟨L, rfl, rfl, hL, rfl⟩
  refine W.ite (fun h => ?_) (fun h => ?_)
  · have hle : (L : Int) ≤ n := by simpa using h
    have hp := pow2N (k := L) (by omega)
    obtain ⟨c1, c2, c3⟩ := chain_has hg hle
    obtain ⟨g1, g2, g3, g4, g5, g6⟩ := good_iff.1 c1
    have e2 : (2 : Int) ^ ((L : Int)).toNat = ((2 ^ L : Nat) : Int) := by simp
    have hcl : (chainI cell n L).length = L := by simp [chainI]
    generalize hY : cell.fdiv (2 ^ (n - L).toNat) = Y at *
    have hpass : ∀ i : Nat, passed cell n L i = if Y < i then [((L : Int), Y)] else [] := fun i => by unfold passed; rw [hY]
    refine W.loop (fun k fr σ => ∃ i : Nat, fr = [(0, .d (nI cell)), (1, .d (nI n)), (5, .vec 0 (chainI cell n L ++ passed cell n L i).length), (6, .d (nI L)), (7, .d (nI i))] ∧ σ = [.vec 2 (chainI cell n L ++ passed cell n L i).length (ivs (chainI cell n L ++ passed cell n L i))] ∧ i ≤ 2 ^ L ∧ k = 2 ^ L - i) (2 ^ L)
      (Start.of [0, 1, 5, 6, 7] [] (by simp)) ⟨0, ?_, ?_, by omega, rfl⟩ ?_
    · rw [hpass, if_neg (by omega), List.append_nil]; rfl
    · rw [hpass, if_neg (by omega), List.append_nil]; rfl
    rintro k fr σ ⟨i, rfl, rfl, hi, rfl⟩
    have q1 : IntKind.i64.wrap ((i : Int) + 1) = ((i + 1 : Nat) : Int) := by rw [wrap64 (by omega) (by omega)]; rfl
    generalize hA : chainI cell n L ++ passed cell n L i = A
    have hAl : A.length ≤ L + 1 := by
      rw [← hA, List.length_append, hcl, hpass]
      split <;> simp
    refine W.pure (ok16 L (by omega) (by omega)) rfl rfl ?_
    refine W.ite (fun h => ?_) (fun h => ?_)
    · have hlt : i < 2 ^ L := by
        have : (i : Int) < 2 ^ ((L : Int)).toNat := by simpa using h
        omega
      have hc62 : cell < 9223372036854775808 := by omega
      refine W.pure (ok15 L i cell n (by omega) (by omega) h5 hc62) rfl rfl ?_
      have hY' : cell / 2 ^ (n - L).toNat = Y := by rw [← hY, fdiv_two]
      refine W.ite (fun hq => ?_) (fun hq => ?_)
      · have hYi : Y = i := by rw [hY'] at hq; simpa using hq
        refine W.alt_l ?_
        refine W.need ⟨rfl, rfl, rfl, ?_, ?_, by intro c hc; simp at hc; rcases hc with rfl | rfl <;> rfl⟩ ?_
        · omega
        · omega
        have hsucc : chainI cell n L ++ passed cell n L (i + 1) = A ++ [((L : Int), (i : Int))] := by
          rw [← hA, hpass, hpass, if_pos (by omega), if_neg (by omega), List.append_nil, hYi]
        refine W.ret ⟨_, _, _, ?_, Trim.of [0, 1, 5, 6, 7] [0] (by decide) (by simp) (by simp), i + 1, ?_, ?_, by omega, rfl⟩
        · omega
        · rw [hsucc, List.length_append, ← q1]; rfl
        · rw [hsucc, List.length_append, ivs_append]; rfl
      · have hYi : Y ≠ i := by rw [hY'] at hq; simpa using hq
        have hsucc : passed cell n L (i + 1) = passed cell n L i := by
          rw [hpass, hpass]
          by_cases hh : Y < i
          · rw [if_pos hh, if_pos (by omega)]
          · rw [if_neg hh, if_neg (by omega)]
        refine W.ret ⟨_, _, _, ?_, Trim.of [0, 1, 5, 6, 7] [0] (by decide) (by simp) (by simp), i + 1, ?_, ?_, by omega, rfl⟩
        · omega
        · rw [hsucc, hA, ← q1]; rfl
        · rw [hsucc, hA]; rfl
    · have hlast : i = 2 ^ L := by
        have : ¬ (i : Int) < 2 ^ ((L : Int)).toNat := (by simpa using h)
        omega
      subst hlast
      have hsucc : chainI cell n (L + 1) = A := by
        rw [← hA, hpass, if_pos (by omega), chainI, List.range_succ, List.map_append, ← hY]; rfl
      refine W.ret (W.ret ⟨_, _, _, ?_, Trim.of [0, 1, 5, 6] [0] (by decide) (by simp) (by simp), L + 1, ?_, ?_, by omega, rfl⟩)
      · omega
      · have q1 : IntKind.i64.wrap ((L : Int) + 1) = ((L + 1 : Nat) : Int) := by rw [wrap64 (by omega) (by omega)]; rfl
        rw [hsucc, ← q1]; rfl
      · rw [hsucc]; rfl
  · have hlast : (L : Int) = n + 1 := by have : ¬ (L : Int) ≤ n := (by simpa using h); omega
    refine W.ret (W.ret (RetQ.row (cs := ivs (chainI cell n L)) rfl ?_))
    have : (n + 1).toNat = L := by omega
    rw [List.take_of_length_le (by rw [ivs_length]; omega)]
    simp [chain, hg, slI, this]
end Go.Proofs.Ytllcjdijkmancaa.Dy
