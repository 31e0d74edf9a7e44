import Derived.Test.YtddhlmejaobcgaaDoorD1
set_option maxRecDepth 100000
set_option linter.unusedVariables false
set_option linter.unusedSimpArgs false
namespace Go.Proofs.YtddhlmejaobcgaaDoor.Dy
open Go Go.Am
def od25 : Ords := []
theorem code25 : codeB Tryd.f25.ntmps od25 (match Tryd.f25.body with | some c => c | none => .skip) = true := by kernel_rfl
/-- Intervals, as cells. -/
def ivs : List (Int × Int) → List D
  | [] => []
  | p :: r => nI p.1 :: nI p.2 :: ivs r
theorem ivs_append (a b : List (Int × Int)) : ivs (a ++ b) = ivs a ++ ivs b := by
  induction a with
  | nil => rfl
  | cons p r ih => simp [ivs, ih]
theorem ivs_length (a : List (Int × Int)) : (ivs a).length = 2 * a.length := by
  induction a with
  | nil => rfl
  | cons p r ih => simp [ivs, ih]; omega
def chainI (cell n : Int) (k : Nat) : List (Int × Int) := (List.range k).map fun (l : Nat) => ((l : Int), cell.fdiv (2 ^ (n - l).toNat))
def chain (cell n : Int) : List (Int × Int) := if good n cell n then chainI cell n (n + 1).toNat else []
def slI (l : List (Int × Int)) : AV := .d (.sl l.length (ivs l))
theorem ok25 (cell n : Int) : Pure Tryd.prog 25 [.d (nI cell), .d (nI n)] (slI (chain cell n)) := by
  refine CallOk.soft (CallOk.of tysOk mixed [] Tryd.func25 rfl rfl code25 ?_)
  refine W.pure (ok23 n cell n) rfl rfl ?_
  refine W.ite (fun h => ?_) (fun h => ?_)
  · refine W.ret (RetQ.soft rfl ?_)
    have : good n cell n = false := by simpa using h
    simp [chain, this]
    rfl
  · have hg : good n cell n = true := by simpa using h
    obtain ⟨h1, h2, h3, h4, h5, h6⟩ := good_iff.1 hg
    refine W.loop (fun k fr σ => ∃ j : Nat, fr = [(0, .d (nI cell)), (1, .d (nI n)), (6, .d (nI j)), (5, .vec 0 j)] ∧ σ = [.vec 2 j (ivs (chainI cell n j))] ∧ (j : Int) ≤ n + 1 ∧ k = (n + 1 - j).toNat) (n + 1).toNat
      (Start.of [0, 1, 6] [(5, 2)] (by simp; rfl)) ⟨0, rfl, rfl, by omega, by simp⟩ ?_
    rintro k fr σ ⟨j, rfl, rfl, hj, rfl⟩
    refine W.ite (fun h => ?_) (fun h => ?_)
    · have hlt : (j : Int) ≤ n := by simpa using h
      have e1 : IntKind.i64.wrap (n - j) = n - j := wrap64 (by omega) (by omega)
      have e2 : IntKind.i64.wrap ((j : Int) + 1) = ((j + 1 : Nat) : Int) := by rw [wrap64 (by omega) (by omega)]; rfl
      refine W.need (by rw [e1]; omega) ?_
      refine W.alt_l ?_
      refine W.need ⟨rfl, rfl, rfl, by omega, by omega, by intro c hc; simp at hc; rcases hc with rfl | rfl <;> rfl⟩ ?_
      refine W.ret ⟨(n + 1 - (j + 1 : Nat)).toNat, _, _, by omega, Trim.of [0, 1, 6, 5] [0] (by decide) (by simp) (by simp), j + 1, ?_, ?_, by omega, rfl⟩
      · rw [← e2]; rfl
      · have : ivs (chainI cell n (j + 1)) = ivs (chainI cell n j) ++ [nI j, nI (cell.fdiv (2 ^ (n - j).toNat))] := by
          rw [chainI, List.range_succ, List.map_append, ivs_append]
          rfl
        rw [this]
        show [Blk.vec 2 (j + 1) (ivs (chainI cell n j) ++ [nI j, nI (cell.fdiv (2 ^ min (IntKind.i64.wrap (n - j)).toNat IntKind.i64.bits))])] = _
        rw [e1, min64 (by omega)]
    · have hlt : (j : Int) = n + 1 := by have : ¬ (j : Int) ≤ n := by simpa using h
                                         omega
      refine W.ret (W.ret (RetQ.row (cs := ivs (chainI cell n j)) rfl ?_))
      have hl : (ivs (chainI cell n j)).take (j * 2) = ivs (chainI cell n j) := by
        rw [List.take_of_length_le]; rw [ivs_length]; simp [chainI]; omega
      have hj : (n + 1).toNat = j := by omega
      rw [hl]
      simp [chain, hg, slI, hj, chainI]
end Go.Proofs.YtddhlmejaobcgaaDoor.Dy
