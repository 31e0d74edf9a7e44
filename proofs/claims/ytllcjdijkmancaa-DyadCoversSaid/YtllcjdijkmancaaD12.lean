import Derived.Test.YtllcjdijkmancaaD11
set_option maxRecDepth 100000
set_option linter.unusedVariables false
set_option linter.unusedSimpArgs false
namespace Go.Proofs.Ytllcjdijkmancaa.Dy
open Go Go.Am
theorem code18 : codeB Try.f18.ntmps [] (match Try.f18.body with | some c => c | none => .skip) = true := by kernel_rfl
theorem ok18 (l : List (Int × Int)) (hl : l.length ≤ 1000) : Go.Am.Pure Try.prog 18 [slI l] (slI l) := by
  refine CallOk.soft (CallOk.of tysOk mixed [] Try.func18 rfl rfl code18 ?_)
  refine W.loop (fun k fr σ => ∃ i : Nat, fr = [(0, slI l), (3, .vec 0 i), (7, slI l), (8, .d (nI l.length)), (9, .d (nI i))] ∧ σ = [.vec 2 i (ivs (l.take i))] ∧ i ≤ l.length ∧ k = l.length - i) l.length
    (Start.of [0, 3, 7, 8, 9] [] (by simp)) ⟨0, rfl, rfl, by omega, rfl⟩ ?_
  rintro k fr σ ⟨i, rfl, rfl, hi, rfl⟩
  refine W.ite (fun h => ?_) (fun h => ?_)
  · have hlt : i < l.length := by have : (i : Int) < l.length := (by simpa using h); omega
    obtain ⟨p, hp⟩ : ∃ p, l[i]? = some p := ⟨_, List.getElem?_eq_getElem hlt⟩
    obtain ⟨e1, e2⟩ := ivs_toI hp
    refine W.need ?_ ?_
    · exact ⟨by omega, by omega, ivs_ne hlt⟩
    refine W.need ?_ ?_
    · exact ivs_load hp
    refine W.alt_l ?_
    refine W.need ⟨rfl, rfl, rfl, by omega, by omega, by intro c hc; simp at hc; rcases hc with rfl | rfl <;> rfl⟩ ?_
    refine W.ret ⟨_, _, _, ?_, Trim.of [0, 3, 7, 8, 9] [0] (by decide) (by simp) (by simp), i + 1, ?_, ?_, by omega, rfl⟩
    · omega
    · have g1 : IntKind.i64.wrap ((i : Int) + 1) = ((i + 1 : Nat) : Int) := by rw [wrap64 (by omega) (by omega)]; rfl
      rw [← g1]; rfl
    · have : l.take (i + 1) = l.take i ++ [p] := by rw [List.take_add_one, hp]; rfl
      rw [this, ivs_append]
      show [Blk.vec 2 (i + 1) (ivs (l.take i) ++ [nI (rdD (ivs l) (i * 2)).toI, nI (rdD (ivs l) (i * 2 + 1)).toI])] = _
      rw [e1, e2]
      rfl
  · have hlast : i = l.length := by have : ¬ (i : Int) < l.length := (by simpa using h); omega
    subst hlast
    refine W.ret (W.ret (RetQ.row (cs := ivs (l.take l.length)) rfl ?_))
    rw [List.take_length, List.take_of_length_le (by rw [ivs_length]; omega)]
    rfl
end Go.Proofs.Ytllcjdijkmancaa.Dy
