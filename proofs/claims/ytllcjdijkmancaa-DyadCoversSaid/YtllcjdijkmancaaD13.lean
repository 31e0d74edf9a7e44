import Derived.Test.YtllcjdijkmancaaD12
set_option maxRecDepth 100000
set_option linter.unusedVariables false
set_option linter.unusedSimpArgs false
namespace Go.Proofs.Ytllcjdijkmancaa.Dy
open Go Go.Am
def od17 : Ords := [(6, [0, 1, 2, 3, 4, 5, 6, 7, 8])]
theorem code17 : codeB Try.f17.ntmps od17 (match Try.f17.body with | some c => c | none => .skip) = true := by kernel_rfl
theorem ok17 (l : List (Int × Int)) (hl : l.length ≤ 1000) : Go.Am.Pure Try.prog 17 [slI l, slI l] (bI true) := by
  refine CallOk.of tysOk mixed od17 Try.func17 rfl rfl code17 ?_
  have d0 : ((l.length : Int) != (l.length : Int)) = false := by simp
  refine W.ite_f d0 ?_
  refine W.loop (fun k fr σ => ∃ i : Nat, fr = [(0, slI l), (1, slI l), (12, .d (nI l.length)), (13, .d (nI i))] ∧ σ = [] ∧ i ≤ l.length ∧ k = l.length - i) l.length
    (Start.of [0, 1, 12, 13] [] (by simp)) ⟨0, rfl, rfl, by omega, rfl⟩ ?_
  rintro k fr σ ⟨i, rfl, rfl, hi, rfl⟩
  refine W.ite (fun h => ?_) (fun h => ?_)
  · have hlt : i < l.length := by have : (i : Int) < l.length := (by simpa using h); omega
    obtain ⟨p, hp⟩ : ∃ p, l[i]? = some p := ⟨_, List.getElem?_eq_getElem hlt⟩
    refine W.need ?_ ?_
    · exact ⟨by omega, by omega, ivs_ne hlt⟩
    refine W.need ?_ ?_
    · exact ivs_load hp
    refine W.need ?_ ?_
    · exact ⟨by omega, by omega, ivs_ne hlt⟩
    refine W.need ?_ ?_
    · exact ivs_load hp
    have d1 : (!(((rdD (ivs l) (i * 2)).toI == (rdD (ivs l) (i * 2)).toI) && (((rdD (ivs l) (i * 2 + 1)).toI == (rdD (ivs l) (i * 2 + 1)).toI) && true))) = false := by simp
    refine W.ite_f d1 ?_
    refine W.ret ⟨_, _, _, ?_, Trim.of [0, 1, 12, 13] [] (by decide) (by simp) (by simp), i + 1, ?_, rfl, by omega, rfl⟩
    · omega
    · have g1 : IntKind.i64.wrap ((i : Int) + 1) = ((i + 1 : Nat) : Int) := by rw [wrap64 (by omega) (by omega)]; rfl
      rw [← g1]; rfl
  · refine W.ret (W.ret ?_)
    exact RetQ.pure rfl rfl
end Go.Proofs.Ytllcjdijkmancaa.Dy
