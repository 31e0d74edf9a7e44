import Derived.Test.YtllcjdijkmancaaD15
set_option maxRecDepth 100000
set_option linter.unusedVariables false
set_option linter.unusedSimpArgs false
namespace Go.Proofs.Ytllcjdijkmancaa.Dy
open Go Go.Am
theorem code22 : codeB Try.f22.ntmps [] (match Try.f22.body with | some c => c | none => .skip) = true := by kernel_rfl
def refCover (lo hi n : Int) : List (Int × Int) := if lo ≤ hi ∧ good n lo n = true ∧ good n hi n = true then refC lo hi n (n.toNat + 1) 0 0 else []
theorem ok22 (lo hi n : Int) : Go.Am.Pure Try.prog 22 [.d (nI lo), .d (nI hi), .d (nI n)] (slI (refCover lo hi n)) := by
  refine CallOk.soft (CallOk.of tysOk mixed [] Try.func22 rfl rfl code22 ?_)
  have nil : ¬ (lo ≤ hi ∧ good n lo n = true ∧ good n hi n = true) → RetQ ([] : Store).length (fun v s => v.soft = slI (refCover lo hi n) ∧ s = []) .ret [(0, .vec 0 0)] [.vec 2 0 []] := fun h => by
    simp only [refCover, h, if_false]
    exact RetQ.row (cs := []) rfl rfl
  refine W.ite (fun h => ?_) (fun h => ?_)
  · repeat (first | refine W.ite_t rfl ?_ | refine W.ite_f rfl ?_ | refine W.ite_t h ?_)
    refine W.ret (nil ?_)
    have := of_decide_eq_true h
    omega
  have hlh : ¬ lo > hi := of_decide_eq_false h
  repeat (first | refine W.ite_t rfl ?_ | refine W.ite_f rfl ?_ | refine W.ite_f h ?_)
  refine W.pure (ok12 n lo n) rfl rfl ?_
  repeat (first | refine W.ite_t rfl ?_ | refine W.ite_f rfl ?_ | refine W.ite_f h ?_)
  refine W.ite (fun h1 => ?_) (fun h1 => ?_)
  · repeat (first | refine W.ite_t rfl ?_ | refine W.ite_f rfl ?_ | refine W.ite_t h1 ?_)
    refine W.ret (nil ?_)
    have : good n lo n = false := by simpa using h1
    simp [this]
  have hg1 : good n lo n = true := by simpa using h1
  repeat (first | refine W.ite_t rfl ?_ | refine W.ite_f rfl ?_ | refine W.ite_f h ?_ | refine W.ite_f h1 ?_)
  refine W.pure (ok12 n hi n) rfl rfl ?_
  repeat (first | refine W.ite_t rfl ?_ | refine W.ite_f rfl ?_ | refine W.ite_f h ?_ | refine W.ite_f h1 ?_)
  refine W.ite (fun h2 => ?_) (fun h2 => ?_)
  · refine W.ret (nil ?_)
    have : good n hi n = false := by simpa using h2
    simp [this]
  have hg2 : good n hi n = true := by simpa using h2
  obtain ⟨a1, a2, a3, a4, a5, a6⟩ := good_iff.1 hg1
  obtain ⟨b1, b2, b3, b4, b5, b6⟩ := good_iff.1 hg2
  have hp := pow2_le (k := n.toNat) (by omega)
  have key := ok34 lo hi n a5 (by omega) a1 a2 (n.toNat + 1) 0 0 (by omega) (by omega) (by omega) (by omega) (by omega) (by decide)
  have hcov : refCover lo hi n = refC lo hi n (n.toNat + 1) 0 0 := by
    simp only [refCover, hg1, hg2, and_self, and_true]
    rw [if_pos (by omega)]
  rw [hcov]
  generalize refC lo hi n (n.toNat + 1) 0 0 = L at *
  refine W.call [] (by decide) (by simp) (by simp) rfl rfl key ?_
  rintro v s ⟨rfl, rfl⟩
  refine W.ret ?_
  refine RetQ.row (cs := ivs L) (sz := 2) (m := L.length) rfl ?_
  rw [ivs_take]
  rfl
end Go.Proofs.Ytllcjdijkmancaa.Dy
