import Derived.Test.YtllcjdijkmancaaD5
import Derived.Test.YtllcjdijkmancaaAm19
import Derived.Test.YtllcjdijkmancaaChecked
set_option maxRecDepth 100000
set_option linter.unusedVariables false
set_option linter.unusedSimpArgs false
namespace Go.Proofs.Ytllcjdijkmancaa.Dy
open Go Go.Am
theorem own : ownKnob Try.prog.godebug = none := by kernel_rfl
theorem laid : laidOutB Try.prog = true := by kernel_rfl
theorem tc_int {n : Nat} {cs : List D} (h : TC Try.prog (n + 1) 3 cs) : ∃ m, cs = [nI m] := by
  unfold TC at h
  rw [Try.underlying3] at h
  obtain ⟨m, rfl, _⟩ := h
  exact ⟨m, rfl⟩
theorem tc_iv {n : Nat} {cs : List D} (h : TC Try.prog (n + 2) 23 cs) : ∃ l i, cs = [nI l, nI i] := by
  unfold TC at h
  rw [Try.underlying23] at h
  obtain ⟨parts, rfl, hp⟩ := h
  obtain ⟨a, r, rfl, h1, hp⟩ := all2_cons hp
  obtain ⟨b, r, rfl, h2, hp⟩ := all2_cons hp
  obtain rfl := all2_nil hp
  obtain ⟨l, rfl⟩ := tc_int h1
  obtain ⟨i, rfl⟩ := tc_int h2
  exact ⟨l, i, rfl⟩
theorem arg_int (m : Int) : argD Try.prog 3 [nI m] = nI m := by unfold argD; rw [Try.underlying3]
theorem arg_iv (cs : List D) : argD Try.prog 23 cs = .agg cs := by unfold argD; rw [Try.underlying23]
end Go.Proofs.Ytllcjdijkmancaa.Dy
