import Derived.Test.YtddhlmejaobcgaaWPl
import Derived.Test.YtddhlmejaobcgaaAm19
import Derived.Test.YtddhlmejaobcgaaChecked
set_option maxRecDepth 100000
set_option linter.unusedVariables false
set_option linter.unusedSimpArgs false
/- The statements' parameters. -/
namespace Go.Proofs.Ytddhlmejaobcgaa.Pu
open Go Go.Am
theorem own : ownKnob Try.prog.godebug = none := by kernel_rfl
theorem laid : laidOutB Try.prog = true := by kernel_rfl
theorem wfU {m : Int} (h : (Lit.int .u64 m).wf = true) : 0 ≤ m ∧ m < 18446744073709551616 := by
  simp only [Lit.wf, Bool.and_eq_true, decide_eq_true_eq] at h
  have e1 : IntKind.u64.min = 0 := by decide
  have e2 : IntKind.u64.max = 18446744073709551615 := by decide
  rw [e1, e2] at h
  omega
theorem tc_id {n : Nat} {cs : List D} (h : TC Try.prog (n + 1) 56 cs) : ∃ m, cs = [uD m] ∧ 0 ≤ m ∧ m < 18446744073709551616 := by
  unfold TC at h
  rw [Try.underlying56] at h
  obtain ⟨m, rfl, hm⟩ := h
  exact ⟨m, rfl, wfU hm⟩
theorem tc_ids {n : Nat} {cs : List D} (h : TC Try.prog (n + 2) 54 cs) : ∃ l : List Int, cs = [.sl l.length (flat eC l)] ∧ ∀ y ∈ l, 0 ≤ y ∧ y < 18446744073709551616 := by
  unfold TC at h
  rw [Try.underlying54] at h
  rcases h with rfl | ⟨parts, rfl, hlen, hp⟩
  · exact ⟨[], rfl, by simp⟩
  · clear hlen
    suffices ∃ l : List Int, l.length = parts.length ∧ flat eC l = parts.flatten ∧ ∀ y ∈ l, 0 ≤ y ∧ y < 18446744073709551616 by
      obtain ⟨l, h1, h2, h3⟩ := this
      exact ⟨l, by rw [h1, h2], h3⟩
    induction parts with
    | nil => exact ⟨[], rfl, rfl, by simp⟩
    | cons p r ih =>
      obtain ⟨l, h1, h2, h3⟩ := ih fun q hq => hp q (by simp [hq])
      obtain ⟨a, rfl, ha⟩ := tc_id (hp p (by simp))
      exact ⟨a :: l, by simp [h1], by simp [flat, h2, eC], fun y hy => by
        rcases List.mem_cons.1 hy with rfl | hy
        · exact ha
        · exact h3 y hy⟩
theorem arg_id (m : Int) : argD Try.prog 56 [uD m] = uD m := by unfold argD; rw [Try.underlying56]
theorem arg_ids (n : Nat) (cs : List D) : argD Try.prog 54 [.sl n cs] = .sl n cs := by unfold argD; rw [Try.underlying54]
end Go.Proofs.Ytddhlmejaobcgaa.Pu
