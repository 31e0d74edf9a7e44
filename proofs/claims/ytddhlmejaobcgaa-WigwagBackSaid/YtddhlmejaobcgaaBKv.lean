import Derived.Test.YtddhlmejaobcgaaBKw
import Derived.Test.YtddhlmejaobcgaaAm19
import Derived.Test.YtddhlmejaobcgaaChecked
set_option maxRecDepth 100000
set_option linter.unusedVariables false
set_option linter.unusedSimpArgs false
/- The statement's parameters. -/
namespace Go.Proofs.Ytddhlmejaobcgaa.Bk
open Go Go.Am Co
theorem own : ownKnob Try.prog.godebug = none := by kernel_rfl
theorem laid : laidOutB Try.prog = true := by kernel_rfl
theorem wfU {m : Int} (h : (Lit.int .u64 m).wf = true) : rgP m := by
  simp only [Lit.wf, Bool.and_eq_true, decide_eq_true_eq] at h
  have e1 : IntKind.u64.min = 0 := by decide
  have e2 : IntKind.u64.max = 18446744073709551615 := by decide
  rw [e1, e2] at h
  unfold rgP
  omega
theorem tc_id {n : Nat} {cs : List D} (h : TC Try.prog (n + 1) 56 cs) : ∃ m, cs = [idD m] ∧ rgP m := by
  unfold TC at h
  rw [Try.underlying56] at h
  obtain ⟨m, rfl, hm⟩ := h
  exact ⟨m, rfl, wfU hm⟩
theorem tc_int {n : Nat} {cs : List D} (h : TC Try.prog (n + 1) 3 cs) : ∃ m, cs = [nI m] := by
  unfold TC at h
  rw [Try.underlying3] at h
  obtain ⟨m, rfl, _⟩ := h
  exact ⟨m, rfl⟩
theorem tc_ids {n : Nat} {cs : List D} (h : TC Try.prog (n + 2) 54 cs) : ∃ l : List Int, cs = [.sl l.length (flat Pu.eC l)] ∧ ∀ y ∈ l, rgP y := by
  unfold TC at h
  rw [Try.underlying54] at h
  rcases h with rfl | ⟨parts, rfl, hlen, hp⟩
  · exact ⟨[], rfl, by simp⟩
  · clear hlen
    suffices ∃ l : List Int, l.length = parts.length ∧ flat Pu.eC l = parts.flatten ∧ ∀ y ∈ l, rgP y by
      obtain ⟨l, h1, h2, h3⟩ := this
      exact ⟨l, by rw [h1, h2], h3⟩
    induction parts with
    | nil => exact ⟨[], rfl, rfl, by simp⟩
    | cons p r ih =>
      obtain ⟨l, h1, h2, h3⟩ := ih fun q hq => hp q (by simp [hq])
      obtain ⟨a, rfl, ha⟩ := tc_id (hp p (by simp))
      exact ⟨a :: l, by simp [h1], by simp [flat, h2, Pu.eC], fun y hy => by
        rcases List.mem_cons.1 hy with rfl | hy
        · exact ha
        · exact h3 y hy⟩
theorem tc_ints {n : Nat} {cs : List D} (h : TC Try.prog (n + 2) 70 cs) : ∃ l : List Int, cs = [.sl l.length (flat Pi.eC l)] := by
  unfold TC at h
  rw [Try.underlying70] at h
  rcases h with rfl | ⟨parts, rfl, hlen, hp⟩
  · exact ⟨[], rfl⟩
  · clear hlen
    suffices ∃ l : List Int, l.length = parts.length ∧ flat Pi.eC l = parts.flatten by
      obtain ⟨l, h1, h2⟩ := this
      exact ⟨l, by rw [h1, h2]⟩
    induction parts with
    | nil => exact ⟨[], rfl, rfl⟩
    | cons p r ih =>
      obtain ⟨l, h1, h2⟩ := ih fun q hq => hp q (by simp [hq])
      obtain ⟨a, rfl⟩ := tc_int (hp p (by simp))
      exact ⟨a :: l, by simp [h1], by show Pi.uD a :: flat Pi.eC l = _; rw [h2]; rfl⟩
theorem arg_int (m : Int) : argD Try.prog 3 [nI m] = nI m := by unfold argD; rw [Try.underlying3]
theorem arg_ids (n : Nat) (cs : List D) : argD Try.prog 54 [.sl n cs] = .sl n cs := by unfold argD; rw [Try.underlying54]
theorem arg_ints (n : Nat) (cs : List D) : argD Try.prog 70 [.sl n cs] = .sl n cs := by unfold argD; rw [Try.underlying70]
theorem row5 (places via : List Int) (rounds : Int) (hp : ∀ y ∈ places, rgP y) : CallOk Try.prog 5 [.d (.sl places.length (flat Pu.eC places)), .d (.sl via.length (flat Pi.eC via)), .d (nI rounds)] [] (fun v s => v = bI true) :=
  CallOk.heap rfl (ok5 places via rounds hp)
end Go.Proofs.Ytddhlmejaobcgaa.Bk
