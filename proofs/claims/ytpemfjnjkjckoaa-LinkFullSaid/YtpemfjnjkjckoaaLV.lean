import Derived.Test.YtpemfjnjkjckoaaLW
import Derived.Test.YtpemfjnjkjckoaaLF
import Derived.Test.YtpemfjnjkjckoaaLQ
import Derived.Test.YtpemfjnjkjckoaaAm19
import Derived.Test.YtpemfjnjkjckoaaChecked
set_option maxRecDepth 100000
set_option linter.unusedVariables false
set_option linter.unusedSimpArgs false
/- Layer 4: the laws' parameters. -/
namespace Go.Proofs.Ytpemfjnjkjckoaa.Lv
open Go Go.Am Co Lk
theorem own : ownKnob Try.prog.godebug = none := by kernel_rfl
theorem laid : laidOutB Try.prog = true := by kernel_rfl
/-- An int. -/
abbrev R64 := { m : Int // -9223372036854775808 ≤ m ∧ m < 9223372036854775808 }
theorem wf64 {m : Int} (h : (Lit.int .i64 m).wf = true) : -9223372036854775808 ≤ m ∧ m < 9223372036854775808 := by
  have h : (decide (IntKind.i64.min ≤ m) && decide (m ≤ IntKind.i64.max)) = true := h
  simp only [Bool.and_eq_true, decide_eq_true_eq] at h
  have e1 : IntKind.i64.min = -9223372036854775808 := by decide
  have e2 : IntKind.i64.max = 9223372036854775807 := by decide
  rw [e1, e2] at h
  omega
theorem tc_int {n : Nat} {cs : List D} (h : TC Try.prog (n + 1) 3 cs) : ∃ m : R64, cs = [nI m.1] := by
  unfold TC at h
  rw [Try.underlying3] at h
  obtain ⟨m, rfl, hm⟩ := h
  exact ⟨⟨m, wf64 hm⟩, rfl⟩
theorem tc_str {n : Nat} {cs : List D} (h : TC Try.prog (n + 1) 9 cs) : ∃ m, cs = [sD m] := by
  unfold TC at h
  rw [Try.underlying9] at h
  obtain ⟨m, rfl, _⟩ := h
  exact ⟨m, rfl⟩
theorem tc_strs {n : Nat} {cs : List D} (h : TC Try.prog (n + 2) 22 cs) : ∃ l : List ByteArray, cs = [.sl l.length (flat sC l)] := by
  unfold TC at h
  rw [Try.underlying22] at h
  rcases h with rfl | ⟨parts, rfl, hlen, hp⟩
  · exact ⟨[], rfl⟩
  · clear hlen
    suffices ∃ l : List ByteArray, l.length = parts.length ∧ flat sC l = parts.flatten by
      obtain ⟨l, h1, h2⟩ := this
      exact ⟨l, by rw [h1, h2]⟩
    induction parts with
    | nil => exact ⟨[], rfl, rfl⟩
    | cons p r ih =>
      obtain ⟨l, h1, h2⟩ := ih fun q hq => hp q (by simp [hq])
      obtain ⟨a, rfl⟩ := tc_str (hp p (by simp))
      exact ⟨a :: l, by simp [h1], by simp [flat, sC, h2]⟩
theorem arg_int (m : Int) : argD Try.prog 3 [nI m] = nI m := by unfold argD; rw [Try.underlying3]
theorem arg_str (m : ByteArray) : argD Try.prog 9 [sD m] = sD m := by unfold argD; rw [Try.underlying9]
theorem arg_strs (n : Nat) (cs : List D) : argD Try.prog 22 [.sl n cs] = .sl n cs := by unfold argD; rw [Try.underlying22]
theorem ok3 (a b : List ByteArray) : Go.Am.Pure Try.prog 3 [slS a, slS b] (bI true) := Lk.ok3 a b
theorem ok4 (a : List ByteArray) : Go.Am.Pure Try.prog 4 [slS a] (bI true) := Lk.ok4 a
theorem ok5 (a : ByteArray) : Go.Am.Pure Try.prog 5 [.d (sD a)] (bI true) := Lk.ok5 a
theorem ok6 (a b : R64) : Go.Am.Pure Try.prog 6 [.d (nI a.1), .d (nI b.1)] (bI true) := Lk.ok6 a.1 b.1 a.2 b.2
theorem ok7 (a : R64) : Go.Am.Pure Try.prog 7 [.d (nI a.1)] (bI true) := Lk.ok7 a.1 a.2
end Go.Proofs.Ytpemfjnjkjckoaa.Lv
