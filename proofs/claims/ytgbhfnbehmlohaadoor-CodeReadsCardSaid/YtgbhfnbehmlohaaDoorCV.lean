import Derived.Test.YtgbhfnbehmlohaaDoorCH
import Derived.Test.YtgbhfnbehmlohaaDoorAm19
import Derived.Test.YtgbhfnbehmlohaaDoorChecked
set_option maxRecDepth 100000
set_option linter.unusedVariables false
set_option linter.unusedSimpArgs false
namespace Go.Proofs.YtgbhfnbehmlohaaDoor.Cv
open Go Go.Am Co
theorem own : ownKnob Tryd.prog.godebug = none := by kernel_rfl
theorem laid : laidOutB Tryd.prog = true := by kernel_rfl
/-- An int. -/
abbrev R64 := { m : Int // -9223372036854775808 ≤ m ∧ m < 9223372036854775808 }
theorem wf64 {m : Int} (h : (Lit.int .i64 m).wf = true) : -9223372036854775808 ≤ m ∧ m < 9223372036854775808 := by
  have h : (decide (IntKind.i64.min ≤ m) && decide (m ≤ IntKind.i64.max)) = true := h
  simp only [Bool.and_eq_true, decide_eq_true_eq] at h
  have e1 : IntKind.i64.min = -9223372036854775808 := by decide
  have e2 : IntKind.i64.max = 9223372036854775807 := by decide
  rw [e1, e2] at h
  omega
theorem wfU {m : Int} (h : (Lit.int .u64 m).wf = true) : 0 ≤ m ∧ m < 18446744073709551616 := by
  have h : (decide (IntKind.u64.min ≤ m) && decide (m ≤ IntKind.u64.max)) = true := h
  simp only [Bool.and_eq_true, decide_eq_true_eq] at h
  have e1 : IntKind.u64.min = 0 := by decide
  have e2 : IntKind.u64.max = 18446744073709551615 := by decide
  rw [e1, e2] at h
  omega
theorem tc_int {n : Nat} {cs : List D} (h : TC Tryd.prog (n + 1) 3 cs) : ∃ m : R64, cs = [nI m.1] := by
  unfold TC at h
  rw [Tryd.underlying3] at h
  obtain ⟨m, rfl, hm⟩ := h
  exact ⟨⟨m, wf64 hm⟩, rfl⟩
theorem tc_u {n : Nat} {cs : List D} (h : TC Tryd.prog (n + 1) 27 cs) : ∃ m : Nat, m < 18446744073709551616 ∧ cs = [uI m] := by
  unfold TC at h
  rw [Tryd.underlying27] at h
  obtain ⟨m, rfl, hm⟩ := h
  have := wfU hm
  refine ⟨m.toNat, by omega, ?_⟩
  rw [show uI m.toNat = .lit (.int .u64 ((m.toNat : Nat) : Int)) from rfl, Int.toNat_of_nonneg this.1]
theorem tc_str {n : Nat} {cs : List D} (h : TC Tryd.prog (n + 1) 9 cs) : ∃ m, cs = [sD m] := by
  unfold TC at h
  rw [Tryd.underlying9] at h
  obtain ⟨m, rfl, _⟩ := h
  exact ⟨m, rfl⟩
theorem arg_int (m : Int) : argD Tryd.prog 3 [nI m] = nI m := by unfold argD; rw [Tryd.underlying3]
theorem arg_str (m : ByteArray) : argD Tryd.prog 9 [sD m] = sD m := by unfold argD; rw [Tryd.underlying9]
theorem tc_th {n : Nat} {cs : List D} (h : TC Tryd.prog (n + 2) 29 cs) : ∃ t : Th, t.ok ∧ cs = thC t := by
  unfold TC at h
  rw [Tryd.underlying29] at h
  obtain ⟨parts, rfl, hp⟩ := h
  obtain ⟨a, r, rfl, h1, hp⟩ := all2_cons hp
  obtain ⟨b, r, rfl, h2, hp⟩ := all2_cons hp
  obtain ⟨c, r, rfl, h3, hp⟩ := all2_cons hp
  obtain ⟨d, r, rfl, h4, hp⟩ := all2_cons hp
  obtain rfl := all2_nil hp
  obtain ⟨a, rfl⟩ := tc_int h1
  obtain ⟨b, rfl⟩ := tc_int h2
  obtain ⟨c, hc, rfl⟩ := tc_u h3
  obtain ⟨d, rfl⟩ := tc_str h4
  exact ⟨⟨a.1, b.1, c, d⟩, ⟨b.2.1, b.2.2, hc⟩, rfl⟩
theorem parts_flat {α : Type} {c : α → List D} {p : α → Prop} : ∀ {parts : List (List D)}, (∀ q ∈ parts, ∃ x, p x ∧ q = c x) → ∃ l : List α, (∀ x ∈ l, p x) ∧ l.length = parts.length ∧ flat c l = parts.flatten
  | [], _ => ⟨[], by simp, rfl, rfl⟩
  | q :: r, h => by
    obtain ⟨l, h0, h1, h2⟩ := parts_flat (c := c) (p := p) (parts := r) fun q hq => h q (by simp [hq])
    obtain ⟨x, hx, rfl⟩ := h q (by simp)
    exact ⟨x :: l, by simpa using ⟨hx, h0⟩, by simp [h1], by simp [flat, h2]⟩
/-- Things that may come. -/
abbrev Ths := { l : List Th // ∀ t ∈ l, t.ok }
theorem tc_ths {n : Nat} {cs : List D} (h : TC Tryd.prog (n + 3) 22 cs) : ∃ l : Ths, cs = [.sl l.1.length (flat thC l.1)] := by
  unfold TC at h
  rw [Tryd.underlying22] at h
  rcases h with rfl | ⟨parts, rfl, hlen, hp⟩
  · exact ⟨⟨[], by simp⟩, rfl⟩
  · obtain ⟨l, h0, h1, h2⟩ := parts_flat (c := thC) (p := Th.ok) (parts := parts) fun q hq => tc_th (hp q hq)
    exact ⟨⟨l, h0⟩, by rw [h1, h2]⟩
theorem arg_ths (n : Nat) (cs : List D) : argD Tryd.prog 22 [.sl n cs] = .sl n cs := by unfold argD; rw [Tryd.underlying22]
theorem ok4 (s : ByteArray) (m : R64) : Go.Am.Pure Tryd.prog 4 [.d (sD s), .d (nI m.1)] (bI true) := Co.ok4 s m.1 m.2.2
theorem ok6 (s : ByteArray) (l : Ths) : Go.Am.Pure Tryd.prog 6 [.d (sD s), slF thC l.1] (bI true) := Co.ok6 s l.1 l.2
theorem ok3 (l : Ths) (c : R64) : Go.Am.Pure Tryd.prog 3 [slF thC l.1, .d (nI c.1)] (bI true) := Co.ok3 l.1 l.2 c.1
theorem ok5 (s : ByteArray) (l : Ths) : Go.Am.Pure Tryd.prog 5 [.d (sD s), slF thC l.1] (bI true) := Co.ok5 s l.1 l.2
end Go.Proofs.YtgbhfnbehmlohaaDoor.Cv
