import Derived.Test.YtkdibdlbigmkcaaDoorMW
import Derived.Test.YtkdibdlbigmkcaaDoorAm19
import Derived.Test.YtkdibdlbigmkcaaDoorChecked
set_option maxRecDepth 100000
set_option linter.unusedVariables false
set_option linter.unusedSimpArgs false
/- Layer 15: the laws' parameters. -/
namespace Go.Proofs.YtkdibdlbigmkcaaDoor.Mv
open Go Go.Am Co Ms
/-- An int. -/
abbrev N64 := { m : Int // R64 m }
/-- A byte. -/
abbrev N8 := { m : Int // 0 ≤ m ∧ m < 256 }
/-- A message that may come. -/
abbrev Mh := { m : Mg // m.num }
theorem wf64 {m : Int} (h : (Lit.int .i64 m).wf = true) : R64 m := by
  have h : (decide (IntKind.i64.min ≤ m) && decide (m ≤ IntKind.i64.max)) = true := h
  simp only [Bool.and_eq_true, decide_eq_true_eq] at h
  have e1 : IntKind.i64.min = -9223372036854775808 := by decide
  have e2 : IntKind.i64.max = 9223372036854775807 := by decide
  rw [e1, e2] at h
  unfold R64
  omega
theorem wf8 {m : Int} (h : (Lit.int .u8 m).wf = true) : 0 ≤ m ∧ m < 256 := by
  have h : (decide (IntKind.u8.min ≤ m) && decide (m ≤ IntKind.u8.max)) = true := h
  simp only [Bool.and_eq_true, decide_eq_true_eq] at h
  have e1 : IntKind.u8.min = 0 := by decide
  have e2 : IntKind.u8.max = 255 := by decide
  rw [e1, e2] at h
  omega
theorem tc_int {n : Nat} {cs : List D} (h : TC Tryd.prog (n + 1) 3 cs) : ∃ m : N64, cs = [nI m.1] := by
  unfold TC at h
  rw [Tryd.underlying3] at h
  obtain ⟨m, rfl, hm⟩ := h
  exact ⟨⟨m, wf64 hm⟩, rfl⟩
theorem tc_bool {n : Nat} {cs : List D} (h : TC Tryd.prog (n + 1) 4 cs) : ∃ b, cs = [.lit (.bool b)] := by
  unfold TC at h
  rw [Tryd.underlying4] at h
  obtain ⟨m, rfl, _⟩ := h
  exact ⟨m, rfl⟩
theorem tc_str {n : Nat} {cs : List D} (h : TC Tryd.prog (n + 1) 9 cs) : ∃ m, cs = [sD m] := by
  unfold TC at h
  rw [Tryd.underlying9] at h
  obtain ⟨m, rfl, _⟩ := h
  exact ⟨m, rfl⟩
theorem parts_flat {α : Type} {c : α → List D} {p : α → Prop} : ∀ {parts : List (List D)}, (∀ q ∈ parts, ∃ x, p x ∧ q = c x) → ∃ l : List α, (∀ x ∈ l, p x) ∧ l.length = parts.length ∧ flat c l = parts.flatten
  | [], _ => ⟨[], by simp, rfl, rfl⟩
  | q :: r, h => by
    obtain ⟨l, h0, h1, h2⟩ := parts_flat (c := c) (p := p) (parts := r) fun q hq => h q (by simp [hq])
    obtain ⟨x, hx, rfl⟩ := h q (by simp)
    exact ⟨x :: l, by simpa using ⟨hx, h0⟩, by simp [h1], by simp [flat, h2]⟩
theorem tc_strs {n : Nat} {cs : List D} (h : TC Tryd.prog (n + 2) 22 cs) : ∃ l : List ByteArray, cs = [.sl l.length (flat sC l)] := by
  unfold TC at h
  rw [Tryd.underlying22] at h
  rcases h with rfl | ⟨parts, rfl, hlen, hp⟩
  · exact ⟨[], rfl⟩
  · obtain ⟨l, _, h1, h2⟩ := parts_flat (c := sC) (p := fun _ => True) (parts := parts) fun q hq => by
      obtain ⟨m, rfl⟩ := tc_str (hp q hq)
      exact ⟨m, trivial, rfl⟩
    exact ⟨l, by rw [h1, h2]⟩
theorem tc_va {n : Nat} {cs : List D} (h : TC Tryd.prog (n + 2) 51 cs) : ∃ t : Vl, R64 t.1 ∧ cs = vC t := by
  unfold TC at h
  rw [Tryd.underlying51] at h
  obtain ⟨parts, rfl, hp⟩ := h
  obtain ⟨a, r, rfl, h1, hp⟩ := all2_cons hp
  obtain ⟨b, r, rfl, h2, hp⟩ := all2_cons hp
  obtain rfl := all2_nil hp
  obtain ⟨a, rfl⟩ := tc_int h1
  obtain ⟨b, rfl⟩ := tc_str h2
  exact ⟨(a.1, b), a.2, rfl⟩
theorem tc_vas {n : Nat} {cs : List D} (h : TC Tryd.prog (n + 3) 23 cs) : ∃ l : List Vl, (∀ x ∈ l, R64 x.1) ∧ cs = [.sl l.length (flat vC l)] := by
  unfold TC at h
  rw [Tryd.underlying23] at h
  rcases h with rfl | ⟨parts, rfl, hlen, hp⟩
  · exact ⟨[], by simp, rfl⟩
  · obtain ⟨l, h0, h1, h2⟩ := parts_flat (c := vC) (p := fun x => R64 x.1) (parts := parts) fun q hq => tc_va (hp q hq)
    exact ⟨l, h0, by rw [h1, h2]⟩
theorem tc_ev {n : Nat} {cs : List D} (h : TC Tryd.prog (n + 4) 25 cs) : ∃ (l : List Vl) (t : ByteArray), (∀ x ∈ l, R64 x.1) ∧ cs = [.sl l.length (flat vC l), sD t] := by
  unfold TC at h
  rw [Tryd.underlying25] at h
  obtain ⟨parts, rfl, hp⟩ := h
  obtain ⟨a, r, rfl, h1, hp⟩ := all2_cons hp
  obtain ⟨b, r, rfl, h2, hp⟩ := all2_cons hp
  obtain rfl := all2_nil hp
  obtain ⟨l, hl, rfl⟩ := tc_vas h1
  obtain ⟨s, rfl⟩ := tc_str h2
  exact ⟨l, s, hl, rfl⟩
theorem tc_mg {n : Nat} {cs : List D} (h : TC Tryd.prog (n + 5) 27 cs) : ∃ m : Mh, cs = mgD m.1 := by
  unfold TC at h
  rw [Tryd.underlying27] at h
  obtain ⟨parts, rfl, hp⟩ := h
  obtain ⟨a, r, rfl, h1, hp⟩ := all2_cons hp
  obtain ⟨b, r, rfl, h2, hp⟩ := all2_cons hp
  obtain ⟨c, r, rfl, h3, hp⟩ := all2_cons hp
  obtain ⟨d, r, rfl, h4, hp⟩ := all2_cons hp
  obtain ⟨e, r, rfl, h5, hp⟩ := all2_cons hp
  obtain ⟨f, r, rfl, h6, hp⟩ := all2_cons hp
  obtain ⟨g, r, rfl, h7, hp⟩ := all2_cons hp
  obtain ⟨i, r, rfl, h8, hp⟩ := all2_cons hp
  obtain rfl := all2_nil hp
  obtain ⟨a, rfl⟩ := tc_int h1
  obtain ⟨b, rfl⟩ := tc_str h2
  obtain ⟨c, rfl⟩ := tc_bool h3
  obtain ⟨d, rfl⟩ := tc_strs h4
  obtain ⟨e, rfl⟩ := tc_int h5
  obtain ⟨f, rfl⟩ := tc_int h6
  obtain ⟨g, rfl⟩ := tc_int h7
  obtain ⟨v, t, hv, rfl⟩ := tc_ev h8
  exact ⟨⟨⟨a.1, b, c, d, e.1, f.1, g.1, v, t⟩, ⟨a.2, e.2, f.2, g.2, hv⟩⟩, rfl⟩
theorem arg_int (m : Int) : argD Tryd.prog 3 [nI m] = nI m := by unfold argD; rw [Tryd.underlying3]
theorem arg_str (m : ByteArray) : argD Tryd.prog 9 [sD m] = sD m := by unfold argD; rw [Tryd.underlying9]
theorem arg_mg (cs : List D) : argD Tryd.prog 27 cs = .agg cs := by unfold argD; rw [Tryd.underlying27]
theorem ok3 (m : Mh) : Go.Am.Pure Tryd.prog 3 [mgG m.1] (bI true) := Ms.ok3 m.1 m.2
theorem ok4 (t : ByteArray) : Go.Am.Pure Tryd.prog 4 [.d (sD t)] (bI true) := Ms.ok4 t
end Go.Proofs.YtkdibdlbigmkcaaDoor.Mv
