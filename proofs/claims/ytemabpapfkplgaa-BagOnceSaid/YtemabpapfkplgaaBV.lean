import Derived.Test.YtemabpapfkplgaaBA
import Derived.Test.YtemabpapfkplgaaAm19
import Derived.Test.YtemabpapfkplgaaChecked
set_option maxRecDepth 100000
set_option linter.unusedVariables false
set_option linter.unusedSimpArgs false
/- Layer 3: the laws' parameters. -/
namespace Go.Proofs.Ytemabpapfkplgaa.Bg
open Go Go.Am
theorem own : ownKnob Try.prog.godebug = none := by kernel_rfl
theorem laid : laidOutB Try.prog = true := by kernel_rfl
def sC (s : ByteArray) : List D := [sD s]
theorem sC_len (s : ByteArray) : (sC s).length = 1 := rfl
theorem sE {l : List ByteArray} {i : Nat} {s : ByteArray} (h : l[i]? = some s) : Elem (flat sC l) [.str] (i * 1) 1 [sD s] := Elem.all sC_len h _ rfl ⟨rfl, True.intro⟩ rfl
def iC (n : Int) : List D := [nI n]
theorem iC_len (n : Int) : (iC n).length = 1 := rfl
theorem iE {l : List Int} {i : Nat} {n : Int} (h : l[i]? = some n) : Elem (flat iC l) [.int .i64] (i * 1) 1 [nI n] := Elem.all iC_len h _ rfl ⟨rfl, True.intro⟩ rfl
/-- A call: its kind, two numbers, a text. -/
structure Act where
  k : Int
  a : Int
  b : Int
  s : ByteArray
def acC (a : Act) : List D := [nI a.k, nI a.a, nI a.b, sD a.s]
theorem acC_len (a : Act) : (acC a).length = 4 := rfl
theorem acE {l : List Act} {i : Nat} {a : Act} (h : l[i]? = some a) : Elem (flat acC l) [.int .i64, .int .i64, .int .i64, .str] (i * 4) 4 (acC a) := Elem.all acC_len h [.int .i64, .int .i64, .int .i64, .str] rfl ⟨rfl, rfl, rfl, rfl, True.intro⟩ rfl
theorem tc_str {n : Nat} {cs : List D} (h : TC Try.prog (n + 1) 9 cs) : ∃ m, cs = [sD m] := by
  unfold TC at h
  rw [Try.underlying9] at h
  obtain ⟨m, rfl, _⟩ := h
  exact ⟨m, rfl⟩
theorem tc_int {n : Nat} {cs : List D} (h : TC Try.prog (n + 1) 3 cs) : ∃ m, cs = [nI m] := by
  unfold TC at h
  rw [Try.underlying3] at h
  obtain ⟨m, rfl, _⟩ := h
  exact ⟨m, rfl⟩
theorem tc_ac {n : Nat} {cs : List D} (h : TC Try.prog (n + 2) 46 cs) : ∃ t : Act, cs = acC t := by
  unfold TC at h
  rw [Try.underlying46] at h
  obtain ⟨parts, rfl, hp⟩ := h
  obtain ⟨a, r, rfl, h1, hp⟩ := all2_cons hp
  obtain ⟨b, r, rfl, h2, hp⟩ := all2_cons hp
  obtain ⟨c, r, rfl, h3, hp⟩ := all2_cons hp
  obtain ⟨d, r, rfl, h4, hp⟩ := all2_cons hp
  obtain rfl := all2_nil hp
  obtain ⟨a, rfl⟩ := tc_int h1
  obtain ⟨b, rfl⟩ := tc_int h2
  obtain ⟨c, rfl⟩ := tc_int h3
  obtain ⟨d, rfl⟩ := tc_str h4
  exact ⟨⟨a, b, c, d⟩, rfl⟩
theorem tc_list {α : Type} {c : α → List D} {t : Nat} {parts : List (List D)} (hp : ∀ q ∈ parts, ∃ a, q = c a) : ∃ l : List α, l.length = parts.length ∧ flat c l = parts.flatten := by
  induction parts with
  | nil => exact ⟨[], rfl, rfl⟩
  | cons p r ih =>
    obtain ⟨l, h1, h2⟩ := ih fun q hq => hp q (by simp [hq])
    obtain ⟨a, rfl⟩ := hp p (by simp)
    exact ⟨a :: l, by simp [h1], by simp [flat, h2]⟩
theorem tc_acs {n : Nat} {cs : List D} (h : TC Try.prog (n + 3) 44 cs) : ∃ l : List Act, cs = [.sl l.length (flat acC l)] := by
  unfold TC at h
  rw [Try.underlying44] at h
  rcases h with rfl | ⟨parts, rfl, hlen, hp⟩
  · exact ⟨[], rfl⟩
  · obtain ⟨l, h1, h2⟩ := tc_list (t := 0) fun q hq => tc_ac (hp q hq)
    exact ⟨l, by rw [h1, h2]⟩
theorem tc_strs {n : Nat} {cs : List D} (h : TC Try.prog (n + 2) 22 cs) : ∃ l : List ByteArray, cs = [.sl l.length (flat sC l)] := by
  unfold TC at h
  rw [Try.underlying22] at h
  rcases h with rfl | ⟨parts, rfl, hlen, hp⟩
  · exact ⟨[], rfl⟩
  · obtain ⟨l, h1, h2⟩ := tc_list (t := 0) (c := sC) fun q hq => tc_str (hp q hq)
    exact ⟨l, by rw [h1, h2]⟩
theorem tc_ints {n : Nat} {cs : List D} (h : TC Try.prog (n + 2) 23 cs) : ∃ l : List Int, cs = [.sl l.length (flat iC l)] := by
  unfold TC at h
  rw [Try.underlying23] at h
  rcases h with rfl | ⟨parts, rfl, hlen, hp⟩
  · exact ⟨[], rfl⟩
  · obtain ⟨l, h1, h2⟩ := tc_list (t := 0) (c := iC) fun q hq => tc_int (hp q hq)
    exact ⟨l, by rw [h1, h2]⟩
theorem arg_int (m : Int) : argD Try.prog 3 [nI m] = nI m := by unfold argD; rw [Try.underlying3]
theorem arg_str (m : ByteArray) : argD Try.prog 9 [sD m] = sD m := by unfold argD; rw [Try.underlying9]
theorem arg_acs (n : Nat) (cs : List D) : argD Try.prog 44 [.sl n cs] = .sl n cs := by unfold argD; rw [Try.underlying44]
theorem arg_strs (n : Nat) (cs : List D) : argD Try.prog 22 [.sl n cs] = .sl n cs := by unfold argD; rw [Try.underlying22]
theorem arg_ints (n : Nat) (cs : List D) : argD Try.prog 23 [.sl n cs] = .sl n cs := by unfold argD; rw [Try.underlying23]
end Go.Proofs.Ytemabpapfkplgaa.Bg
