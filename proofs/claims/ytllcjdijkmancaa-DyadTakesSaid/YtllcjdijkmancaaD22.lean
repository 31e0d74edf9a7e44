import Derived.Test.YtllcjdijkmancaaD21
import Derived.Test.YtllcjdijkmancaaD6
set_option maxRecDepth 100000
set_option linter.unusedVariables false
set_option linter.unusedSimpArgs false
namespace Go.Proofs.Ytllcjdijkmancaa.Dy
open Go Go.Am
theorem cutS_le (s : ByteArray) : (cutS s).size ≤ 60 := by
  unfold cutS
  split
  · simp [ByteArray.size_extract]; omega
  · omega
def od7 : Ords := [(1, [0, 1, 3, 4, 2, 6, 5, 1007, 8, 1009]), (4, [1000, 1, 2, 3, 4, 6, 7, 8, 5, 1009, 10, 11, 12, 13, 14, 15, 16, 17, 18, 19, 20, 21, 22])]
theorem code7 : codeB Try.f7.ntmps od7 (match Try.f7.body with | some c => c | none => .skip) = true := by kernel_rfl
set_option maxHeartbeats 4000000 in
theorem ok7 (nm : ByteArray) (k mn mx num : Int) (vs : ByteArray) (pn : ByteArray) (o lo hi : Int) (s : ByteArray) (n : Int) : Go.Am.Pure Try.prog 7 [atD nm k mn mx, vaD num vs, prD pn o lo hi s, .d (nI n)] (bI true) := by
  refine CallOk.of tysCOk mixed od7 Try.func7 rfl rfl code7 ?_
  refine W.pure (ok23 vs) rfl rfl ?_
  refine W.pure (ok23 s) rfl rfl ?_
  have c1 := cutS_le vs
  have c2 := cutS_le s
  refine W.pure (ok24 nm k mn mx pn o lo hi (cutS s) n c2) rfl rfl ?_
  refine W.pure (ok25 nm k mn mx pn o lo hi (cutS s) n c2) rfl rfl ?_
  refine W.pure ok13 rfl rfl ?_
  repeat (first | refine W.ite_t rfl ?_ | refine W.ite_f rfl ?_)
  refine W.pure (ok26 nm k mn mx num (cutS vs) n) rfl rfl ?_
  repeat (first | refine W.ite_t rfl ?_ | refine W.ite_f rfl ?_)
  refine W.pure (ok27 nm k mn mx num (cutS vs) n) rfl rfl ?_
  have d1 : (cellV k mn mx num (cutS vs) n == cellV k mn mx num (cutS vs) n) = true := by simp
  have d2 : ((rangeV k mn mx o lo hi (cutS s) n).1 == (rangeV k mn mx o lo hi (cutS s) n).1) = true := by simp
  have d3 : ((rangeV k mn mx o lo hi (cutS s) n).2 == (rangeV k mn mx o lo hi (cutS s) n).2) = true := by simp
  repeat (first | refine W.ite_t rfl ?_ | refine W.ite_f rfl ?_ | refine W.ite_t d1 ?_ | refine W.ite_t d2 ?_ | refine W.ite_t d3 ?_)
  refine W.ret ?_
  refine RetQ.pure rfl ?_
  exact ret_bI d3
theorem tc_str {n : Nat} {cs : List D} (h : TC Try.prog (n + 1) 9 cs) : ∃ m, cs = [sD m] := by
  unfold TC at h
  rw [Try.underlying9] at h
  obtain ⟨m, rfl, _⟩ := h
  exact ⟨m, rfl⟩
theorem tc_at {n : Nat} {cs : List D} (h : TC Try.prog (n + 2) 45 cs) : ∃ nm k mn mx, cs = [sD nm, nI k, nI mn, nI mx] := by
  unfold TC at h
  rw [Try.underlying45] at h
  obtain ⟨parts, rfl, hp⟩ := h
  obtain ⟨a, r, rfl, h1, hp⟩ := all2_cons hp
  obtain ⟨b, r, rfl, h2, hp⟩ := all2_cons hp
  obtain ⟨c, r, rfl, h3, hp⟩ := all2_cons hp
  obtain ⟨d, r, rfl, h4, hp⟩ := all2_cons hp
  obtain rfl := all2_nil hp
  obtain ⟨a, rfl⟩ := tc_str h1
  obtain ⟨b, rfl⟩ := tc_int h2
  obtain ⟨c, rfl⟩ := tc_int h3
  obtain ⟨d, rfl⟩ := tc_int h4
  exact ⟨a, b, c, d, rfl⟩
theorem tc_va {n : Nat} {cs : List D} (h : TC Try.prog (n + 2) 47 cs) : ∃ num s, cs = [nI num, sD s] := by
  unfold TC at h
  rw [Try.underlying47] at h
  obtain ⟨parts, rfl, hp⟩ := h
  obtain ⟨a, r, rfl, h1, hp⟩ := all2_cons hp
  obtain ⟨b, r, rfl, h2, hp⟩ := all2_cons hp
  obtain rfl := all2_nil hp
  obtain ⟨a, rfl⟩ := tc_int h1
  obtain ⟨b, rfl⟩ := tc_str h2
  exact ⟨a, b, rfl⟩
theorem tc_pr {n : Nat} {cs : List D} (h : TC Try.prog (n + 2) 49 cs) : ∃ pn o lo hi s, cs = [sD pn, nI o, nI lo, nI hi, sD s] := by
  unfold TC at h
  rw [Try.underlying49] at h
  obtain ⟨parts, rfl, hp⟩ := h
  obtain ⟨a, r, rfl, h1, hp⟩ := all2_cons hp
  obtain ⟨b, r, rfl, h2, hp⟩ := all2_cons hp
  obtain ⟨c, r, rfl, h3, hp⟩ := all2_cons hp
  obtain ⟨d, r, rfl, h4, hp⟩ := all2_cons hp
  obtain ⟨e, r, rfl, h5, hp⟩ := all2_cons hp
  obtain rfl := all2_nil hp
  obtain ⟨a, rfl⟩ := tc_str h1
  obtain ⟨b, rfl⟩ := tc_int h2
  obtain ⟨c, rfl⟩ := tc_int h3
  obtain ⟨d, rfl⟩ := tc_int h4
  obtain ⟨e, rfl⟩ := tc_str h5
  exact ⟨a, b, c, d, e, rfl⟩
theorem arg_at (cs : List D) : argD Try.prog 45 cs = .agg cs := by unfold argD; rw [Try.underlying45]
theorem arg_va (cs : List D) : argD Try.prog 47 cs = .agg cs := by unfold argD; rw [Try.underlying47]
theorem arg_pr (cs : List D) : argD Try.prog 49 cs = .agg cs := by unfold argD; rw [Try.underlying49]
end Go.Proofs.Ytllcjdijkmancaa.Dy
