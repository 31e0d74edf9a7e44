import Derived.Test.YtjibnmmpbpheiaaRows
import Derived.Test.YtjibnmmpbpheiaaW10
set_option linter.unusedVariables false
namespace Go.Proofs.Ytjibnmmpbpheiaa.windowEdge
open Go.ChangeShapes Go.WideShapes Go.ChangeAt Go.RowKit Go.Am
set_option maxRecDepth 100000 in
theorem lifted (os : Os) (started : os.Started) (H : Type) (enc : TypeId × Value → H) :
    ReturnsInHanded {} Try.checked os 6 .any (Rows.windowEdgeSpec.pre6 enc Try.prog Try.f6 Rows.windowEdgeRow.domain false) (Rows.windowEdgeSpec.post enc Try.prog Try.f6 false true false false) := by
  refine law_row (C := Try.checked) (n := 3) Wi.own started (by kernel_rfl) Try.func6 rfl rfl Wi.laid (by kernel_rfl) (by kernel_rfl) rfl Try.underlying4 rfl (fun ds h => ?_)
    (ChangeSpec.witness6 (enc := enc) (C := Try.checked) false ⟨#[], #[.int .i64 0, .int .i64 0, .int .i64 0], []⟩ 8 (by kernel_rfl) (by kernel_rfl) (by kernel_rfl) (by kernel_rfl)) (fun css h => ?_)
  · match ds, h with
    | [a, b, c], _ => exact ⟨rfl, rfl, rfl⟩
  · have h : All2 (fun t cs => TC Try.prog 3 t cs) [3, 3, 3] css := h
    obtain ⟨a, r, rfl, h0, h⟩ := all2_cons h
    obtain ⟨b, r, rfl, h1, h⟩ := all2_cons h
    obtain ⟨c, r, rfl, h2, h⟩ := all2_cons h
    obtain rfl := all2_nil h
    obtain ⟨p, rfl⟩ := Wi.tc_int h0
    obtain ⟨q, rfl⟩ := Wi.tc_int h1
    obtain ⟨n, rfl⟩ := Wi.tc_int h2
    show CallOk Try.prog 6 [.d (argD Try.prog 3 _), .d (argD Try.prog 3 _), .d (argD Try.prog 3 _)] [] _
    rw [Wi.arg_int, Wi.arg_int, Wi.arg_int]
    exact (Wi.ok6 p q n).mono fun v s h => h.1
theorem over : Rows.windowEdgeRow.holds Try.pinned (OpenSpec.ofChange Rows.windowEdgeSpec) :=
  OpenClaim.holds_of_wide 6 Try.f6 rfl rfl rfl rfl rfl rfl rfl ⟨rfl, rfl, rfl, rfl, rfl⟩ rfl rfl rfl rfl rfl (by kernel_rfl) Try.func6 (by kernel_rfl)
    (of_decide_eq_true (by kernel_rfl)) (by unfold Func.isWrapper; first | (rw [if_pos (by decide +kernel)]; kernel_rfl) | (rw [if_neg (by decide +kernel)]; exact ⟨rfl, rfl⟩))
    (fun os started H enc _ => lifted os started H enc)
end Go.Proofs.Ytjibnmmpbpheiaa.windowEdge
namespace Go.Proofs.Ytjibnmmpbpheiaa
/-- The row, under a short name, for the claim. -/
theorem windowEdge_holds : Rows.WindowEdgeSaid := windowEdge.over
#print axioms windowEdge_holds
end Go.Proofs.Ytjibnmmpbpheiaa
