import Derived.Test.YtjibnmmpbpheiaaRows
import Derived.Test.YtjibnmmpbpheiaaW10
set_option linter.unusedVariables false
namespace Go.Proofs.Ytjibnmmpbpheiaa.windowRefused
open Go.ChangeShapes Go.WideShapes Go.ChangeAt Go.RowKit Go.Am
set_option maxRecDepth 100000 in
theorem lifted (os : Os) (started : os.Started) (H : Type) (enc : TypeId × Value → H) :
    ReturnsInHanded {} Try.checked os 7 .any (Rows.windowRefusedSpec.pre6 enc Try.prog Try.f7 Rows.windowRefusedRow.domain false) (Rows.windowRefusedSpec.post enc Try.prog Try.f7 false true false false) := by
  refine law_row (C := Try.checked) (n := 3) Wi.own started (by kernel_rfl) Try.func7 rfl rfl Wi.laid (by kernel_rfl) (by kernel_rfl) rfl Try.underlying4 rfl (fun ds h => ?_)
    (ChangeSpec.witness6 (enc := enc) (C := Try.checked) false ⟨#[], #[.slice none 0 0, .slice none 0 0], []⟩ 8 (by kernel_rfl) (by kernel_rfl) (by kernel_rfl) (by kernel_rfl)) (fun css h => ?_)
  · match ds, h with
    | [a, b], _ => exact ⟨rfl, rfl, rfl⟩
  · have h : All2 (fun t cs => TC Try.prog 3 t cs) [22, 22] css := h
    obtain ⟨a, r, rfl, h0, h⟩ := all2_cons h
    obtain ⟨b, r, rfl, h1, h⟩ := all2_cons h
    obtain rfl := all2_nil h
    obtain ⟨l, rfl⟩ := Wi.tc_pairs h0
    obtain ⟨m, rfl⟩ := Wi.tc_pairs h1
    show CallOk Try.prog 7 [.d (argD Try.prog 22 _), .d (argD Try.prog 22 _)] [] _
    rw [Wi.arg_sl, Wi.arg_sl]
    exact (Wi.ok7 l m).mono fun v s h => h.1
theorem over : Rows.windowRefusedRow.holds Try.pinned (OpenSpec.ofChange Rows.windowRefusedSpec) :=
  OpenClaim.holds_of_wide 7 Try.f7 rfl rfl rfl rfl rfl rfl rfl ⟨rfl, rfl, rfl, rfl, rfl⟩ rfl rfl rfl rfl rfl (by kernel_rfl) Try.func7 (by kernel_rfl)
    (of_decide_eq_true (by kernel_rfl)) (by unfold Func.isWrapper; first | (rw [if_pos (by decide +kernel)]; kernel_rfl) | (rw [if_neg (by decide +kernel)]; exact ⟨rfl, rfl⟩))
    (fun os started H enc _ => lifted os started H enc)
end Go.Proofs.Ytjibnmmpbpheiaa.windowRefused
namespace Go.Proofs.Ytjibnmmpbpheiaa
/-- The row, under a short name, for the claim. -/
theorem windowRefused_holds : Rows.WindowRefusedSaid := windowRefused.over
#print axioms windowRefused_holds
end Go.Proofs.Ytjibnmmpbpheiaa
