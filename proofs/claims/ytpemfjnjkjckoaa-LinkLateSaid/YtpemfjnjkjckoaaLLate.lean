import Derived.Test.YtpemfjnjkjckoaaRows
import Derived.Test.YtpemfjnjkjckoaaLV
set_option linter.unusedVariables false
namespace Go.Proofs.Ytpemfjnjkjckoaa.linkLate
open Go.ChangeShapes Go.WideShapes Go.ChangeAt Go.RowKit Go.Am
set_option maxRecDepth 100000 in
theorem lifted (os : Os) (started : os.Started) (H : Type) (enc : TypeId × Value → H) :
    ReturnsInHanded {} Try.checked os 4 .any (Rows.linkLateSpec.pre6 enc Try.prog Try.f4 Rows.linkLateRow.domain false) (Rows.linkLateSpec.post enc Try.prog Try.f4 false true false false) := by
  refine law_row (C := Try.checked) (n := 5) Lv.own started (by kernel_rfl) Try.func4 rfl rfl Lv.laid (by kernel_rfl) (by kernel_rfl) rfl Try.underlying4 rfl (fun ds h => ?_)
    (ChangeSpec.witness6 (enc := enc) (C := Try.checked) false ⟨#[], #[.slice none 0 0], []⟩ 8 (by kernel_rfl) (by kernel_rfl) (by kernel_rfl) (by kernel_rfl)) (fun css h => ?_)
  · match ds, h with
    | [a], _ => exact ⟨rfl, rfl, rfl⟩
  · have h : All2 (fun t cs => TC Try.prog 5 t cs) [22] css := h
    obtain ⟨a, r, rfl, h0, h⟩ := all2_cons h
    obtain rfl := all2_nil h
    obtain ⟨x, rfl⟩ := Lv.tc_strs h0
    show CallOk Try.prog 4 [.d (argD Try.prog 22 _)] [] _
    rw [Lv.arg_strs]
    exact (Lv.ok4 x).mono fun v s h => h.1
theorem over : Rows.linkLateRow.holds Try.pinned (OpenSpec.ofChange Rows.linkLateSpec) :=
  OpenClaim.holds_of_wide 4 Try.f4 rfl rfl rfl rfl rfl rfl rfl ⟨rfl, rfl, rfl, rfl, rfl⟩ rfl rfl rfl rfl rfl (by kernel_rfl) Try.func4 (by kernel_rfl)
    (of_decide_eq_true (by kernel_rfl)) (by unfold Func.isWrapper; first | (rw [if_pos (by decide +kernel)]; kernel_rfl) | (rw [if_neg (by decide +kernel)]; exact ⟨rfl, rfl⟩))
    (fun os started H enc _ => lifted os started H enc)
end Go.Proofs.Ytpemfjnjkjckoaa.linkLate
namespace Go.Proofs.Ytpemfjnjkjckoaa
/-- The row, under a short name, for the claim. -/
theorem linkLate_holds : Rows.LinkLateSaid := linkLate.over
#print axioms linkLate_holds
end Go.Proofs.Ytpemfjnjkjckoaa
