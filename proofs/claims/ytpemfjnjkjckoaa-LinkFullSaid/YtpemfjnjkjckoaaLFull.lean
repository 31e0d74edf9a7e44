import Derived.Test.YtpemfjnjkjckoaaRows
import Derived.Test.YtpemfjnjkjckoaaLV
set_option linter.unusedVariables false
namespace Go.Proofs.Ytpemfjnjkjckoaa.linkFull
open Go.ChangeShapes Go.WideShapes Go.ChangeAt Go.RowKit Go.Am
set_option maxRecDepth 100000 in
theorem lifted (os : Os) (started : os.Started) (H : Type) (enc : TypeId × Value → H) :
    ReturnsInHanded {} Try.checked os 7 .any (Rows.linkFullSpec.pre6 enc Try.prog Try.f7 Rows.linkFullRow.domain false) (Rows.linkFullSpec.post enc Try.prog Try.f7 false true false false) := by
  refine law_row (C := Try.checked) (n := 5) Lv.own started (by kernel_rfl) Try.func7 rfl rfl Lv.laid (by kernel_rfl) (by kernel_rfl) rfl Try.underlying4 rfl (fun ds h => ?_)
    (ChangeSpec.witness6 (enc := enc) (C := Try.checked) false ⟨#[], #[.int .i64 0], []⟩ 8 (by kernel_rfl) (by kernel_rfl) (by kernel_rfl) (by kernel_rfl)) (fun css h => ?_)
  · match ds, h with
    | [a], _ => exact ⟨rfl, rfl, rfl⟩
  · have h : All2 (fun t cs => TC Try.prog 5 t cs) [3] css := h
    obtain ⟨a, r, rfl, h0, h⟩ := all2_cons h
    obtain rfl := all2_nil h
    obtain ⟨x, rfl⟩ := Lv.tc_int h0
    show CallOk Try.prog 7 [.d (argD Try.prog 3 _)] [] _
    rw [Lv.arg_int]
    exact (Lv.ok7 x).mono fun v s h => h.1
theorem over : Rows.linkFullRow.holds Try.pinned (OpenSpec.ofChange Rows.linkFullSpec) :=
  OpenClaim.holds_of_wide 7 Try.f7 rfl rfl rfl rfl rfl rfl rfl ⟨rfl, rfl, rfl, rfl, rfl⟩ rfl rfl rfl rfl rfl (by kernel_rfl) Try.func7 (by kernel_rfl)
    (of_decide_eq_true (by kernel_rfl)) (by unfold Func.isWrapper; first | (rw [if_pos (by decide +kernel)]; kernel_rfl) | (rw [if_neg (by decide +kernel)]; exact ⟨rfl, rfl⟩))
    (fun os started H enc _ => lifted os started H enc)
end Go.Proofs.Ytpemfjnjkjckoaa.linkFull
namespace Go.Proofs.Ytpemfjnjkjckoaa
/-- The row, under a short name, for the claim. -/
theorem linkFull_holds : Rows.LinkFullSaid := linkFull.over
#print axioms linkFull_holds
end Go.Proofs.Ytpemfjnjkjckoaa
