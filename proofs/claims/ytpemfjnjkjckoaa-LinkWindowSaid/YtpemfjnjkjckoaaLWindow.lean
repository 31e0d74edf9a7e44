import Derived.Test.YtpemfjnjkjckoaaRows
import Derived.Test.YtpemfjnjkjckoaaLV
set_option linter.unusedVariables false
namespace Go.Proofs.Ytpemfjnjkjckoaa.linkWindow
open Go.ChangeShapes Go.WideShapes Go.ChangeAt Go.RowKit Go.Am
set_option maxRecDepth 100000 in
theorem lifted (os : Os) (started : os.Started) (H : Type) (enc : TypeId × Value → H) :
    ReturnsInHanded {} Try.checked os 6 .any (Rows.linkWindowSpec.pre6 enc Try.prog Try.f6 Rows.linkWindowRow.domain false) (Rows.linkWindowSpec.post enc Try.prog Try.f6 false true false false) := by
  refine law_row (C := Try.checked) (n := 5) Lv.own started (by kernel_rfl) Try.func6 rfl rfl Lv.laid (by kernel_rfl) (by kernel_rfl) rfl Try.underlying4 rfl (fun ds h => ?_)
    (ChangeSpec.witness6 (enc := enc) (C := Try.checked) false ⟨#[], #[.int .i64 0, .int .i64 0], []⟩ 8 (by kernel_rfl) (by kernel_rfl) (by kernel_rfl) (by kernel_rfl)) (fun css h => ?_)
  · match ds, h with
    | [a, b], _ => exact ⟨rfl, rfl, rfl⟩
  · have h : All2 (fun t cs => TC Try.prog 5 t cs) [3, 3] css := h
    obtain ⟨a, r, rfl, h0, h⟩ := all2_cons h
    obtain ⟨b, r, rfl, h1, h⟩ := all2_cons h
    obtain rfl := all2_nil h
    obtain ⟨x, rfl⟩ := Lv.tc_int h0
    obtain ⟨y, rfl⟩ := Lv.tc_int h1
    show CallOk Try.prog 6 [.d (argD Try.prog 3 _), .d (argD Try.prog 3 _)] [] _
    rw [Lv.arg_int, Lv.arg_int]
    exact (Lv.ok6 x y).mono fun v s h => h.1
theorem over : Rows.linkWindowRow.holds Try.pinned (OpenSpec.ofChange Rows.linkWindowSpec) :=
  OpenClaim.holds_of_wide 6 Try.f6 rfl rfl rfl rfl rfl rfl rfl ⟨rfl, rfl, rfl, rfl, rfl⟩ rfl rfl rfl rfl rfl (by kernel_rfl) Try.func6 (by kernel_rfl)
    (of_decide_eq_true (by kernel_rfl)) (by unfold Func.isWrapper; first | (rw [if_pos (by decide +kernel)]; kernel_rfl) | (rw [if_neg (by decide +kernel)]; exact ⟨rfl, rfl⟩))
    (fun os started H enc _ => lifted os started H enc)
end Go.Proofs.Ytpemfjnjkjckoaa.linkWindow
namespace Go.Proofs.Ytpemfjnjkjckoaa
/-- The row, under a short name, for the claim. -/
theorem linkWindow_holds : Rows.LinkWindowSaid := linkWindow.over
#print axioms linkWindow_holds
end Go.Proofs.Ytpemfjnjkjckoaa
