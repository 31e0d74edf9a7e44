import Derived.Test.YtpemfjnjkjckoaaRows
import Derived.Test.YtpemfjnjkjckoaaLV
set_option linter.unusedVariables false
namespace Go.Proofs.Ytpemfjnjkjckoaa.linkQuiet
open Go.ChangeShapes Go.WideShapes Go.ChangeAt Go.RowKit Go.Am
set_option maxRecDepth 100000 in
theorem lifted (os : Os) (started : os.Started) (H : Type) (enc : TypeId × Value → H) :
    ReturnsInHanded {} Try.checked os 5 .any (Rows.linkQuietSpec.pre6 enc Try.prog Try.f5 Rows.linkQuietRow.domain false) (Rows.linkQuietSpec.post enc Try.prog Try.f5 false true false false) := by
  refine law_row (C := Try.checked) (n := 5) Lv.own started (by kernel_rfl) Try.func5 rfl rfl Lv.laid (by kernel_rfl) (by kernel_rfl) rfl Try.underlying4 rfl (fun ds h => ?_)
    (ChangeSpec.witness6 (enc := enc) (C := Try.checked) false ⟨#[], #[.string ⟨#[]⟩], []⟩ 8 (by kernel_rfl) (by kernel_rfl) (by kernel_rfl) (by kernel_rfl)) (fun css h => ?_)
  · match ds, h with
    | [a], _ => exact ⟨rfl, rfl, rfl⟩
  · have h : All2 (fun t cs => TC Try.prog 5 t cs) [9] css := h
    obtain ⟨a, r, rfl, h0, h⟩ := all2_cons h
    obtain rfl := all2_nil h
    obtain ⟨x, rfl⟩ := Lv.tc_str h0
    show CallOk Try.prog 5 [.d (argD Try.prog 9 _)] [] _
    rw [Lv.arg_str]
    exact (Lv.ok5 x).mono fun v s h => h.1
theorem over : Rows.linkQuietRow.holds Try.pinned (OpenSpec.ofChange Rows.linkQuietSpec) :=
  OpenClaim.holds_of_wide 5 Try.f5 rfl rfl rfl rfl rfl rfl rfl ⟨rfl, rfl, rfl, rfl, rfl⟩ rfl rfl rfl rfl rfl (by kernel_rfl) Try.func5 (by kernel_rfl)
    (of_decide_eq_true (by kernel_rfl)) (by unfold Func.isWrapper; first | (rw [if_pos (by decide +kernel)]; kernel_rfl) | (rw [if_neg (by decide +kernel)]; exact ⟨rfl, rfl⟩))
    (fun os started H enc _ => lifted os started H enc)
end Go.Proofs.Ytpemfjnjkjckoaa.linkQuiet
namespace Go.Proofs.Ytpemfjnjkjckoaa
/-- The row, under a short name, for the claim. -/
theorem linkQuiet_holds : Rows.LinkQuietSaid := linkQuiet.over
#print axioms linkQuiet_holds
end Go.Proofs.Ytpemfjnjkjckoaa
