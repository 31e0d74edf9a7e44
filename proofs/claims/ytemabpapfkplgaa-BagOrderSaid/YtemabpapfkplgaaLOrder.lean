import Derived.Test.YtemabpapfkplgaaRows
import Derived.Test.YtemabpapfkplgaaBV
import Derived.Test.YtemabpapfkplgaaBR
set_option linter.unusedVariables false
namespace Go.Proofs.Ytemabpapfkplgaa.bagOrder
open Go.ChangeShapes Go.WideShapes Go.ChangeAt Go.RowKit Go.Am
set_option maxRecDepth 100000 in
theorem lifted (os : Os) (started : os.Started) (H : Type) (enc : TypeId × Value → H) :
    ReturnsInHanded {} Try.checked os 6 .any (Rows.bagOrderSpec.pre6 enc Try.prog Try.f6 Rows.bagOrderRow.domain false) (Rows.bagOrderSpec.post enc Try.prog Try.f6 false true false false) := by
  refine law_row (C := Try.checked) (n := 5) Bg.own started (by kernel_rfl) Try.func6 rfl rfl Bg.laid (by kernel_rfl) (by kernel_rfl) rfl Try.underlying4 rfl (fun ds h => ?_)
    (ChangeSpec.witness6 (enc := enc) (C := Try.checked) false ⟨#[], #[.slice none 0 0], []⟩ 8 (by kernel_rfl) (by kernel_rfl) (by kernel_rfl) (by kernel_rfl)) (fun css h => ?_)
  · match ds, h with
    | [a], _ => exact ⟨rfl, rfl, rfl⟩
  · have h : All2 (fun t cs => TC Try.prog 5 t cs) [44] css := h
    obtain ⟨a, r, rfl, h0, h⟩ := all2_cons h
    obtain rfl := all2_nil h
    obtain ⟨x, rfl⟩ := Bg.tc_acs h0
    show CallOk Try.prog 6 [.d (argD Try.prog 44 _)] [] _
    rw [Bg.arg_acs]
    exact (Bg.ok6 x).mono fun v s h => h.1
theorem over : Rows.bagOrderRow.holds Try.pinned (OpenSpec.ofChange Rows.bagOrderSpec) :=
  OpenClaim.holds_of_wide 6 Try.f6 rfl rfl rfl rfl rfl rfl rfl ⟨rfl, rfl, rfl, rfl, rfl⟩ rfl rfl rfl rfl rfl (by kernel_rfl) Try.func6 (by kernel_rfl)
    (of_decide_eq_true (by kernel_rfl)) (by unfold Func.isWrapper; first | (rw [if_pos (by decide +kernel)]; kernel_rfl) | (rw [if_neg (by decide +kernel)]; exact ⟨rfl, rfl⟩))
    (fun os started H enc _ => lifted os started H enc)
end Go.Proofs.Ytemabpapfkplgaa.bagOrder
namespace Go.Proofs.Ytemabpapfkplgaa
/-- The row, under a short name, for the claim. -/
theorem bagOrder_holds : Rows.BagOrderSaid := bagOrder.over
#print axioms bagOrder_holds
end Go.Proofs.Ytemabpapfkplgaa
