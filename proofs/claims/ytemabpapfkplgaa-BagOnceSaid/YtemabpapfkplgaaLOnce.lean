import Derived.Test.YtemabpapfkplgaaRows
import Derived.Test.YtemabpapfkplgaaBV
import Derived.Test.YtemabpapfkplgaaBO
set_option linter.unusedVariables false
namespace Go.Proofs.Ytemabpapfkplgaa.bagOnce
open Go.ChangeShapes Go.WideShapes Go.ChangeAt Go.RowKit Go.Am
set_option maxRecDepth 100000 in
theorem lifted (os : Os) (started : os.Started) (H : Type) (enc : TypeId × Value → H) :
    ReturnsInHanded {} Try.checked os 3 .any (Rows.bagOnceSpec.pre6 enc Try.prog Try.f3 Rows.bagOnceRow.domain false) (Rows.bagOnceSpec.post enc Try.prog Try.f3 false true false false) := by
  refine law_row (C := Try.checked) (n := 5) Bg.own started (by kernel_rfl) Try.func3 rfl rfl Bg.laid (by kernel_rfl) (by kernel_rfl) rfl Try.underlying4 rfl (fun ds h => ?_)
    (ChangeSpec.witness6 (enc := enc) (C := Try.checked) false ⟨#[], #[.slice none 0 0, .slice none 0 0], []⟩ 8 (by kernel_rfl) (by kernel_rfl) (by kernel_rfl) (by kernel_rfl)) (fun css h => ?_)
  · match ds, h with
    | [a, b], _ => exact ⟨rfl, rfl, rfl⟩
  · have h : All2 (fun t cs => TC Try.prog 5 t cs) [22, 23] css := h
    obtain ⟨a, r, rfl, h0, h⟩ := all2_cons h
    obtain ⟨b, r, rfl, h1, h⟩ := all2_cons h
    obtain rfl := all2_nil h
    obtain ⟨x, rfl⟩ := Bg.tc_strs h0
    obtain ⟨y, rfl⟩ := Bg.tc_ints h1
    show CallOk Try.prog 3 [.d (argD Try.prog 22 _), .d (argD Try.prog 23 _)] [] _
    rw [Bg.arg_strs, Bg.arg_ints]
    exact (Bg.ok3 x y).mono fun v s h => h.1
theorem over : Rows.bagOnceRow.holds Try.pinned (OpenSpec.ofChange Rows.bagOnceSpec) :=
  OpenClaim.holds_of_wide 3 Try.f3 rfl rfl rfl rfl rfl rfl rfl ⟨rfl, rfl, rfl, rfl, rfl⟩ rfl rfl rfl rfl rfl (by kernel_rfl) Try.func3 (by kernel_rfl)
    (of_decide_eq_true (by kernel_rfl)) (by unfold Func.isWrapper; first | (rw [if_pos (by decide +kernel)]; kernel_rfl) | (rw [if_neg (by decide +kernel)]; exact ⟨rfl, rfl⟩))
    (fun os started H enc _ => lifted os started H enc)
end Go.Proofs.Ytemabpapfkplgaa.bagOnce
namespace Go.Proofs.Ytemabpapfkplgaa
/-- The row, under a short name, for the claim. -/
theorem bagOnce_holds : Rows.BagOnceSaid := bagOnce.over
#print axioms bagOnce_holds
end Go.Proofs.Ytemabpapfkplgaa
