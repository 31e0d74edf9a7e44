import Derived.Test.YtemabpapfkplgaaRows
import Derived.Test.YtemabpapfkplgaaBV
import Derived.Test.YtemabpapfkplgaaBP
set_option linter.unusedVariables false
namespace Go.Proofs.Ytemabpapfkplgaa.bagPurged
open Go.ChangeShapes Go.WideShapes Go.ChangeAt Go.RowKit Go.Am
set_option maxRecDepth 100000 in
theorem lifted (os : Os) (started : os.Started) (H : Type) (enc : TypeId × Value → H) :
    ReturnsInHanded {} Try.checked os 7 .any (Rows.bagPurgedSpec.pre6 enc Try.prog Try.f7 Rows.bagPurgedRow.domain false) (Rows.bagPurgedSpec.post enc Try.prog Try.f7 false true false false) := by
  refine law_row (C := Try.checked) (n := 5) Bg.own started (by kernel_rfl) Try.func7 rfl rfl Bg.laid (by kernel_rfl) (by kernel_rfl) rfl Try.underlying4 rfl (fun ds h => ?_)
    (ChangeSpec.witness6 (enc := enc) (C := Try.checked) false ⟨#[], #[.slice none 0 0, .int .i64 0], []⟩ 8 (by kernel_rfl) (by kernel_rfl) (by kernel_rfl) (by kernel_rfl)) (fun css h => ?_)
  · match ds, h with
    | [a, b], _ => exact ⟨rfl, rfl, rfl⟩
  · have h : All2 (fun t cs => TC Try.prog 5 t cs) [23, 3] css := h
    obtain ⟨a, r, rfl, h0, h⟩ := all2_cons h
    obtain ⟨b, r, rfl, h1, h⟩ := all2_cons h
    obtain rfl := all2_nil h
    obtain ⟨x, rfl⟩ := Bg.tc_ints h0
    obtain ⟨y, rfl⟩ := Bg.tc_int h1
    show CallOk Try.prog 7 [.d (argD Try.prog 23 _), .d (argD Try.prog 3 _)] [] _
    rw [Bg.arg_ints, Bg.arg_int]
    exact (Bg.ok7 x y).mono fun v s h => h.1
theorem over : Rows.bagPurgedRow.holds Try.pinned (OpenSpec.ofChange Rows.bagPurgedSpec) :=
  OpenClaim.holds_of_wide 7 Try.f7 rfl rfl rfl rfl rfl rfl rfl ⟨rfl, rfl, rfl, rfl, rfl⟩ rfl rfl rfl rfl rfl (by kernel_rfl) Try.func7 (by kernel_rfl)
    (of_decide_eq_true (by kernel_rfl)) (by unfold Func.isWrapper; first | (rw [if_pos (by decide +kernel)]; kernel_rfl) | (rw [if_neg (by decide +kernel)]; exact ⟨rfl, rfl⟩))
    (fun os started H enc _ => lifted os started H enc)
end Go.Proofs.Ytemabpapfkplgaa.bagPurged
namespace Go.Proofs.Ytemabpapfkplgaa
/-- The row, under a short name, for the claim. -/
theorem bagPurged_holds : Rows.BagPurgedSaid := bagPurged.over
#print axioms bagPurged_holds
end Go.Proofs.Ytemabpapfkplgaa
