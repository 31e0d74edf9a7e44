import Derived.Test.YtemabpapfkplgaaRows
import Derived.Test.YtemabpapfkplgaaBV
import Derived.Test.YtemabpapfkplgaaBF
set_option linter.unusedVariables false
namespace Go.Proofs.Ytemabpapfkplgaa.bagFull
open Go.ChangeShapes Go.WideShapes Go.ChangeAt Go.RowKit Go.Am
set_option maxRecDepth 100000 in
theorem lifted (os : Os) (started : os.Started) (H : Type) (enc : TypeId × Value → H) :
    ReturnsInHanded {} Try.checked os 4 .any (Rows.bagFullSpec.pre6 enc Try.prog Try.f4 Rows.bagFullRow.domain false) (Rows.bagFullSpec.post enc Try.prog Try.f4 false true false false) := by
  refine law_row (C := Try.checked) (n := 5) Bg.own started (by kernel_rfl) Try.func4 rfl rfl Bg.laid (by kernel_rfl) (by kernel_rfl) rfl Try.underlying4 rfl (fun ds h => ?_)
    (ChangeSpec.witness6 (enc := enc) (C := Try.checked) false ⟨#[], #[.string ⟨#[]⟩, .int .i64 0], []⟩ 8 (by kernel_rfl) (by kernel_rfl) (by kernel_rfl) (by kernel_rfl)) (fun css h => ?_)
  · match ds, h with
    | [a, b], _ => exact ⟨rfl, rfl, rfl⟩
  · have h : All2 (fun t cs => TC Try.prog 5 t cs) [9, 3] css := h
    obtain ⟨a, r, rfl, h0, h⟩ := all2_cons h
    obtain ⟨b, r, rfl, h1, h⟩ := all2_cons h
    obtain rfl := all2_nil h
    obtain ⟨x, rfl⟩ := Bg.tc_str h0
    obtain ⟨y, rfl⟩ := Bg.tc_int h1
    show CallOk Try.prog 4 [.d (argD Try.prog 9 _), .d (argD Try.prog 3 _)] [] _
    rw [Bg.arg_str, Bg.arg_int]
    exact (Bg.ok4 x y).mono fun v s h => h.1
theorem over : Rows.bagFullRow.holds Try.pinned (OpenSpec.ofChange Rows.bagFullSpec) :=
  OpenClaim.holds_of_wide 4 Try.f4 rfl rfl rfl rfl rfl rfl rfl ⟨rfl, rfl, rfl, rfl, rfl⟩ rfl rfl rfl rfl rfl (by kernel_rfl) Try.func4 (by kernel_rfl)
    (of_decide_eq_true (by kernel_rfl)) (by unfold Func.isWrapper; first | (rw [if_pos (by decide +kernel)]; kernel_rfl) | (rw [if_neg (by decide +kernel)]; exact ⟨rfl, rfl⟩))
    (fun os started H enc _ => lifted os started H enc)
end Go.Proofs.Ytemabpapfkplgaa.bagFull
namespace Go.Proofs.Ytemabpapfkplgaa
/-- The row, under a short name, for the claim. -/
theorem bagFull_holds : Rows.BagFullSaid := bagFull.over
#print axioms bagFull_holds
end Go.Proofs.Ytemabpapfkplgaa
