import Derived.Test.YtemabpapfkplgaaRows
import Derived.Test.YtemabpapfkplgaaBV
import Derived.Test.YtemabpapfkplgaaBD
set_option linter.unusedVariables false
namespace Go.Proofs.Ytemabpapfkplgaa.bagDoubled
open Go.ChangeShapes Go.WideShapes Go.ChangeAt Go.RowKit Go.Am
set_option maxRecDepth 100000 in
theorem lifted (os : Os) (started : os.Started) (H : Type) (enc : TypeId × Value → H) :
    ReturnsInHanded {} Try.checked os 5 .any (Rows.bagDoubledSpec.pre6 enc Try.prog Try.f5 Rows.bagDoubledRow.domain false) (Rows.bagDoubledSpec.post enc Try.prog Try.f5 false true false false) := by
  refine law_row (C := Try.checked) (n := 5) Bg.own started (by kernel_rfl) Try.func5 rfl rfl Bg.laid (by kernel_rfl) (by kernel_rfl) rfl Try.underlying4 rfl (fun ds h => ?_)
    (ChangeSpec.witness6 (enc := enc) (C := Try.checked) false ⟨#[], #[.int .i64 0, .int .i64 0, .string ⟨#[]⟩, .int .i64 0], []⟩ 8 (by kernel_rfl) (by kernel_rfl) (by kernel_rfl) (by kernel_rfl)) (fun css h => ?_)
  · match ds, h with
    | [a, b, c, d], _ => exact ⟨rfl, rfl, rfl⟩
  · have h : All2 (fun t cs => TC Try.prog 5 t cs) [3, 3, 9, 3] css := h
    obtain ⟨a, r, rfl, h0, h⟩ := all2_cons h
    obtain ⟨b, r, rfl, h1, h⟩ := all2_cons h
    obtain ⟨c, r, rfl, h2, h⟩ := all2_cons h
    obtain ⟨d, r, rfl, h3, h⟩ := all2_cons h
    obtain rfl := all2_nil h
    obtain ⟨x, rfl⟩ := Bg.tc_int h0
    obtain ⟨y, rfl⟩ := Bg.tc_int h1
    obtain ⟨u, rfl⟩ := Bg.tc_str h2
    obtain ⟨v, rfl⟩ := Bg.tc_int h3
    show CallOk Try.prog 5 [.d (argD Try.prog 3 _), .d (argD Try.prog 3 _), .d (argD Try.prog 9 _), .d (argD Try.prog 3 _)] [] _
    rw [Bg.arg_int, Bg.arg_int, Bg.arg_str, Bg.arg_int]
    exact (Bg.ok5 x y u v).mono fun v s h => h.1
theorem over : Rows.bagDoubledRow.holds Try.pinned (OpenSpec.ofChange Rows.bagDoubledSpec) :=
  OpenClaim.holds_of_wide 5 Try.f5 rfl rfl rfl rfl rfl rfl rfl ⟨rfl, rfl, rfl, rfl, rfl⟩ rfl rfl rfl rfl rfl (by kernel_rfl) Try.func5 (by kernel_rfl)
    (of_decide_eq_true (by kernel_rfl)) (by unfold Func.isWrapper; first | (rw [if_pos (by decide +kernel)]; kernel_rfl) | (rw [if_neg (by decide +kernel)]; exact ⟨rfl, rfl⟩))
    (fun os started H enc _ => lifted os started H enc)
end Go.Proofs.Ytemabpapfkplgaa.bagDoubled
namespace Go.Proofs.Ytemabpapfkplgaa
/-- The row, under a short name, for the claim. -/
theorem bagDoubled_holds : Rows.BagDoubledSaid := bagDoubled.over
#print axioms bagDoubled_holds
end Go.Proofs.Ytemabpapfkplgaa
