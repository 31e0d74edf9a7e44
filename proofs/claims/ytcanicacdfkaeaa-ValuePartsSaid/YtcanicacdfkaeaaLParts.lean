import Derived.Test.YtcanicacdfkaeaaRows
import Derived.Test.YtcanicacdfkaeaaVR
import Derived.Test.YtcanicacdfkaeaaVA3
set_option linter.unusedVariables false
namespace Go.Proofs.Ytcanicacdfkaeaa.valueParts
open Go.ChangeShapes Go.WideShapes Go.ChangeAt Go.RowKit Go.Am
set_option maxRecDepth 100000 in
theorem lifted (os : Os) (started : os.Started) (H : Type) (enc : TypeId × Value → H) :
    ReturnsInHanded {} Try.checked os 5 .any (Rows.valuePartsSpec.pre6 enc Try.prog Try.f5 Rows.valuePartsRow.domain false) (Rows.valuePartsSpec.post enc Try.prog Try.f5 false true false false) := by
  refine law_row (C := Try.checked) (n := 5) Va.own started (by kernel_rfl) Try.func5 rfl rfl Va.laid (by kernel_rfl) (by kernel_rfl) rfl Try.underlying4 rfl (fun ds h => ?_)
    (ChangeSpec.witness6 (enc := enc) (C := Try.checked) false ⟨#[], #[.int .i64 0, .int .i64 0, .int .i64 0, .int .i64 0, .string ⟨#[]⟩, .int .i64 0], []⟩ 8 (by kernel_rfl) (by kernel_rfl) (by kernel_rfl) (by kernel_rfl)) (fun css h => ?_)
  · match ds, h with
    | [a, b, c, d, e, f], _ => exact ⟨rfl, rfl, rfl⟩
  · have h : All2 (fun t cs => TC Try.prog 5 t cs) [3, 3, 3, 3, 9, 3] css := h
    obtain ⟨a, r, rfl, h0, h⟩ := all2_cons h
    obtain ⟨b, r, rfl, h1, h⟩ := all2_cons h
    obtain ⟨c, r, rfl, h2, h⟩ := all2_cons h
    obtain ⟨d, r, rfl, h3, h⟩ := all2_cons h
    obtain ⟨e, r, rfl, h4, h⟩ := all2_cons h
    obtain ⟨f, r, rfl, h5, h⟩ := all2_cons h
    obtain rfl := all2_nil h
    obtain ⟨lo, rfl⟩ := Va.tc_int h0
    obtain ⟨mid, rfl⟩ := Va.tc_int h1
    obtain ⟨hi, rfl⟩ := Va.tc_int h2
    obtain ⟨n, rfl⟩ := Va.tc_int h3
    obtain ⟨t, rfl⟩ := Va.tc_str h4
    obtain ⟨c, rfl⟩ := Va.tc_int h5
    show CallOk Try.prog 5 [.d (argD Try.prog 3 _), .d (argD Try.prog 3 _), .d (argD Try.prog 3 _), .d (argD Try.prog 3 _), .d (argD Try.prog 9 _), .d (argD Try.prog 3 _)] [] _
    rw [Va.arg_int, Va.arg_int, Va.arg_int, Va.arg_int, Va.arg_str, Va.arg_int]
    exact (Va.ok5 lo mid hi n t c).mono fun v s h => h.1
theorem over : Rows.valuePartsRow.holds Try.pinned (OpenSpec.ofChange Rows.valuePartsSpec) :=
  OpenClaim.holds_of_wide 5 Try.f5 rfl rfl rfl rfl rfl rfl rfl ⟨rfl, rfl, rfl, rfl, rfl⟩ rfl rfl rfl rfl rfl (by kernel_rfl) Try.func5 (by kernel_rfl)
    (of_decide_eq_true (by kernel_rfl)) (by unfold Func.isWrapper; first | (rw [if_pos (by decide +kernel)]; kernel_rfl) | (rw [if_neg (by decide +kernel)]; exact ⟨rfl, rfl⟩))
    (fun os started H enc _ => lifted os started H enc)
end Go.Proofs.Ytcanicacdfkaeaa.valueParts
namespace Go.Proofs.Ytcanicacdfkaeaa
/-- The row, under a short name, for the claim. -/
theorem valueParts_holds : Rows.ValuePartsSaid := valueParts.over
#print axioms valueParts_holds
end Go.Proofs.Ytcanicacdfkaeaa
