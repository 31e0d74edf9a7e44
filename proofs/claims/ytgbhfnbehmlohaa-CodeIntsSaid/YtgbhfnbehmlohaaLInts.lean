import Derived.Test.YtgbhfnbehmlohaaRows
import Derived.Test.YtgbhfnbehmlohaaCV
set_option linter.unusedVariables false
namespace Go.Proofs.Ytgbhfnbehmlohaa.codeInts
open Go.ChangeShapes Go.WideShapes Go.ChangeAt Go.RowKit Go.Am
set_option maxRecDepth 100000 in
theorem lifted (os : Os) (started : os.Started) (H : Type) (enc : TypeId × Value → H) :
    ReturnsInHanded {} Try.checked os 5 .any (Rows.codeIntsSpec.pre6 enc Try.prog Try.f5 Rows.codeIntsRow.domain false) (Rows.codeIntsSpec.post enc Try.prog Try.f5 false true false false) := by
  refine law_row (C := Try.checked) (n := 5) Cv.own started (by kernel_rfl) Try.func5 rfl rfl Cv.laid (by kernel_rfl) (by kernel_rfl) rfl Try.underlying4 rfl (fun ds h => ?_)
    (ChangeSpec.witness6 (enc := enc) (C := Try.checked) false ⟨#[], #[.int .i64 0, .int .i64 0], []⟩ 8 (by kernel_rfl) (by kernel_rfl) (by kernel_rfl) (by kernel_rfl)) (fun css h => ?_)
  · match ds, h with
    | [a, b], _ => exact ⟨rfl, rfl, rfl⟩
  · have h : All2 (fun t cs => TC Try.prog 5 t cs) [3, 3] css := h
    obtain ⟨a, r, rfl, h0, h⟩ := all2_cons h
    obtain ⟨b, r, rfl, h1, h⟩ := all2_cons h
    obtain rfl := all2_nil h
    obtain ⟨a, rfl⟩ := Cv.tc_int h0
    obtain ⟨b, rfl⟩ := Cv.tc_int h1
    show CallOk Try.prog 5 [.d (argD Try.prog 3 _), .d (argD Try.prog 3 _)] [] _
    rw [Cv.arg_int, Cv.arg_int]
    exact (Cv.ok5 a b).mono fun v s h => h.1
theorem over : Rows.codeIntsRow.holds Try.pinned (OpenSpec.ofChange Rows.codeIntsSpec) :=
  OpenClaim.holds_of_wide 5 Try.f5 rfl rfl rfl rfl rfl rfl rfl ⟨rfl, rfl, rfl, rfl, rfl⟩ rfl rfl rfl rfl rfl (by kernel_rfl) Try.func5 (by kernel_rfl)
    (of_decide_eq_true (by kernel_rfl)) (by unfold Func.isWrapper; first | (rw [if_pos (by decide +kernel)]; kernel_rfl) | (rw [if_neg (by decide +kernel)]; exact ⟨rfl, rfl⟩))
    (fun os started H enc _ => lifted os started H enc)
end Go.Proofs.Ytgbhfnbehmlohaa.codeInts
namespace Go.Proofs.Ytgbhfnbehmlohaa
/-- The row, under a short name, for the claim. -/
theorem codeInts_holds : Rows.CodeIntsSaid := codeInts.over
#print axioms codeInts_holds
end Go.Proofs.Ytgbhfnbehmlohaa
