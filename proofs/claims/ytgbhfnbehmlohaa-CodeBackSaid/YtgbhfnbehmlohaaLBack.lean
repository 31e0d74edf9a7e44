import Derived.Test.YtgbhfnbehmlohaaRows
import Derived.Test.YtgbhfnbehmlohaaCV
set_option linter.unusedVariables false
namespace Go.Proofs.Ytgbhfnbehmlohaa.codeBack
open Go.ChangeShapes Go.WideShapes Go.ChangeAt Go.RowKit Go.Am
set_option maxRecDepth 100000 in
theorem lifted (os : Os) (started : os.Started) (H : Type) (enc : TypeId × Value → H) :
    ReturnsInHanded {} Try.checked os 6 .any (Rows.codeBackSpec.pre6 enc Try.prog Try.f6 Rows.codeBackRow.domain false) (Rows.codeBackSpec.post enc Try.prog Try.f6 false true false false) := by
  refine law_row (C := Try.checked) (n := 5) Cv.own started (by kernel_rfl) Try.func6 rfl rfl Cv.laid (by kernel_rfl) (by kernel_rfl) rfl Try.underlying4 rfl (fun ds h => ?_)
    (ChangeSpec.witness6 (enc := enc) (C := Try.checked) false ⟨#[], #[.slice none 0 0], []⟩ 8 (by kernel_rfl) (by kernel_rfl) (by kernel_rfl) (by kernel_rfl)) (fun css h => ?_)
  · match ds, h with
    | [a], _ => exact ⟨rfl, rfl, rfl⟩
  · have h : All2 (fun t cs => TC Try.prog 5 t cs) [22] css := h
    obtain ⟨a, r, rfl, h0, h⟩ := all2_cons h
    obtain rfl := all2_nil h
    obtain ⟨l, rfl⟩ := Cv.tc_ths h0
    show CallOk Try.prog 6 [.d (argD Try.prog 22 _)] [] _
    rw [Cv.arg_ths]
    exact (Cv.ok6 l).mono fun v s h => h.1
theorem over : Rows.codeBackRow.holds Try.pinned (OpenSpec.ofChange Rows.codeBackSpec) :=
  OpenClaim.holds_of_wide 6 Try.f6 rfl rfl rfl rfl rfl rfl rfl ⟨rfl, rfl, rfl, rfl, rfl⟩ rfl rfl rfl rfl rfl (by kernel_rfl) Try.func6 (by kernel_rfl)
    (of_decide_eq_true (by kernel_rfl)) (by unfold Func.isWrapper; first | (rw [if_pos (by decide +kernel)]; kernel_rfl) | (rw [if_neg (by decide +kernel)]; exact ⟨rfl, rfl⟩))
    (fun os started H enc _ => lifted os started H enc)
end Go.Proofs.Ytgbhfnbehmlohaa.codeBack
namespace Go.Proofs.Ytgbhfnbehmlohaa
/-- The row, under a short name, for the claim. -/
theorem codeBack_holds : Rows.CodeBackSaid := codeBack.over
#print axioms codeBack_holds
end Go.Proofs.Ytgbhfnbehmlohaa
