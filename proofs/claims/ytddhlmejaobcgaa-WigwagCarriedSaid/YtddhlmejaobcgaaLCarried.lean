import Derived.Test.YtddhlmejaobcgaaRows
import Derived.Test.YtddhlmejaobcgaaWCv
set_option linter.unusedVariables false
namespace Go.Proofs.Ytddhlmejaobcgaa.wigwagCarried
open Go.ChangeShapes Go.WideShapes Go.ChangeAt Go.RowKit Go.Am
set_option maxRecDepth 100000 in
theorem lifted (os : Os) (started : os.Started) (H : Type) (enc : TypeId × Value → H) :
    ReturnsInHanded {} Try.checked os 3 .any (Rows.wigwagCarriedSpec.pre6 enc Try.prog Try.f3 Rows.wigwagCarriedRow.domain false) (Rows.wigwagCarriedSpec.post enc Try.prog Try.f3 false true false false) := by
  refine law_row (C := Try.checked) (n := 6) Lk.own started (by kernel_rfl) Try.func3 rfl rfl Lk.laid (by kernel_rfl) (by kernel_rfl) rfl Try.underlying4 rfl (fun ds h => ?_)
    (ChangeSpec.witness6 (enc := enc) (C := Try.checked) false ⟨#[], #[.slice none 0 0], []⟩ 8 (by kernel_rfl) (by kernel_rfl) (by kernel_rfl) (by kernel_rfl)) (fun css h => ?_)
  · match ds, h with
    | [a], _ => exact ⟨rfl, rfl, rfl⟩
  · have h : All2 (fun t cs => TC Try.prog 6 t cs) [22] css := h
    obtain ⟨a, r, rfl, h0, h⟩ := all2_cons h
    obtain rfl := all2_nil h
    obtain ⟨T, rfl⟩ := Lk.tc_acs h0
    show CallOk Try.prog 3 [.d (argD Try.prog 22 _)] [] _
    rw [Lk.arg_acs]
    exact (Lk.ok3 T).mono fun v s h => h.1
theorem over : Rows.wigwagCarriedRow.holds Try.pinned (OpenSpec.ofChange Rows.wigwagCarriedSpec) :=
  OpenClaim.holds_of_wide 3 Try.f3 rfl rfl rfl rfl rfl rfl rfl ⟨rfl, rfl, rfl, rfl, rfl⟩ rfl rfl rfl rfl rfl (by kernel_rfl) Try.func3 (by kernel_rfl)
    (of_decide_eq_true (by kernel_rfl)) (by unfold Func.isWrapper; first | (rw [if_pos (by decide +kernel)]; kernel_rfl) | (rw [if_neg (by decide +kernel)]; exact ⟨rfl, rfl⟩))
    (fun os started H enc _ => lifted os started H enc)
end Go.Proofs.Ytddhlmejaobcgaa.wigwagCarried
namespace Go.Proofs.Ytddhlmejaobcgaa
/-- The row, under a short name, for the claim. -/
theorem wigwagCarried_holds : Rows.WigwagCarriedSaid := wigwagCarried.over
#print axioms wigwagCarried_holds
end Go.Proofs.Ytddhlmejaobcgaa
