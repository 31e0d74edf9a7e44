import Derived.Test.YtcanicacdfkaeaaRows
import Derived.Test.YtcanicacdfkaeaaVR
import Derived.Test.YtcanicacdfkaeaaVA8
set_option linter.unusedVariables false
namespace Go.Proofs.Ytcanicacdfkaeaa.valueMatches
open Go.ChangeShapes Go.WideShapes Go.ChangeAt Go.RowKit Go.Am
set_option maxRecDepth 100000 in
theorem lifted (os : Os) (started : os.Started) (H : Type) (enc : TypeId × Value → H) :
    ReturnsInHanded {} Try.checked os 3 .any (Rows.valueMatchesSpec.pre6 enc Try.prog Try.f3 Rows.valueMatchesRow.domain false) (Rows.valueMatchesSpec.post enc Try.prog Try.f3 false true false false) := by
  refine law_row (C := Try.checked) (n := 5) Va.own started (by kernel_rfl) Try.func3 rfl rfl Va.laid (by kernel_rfl) (by kernel_rfl) rfl Try.underlying4 rfl (fun ds h => ?_)
    (ChangeSpec.witness6 (enc := enc) (C := Try.checked) false ⟨#[], #[.slice none 0 0, .agg #[.slice none 0 0, .string ⟨#[]⟩], .slice none 0 0], []⟩ 8 (by kernel_rfl) (by kernel_rfl) (by kernel_rfl) (by kernel_rfl)) (fun css h => ?_)
  · match ds, h with
    | [a, b, c], _ => exact ⟨rfl, rfl, rfl⟩
  · have h : All2 (fun t cs => TC Try.prog 5 t cs) [23, 26, 28] css := h
    obtain ⟨a, r, rfl, h0, h⟩ := all2_cons h
    obtain ⟨b, r, rfl, h1, h⟩ := all2_cons h
    obtain ⟨c, r, rfl, h2, h⟩ := all2_cons h
    obtain rfl := all2_nil h
    obtain ⟨s, rfl⟩ := Va.tc_ats h0
    obtain ⟨e, rfl⟩ := Va.tc_ev h1
    obtain ⟨f, rfl⟩ := Va.tc_prs h2
    show CallOk Try.prog 3 [.d (argD Try.prog 23 _), .d (argD Try.prog 26 _), .d (argD Try.prog 28 _)] [] _
    rw [Va.arg_ats, Va.arg_ev, Va.arg_prs]
    exact (Va.ok3 s e f).mono fun v s h => h.1
theorem over : Rows.valueMatchesRow.holds Try.pinned (OpenSpec.ofChange Rows.valueMatchesSpec) :=
  OpenClaim.holds_of_wide 3 Try.f3 rfl rfl rfl rfl rfl rfl rfl ⟨rfl, rfl, rfl, rfl, rfl⟩ rfl rfl rfl rfl rfl (by kernel_rfl) Try.func3 (by kernel_rfl)
    (of_decide_eq_true (by kernel_rfl)) (by unfold Func.isWrapper; first | (rw [if_pos (by decide +kernel)]; kernel_rfl) | (rw [if_neg (by decide +kernel)]; exact ⟨rfl, rfl⟩))
    (fun os started H enc _ => lifted os started H enc)
end Go.Proofs.Ytcanicacdfkaeaa.valueMatches
namespace Go.Proofs.Ytcanicacdfkaeaa
/-- The row, under a short name, for the claim. -/
theorem valueMatches_holds : Rows.ValueMatchesSaid := valueMatches.over
#print axioms valueMatches_holds
end Go.Proofs.Ytcanicacdfkaeaa
