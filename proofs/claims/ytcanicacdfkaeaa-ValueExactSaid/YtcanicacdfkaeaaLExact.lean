import Derived.Test.YtcanicacdfkaeaaRows
import Derived.Test.YtcanicacdfkaeaaVR
import Derived.Test.YtcanicacdfkaeaaVA2
set_option linter.unusedVariables false
namespace Go.Proofs.Ytcanicacdfkaeaa.valueExact
open Go.ChangeShapes Go.WideShapes Go.ChangeAt Go.RowKit Go.Am
set_option maxRecDepth 100000 in
theorem lifted (os : Os) (started : os.Started) (H : Type) (enc : TypeId × Value → H) :
    ReturnsInHanded {} Try.checked os 7 .any (Rows.valueExactSpec.pre6 enc Try.prog Try.f7 Rows.valueExactRow.domain false) (Rows.valueExactSpec.post enc Try.prog Try.f7 false true false false) := by
  refine law_row (C := Try.checked) (n := 5) Va.own started (by kernel_rfl) Try.func7 rfl rfl Va.laid (by kernel_rfl) (by kernel_rfl) rfl Try.underlying4 rfl (fun ds h => ?_)
    (ChangeSpec.witness6 (enc := enc) (C := Try.checked) false ⟨#[], #[.string ⟨#[]⟩, .string ⟨#[]⟩], []⟩ 8 (by kernel_rfl) (by kernel_rfl) (by kernel_rfl) (by kernel_rfl)) (fun css h => ?_)
  · match ds, h with
    | [a, b], _ => exact ⟨rfl, rfl, rfl⟩
  · have h : All2 (fun t cs => TC Try.prog 5 t cs) [9, 9] css := h
    obtain ⟨a, r, rfl, h0, h⟩ := all2_cons h
    obtain ⟨b, r, rfl, h1, h⟩ := all2_cons h
    obtain rfl := all2_nil h
    obtain ⟨t, rfl⟩ := Va.tc_str h0
    obtain ⟨u, rfl⟩ := Va.tc_str h1
    show CallOk Try.prog 7 [.d (argD Try.prog 9 _), .d (argD Try.prog 9 _)] [] _
    rw [Va.arg_str, Va.arg_str]
    exact (Va.ok7 t u).mono fun v s h => h.1
theorem over : Rows.valueExactRow.holds Try.pinned (OpenSpec.ofChange Rows.valueExactSpec) :=
  OpenClaim.holds_of_wide 7 Try.f7 rfl rfl rfl rfl rfl rfl rfl ⟨rfl, rfl, rfl, rfl, rfl⟩ rfl rfl rfl rfl rfl (by kernel_rfl) Try.func7 (by kernel_rfl)
    (of_decide_eq_true (by kernel_rfl)) (by unfold Func.isWrapper; first | (rw [if_pos (by decide +kernel)]; kernel_rfl) | (rw [if_neg (by decide +kernel)]; exact ⟨rfl, rfl⟩))
    (fun os started H enc _ => lifted os started H enc)
end Go.Proofs.Ytcanicacdfkaeaa.valueExact
namespace Go.Proofs.Ytcanicacdfkaeaa
/-- The row, under a short name, for the claim. -/
theorem valueExact_holds : Rows.ValueExactSaid := valueExact.over
#print axioms valueExact_holds
end Go.Proofs.Ytcanicacdfkaeaa
