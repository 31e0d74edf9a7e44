import Derived.Test.YtddhlmejaobcgaaRows
import Derived.Test.YtddhlmejaobcgaaTV
set_option linter.unusedVariables false
namespace Go.Proofs.Ytddhlmejaobcgaa.wigwagPlaced
open Go.ChangeShapes Go.WideShapes Go.ChangeAt Go.RowKit Go.Am
set_option maxRecDepth 100000 in
theorem lifted (os : Os) (started : os.Started) (H : Type) (enc : TypeId × Value → H) :
    ReturnsInHanded {} Try.checked os 4 .any (Rows.wigwagPlacedSpec.pre6 enc Try.prog Try.f4 Rows.wigwagPlacedRow.domain false) (Rows.wigwagPlacedSpec.post enc Try.prog Try.f4 false true false false) := by
  refine law_row (C := Try.checked) (n := 5) Pu.own started (by kernel_rfl) Try.func4 rfl rfl Pu.laid (by kernel_rfl) (by kernel_rfl) rfl Try.underlying4 rfl (fun ds h => ?_)
    (ChangeSpec.witness6 (enc := enc) (C := Try.checked) false ⟨#[], #[.slice none 0 0, .int .u64 0], []⟩ 8 (by kernel_rfl) (by kernel_rfl) (by kernel_rfl) (by kernel_rfl)) (fun css h => ?_)
  · match ds, h with
    | [a, b], _ => exact ⟨rfl, rfl, rfl⟩
  · have h : All2 (fun t cs => TC Try.prog 5 t cs) [54, 56] css := h
    obtain ⟨a, r, rfl, h0, h⟩ := all2_cons h
    obtain ⟨b, r, rfl, h1, h⟩ := all2_cons h
    obtain rfl := all2_nil h
    obtain ⟨zs, rfl, hz⟩ := Pu.tc_ids h0
    obtain ⟨x, rfl, hx⟩ := Pu.tc_id h1
    show CallOk Try.prog 4 [.d (argD Try.prog 54 _), .d (argD Try.prog 56 _)] [] _
    rw [Pu.arg_ids, Pu.arg_id]
    exact (Pu.ok4 zs x hz hx).mono fun v s h => h.1
theorem over : Rows.wigwagPlacedRow.holds Try.pinned (OpenSpec.ofChange Rows.wigwagPlacedSpec) :=
  OpenClaim.holds_of_wide 4 Try.f4 rfl rfl rfl rfl rfl rfl rfl ⟨rfl, rfl, rfl, rfl, rfl⟩ rfl rfl rfl rfl rfl (by kernel_rfl) Try.func4 (by kernel_rfl)
    (of_decide_eq_true (by kernel_rfl)) (by unfold Func.isWrapper; first | (rw [if_pos (by decide +kernel)]; kernel_rfl) | (rw [if_neg (by decide +kernel)]; exact ⟨rfl, rfl⟩))
    (fun os started H enc _ => lifted os started H enc)
end Go.Proofs.Ytddhlmejaobcgaa.wigwagPlaced
namespace Go.Proofs.Ytddhlmejaobcgaa
/-- The row, under a short name, for the claim. -/
theorem wigwagPlaced_holds : Rows.WigwagPlacedSaid := wigwagPlaced.over
#print axioms wigwagPlaced_holds
end Go.Proofs.Ytddhlmejaobcgaa
