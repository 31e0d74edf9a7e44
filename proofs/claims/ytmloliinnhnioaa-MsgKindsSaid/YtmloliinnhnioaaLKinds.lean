import Derived.Test.YtmloliinnhnioaaRows
import Derived.Test.YtmloliinnhnioaaMV
set_option linter.unusedVariables false
namespace Go.Proofs.Ytmloliinnhnioaa.msgKinds
open Go.ChangeShapes Go.WideShapes Go.ChangeAt Go.RowKit Go.Am
set_option maxRecDepth 100000 in
theorem lifted (os : Os) (started : os.Started) (H : Type) (enc : TypeId × Value → H) :
    ReturnsInHanded {} Try.checked os 5 .any (Rows.msgKindsSpec.pre6 enc Try.prog Try.f5 Rows.msgKindsRow.domain false) (Rows.msgKindsSpec.post enc Try.prog Try.f5 false true false false) := by
  refine law_row (C := Try.checked) (n := 6) Mv.own started (by kernel_rfl) Try.func5 rfl rfl Mv.laid (by kernel_rfl) (by kernel_rfl) rfl Try.underlying4 rfl (fun ds h => ?_)
    (ChangeSpec.witness6 (enc := enc) (C := Try.checked) false ⟨#[], #[.agg #[.int .i64 0, .string ⟨#[]⟩, .bool false, .slice none 0 0, .int .i64 0, .int .i64 0, .int .i64 0, .slice none 0 0, .string ⟨#[]⟩], .int .i64 0], []⟩ 8 (by kernel_rfl) (by kernel_rfl) (by kernel_rfl) (by kernel_rfl)) (fun css h => ?_)
  · match ds, h with
    | [a, b], _ => exact ⟨rfl, rfl, rfl⟩
  · have h : All2 (fun t cs => TC Try.prog 6 t cs) [27, 3] css := h
    obtain ⟨a, r, rfl, h0, h⟩ := all2_cons h
    obtain ⟨b, r, rfl, h1, h⟩ := all2_cons h
    obtain rfl := all2_nil h
    obtain ⟨m, rfl⟩ := Mv.tc_mg h0
    obtain ⟨x, rfl⟩ := Mv.tc_int h1
    show CallOk Try.prog 5 [.d (argD Try.prog 27 _), .d (argD Try.prog 3 _)] [] _
    rw [Mv.arg_mg, Mv.arg_int]
    exact (Mv.ok5 m x).mono fun v s h => h.1
theorem over : Rows.msgKindsRow.holds Try.pinned (OpenSpec.ofChange Rows.msgKindsSpec) :=
  OpenClaim.holds_of_wide 5 Try.f5 rfl rfl rfl rfl rfl rfl rfl ⟨rfl, rfl, rfl, rfl, rfl⟩ rfl rfl rfl rfl rfl (by kernel_rfl) Try.func5 (by kernel_rfl)
    (of_decide_eq_true (by kernel_rfl)) (by unfold Func.isWrapper; first | (rw [if_pos (by decide +kernel)]; kernel_rfl) | (rw [if_neg (by decide +kernel)]; exact ⟨rfl, rfl⟩))
    (fun os started H enc _ => lifted os started H enc)
end Go.Proofs.Ytmloliinnhnioaa.msgKinds
namespace Go.Proofs.Ytmloliinnhnioaa
/-- The row, under a short name, for the claim. -/
theorem msgKinds_holds : Rows.MsgKindsSaid := msgKinds.over
#print axioms msgKinds_holds
end Go.Proofs.Ytmloliinnhnioaa
