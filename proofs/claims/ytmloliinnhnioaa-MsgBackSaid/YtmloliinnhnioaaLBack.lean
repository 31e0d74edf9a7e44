import Derived.Test.YtmloliinnhnioaaRows
import Derived.Test.YtmloliinnhnioaaMV
set_option linter.unusedVariables false
namespace Go.Proofs.Ytmloliinnhnioaa.msgBack
open Go.ChangeShapes Go.WideShapes Go.ChangeAt Go.RowKit Go.Am
set_option maxRecDepth 100000 in
theorem lifted (os : Os) (started : os.Started) (H : Type) (enc : TypeId × Value → H) :
    ReturnsInHanded {} Try.checked os 3 .any (Rows.msgBackSpec.pre6 enc Try.prog Try.f3 Rows.msgBackRow.domain false) (Rows.msgBackSpec.post enc Try.prog Try.f3 false true false false) := by
  refine law_row (C := Try.checked) (n := 6) Mv.own started (by kernel_rfl) Try.func3 rfl rfl Mv.laid (by kernel_rfl) (by kernel_rfl) rfl Try.underlying4 rfl (fun ds h => ?_)
    (ChangeSpec.witness6 (enc := enc) (C := Try.checked) false ⟨#[], #[.agg #[.int .i64 0, .string ⟨#[]⟩, .bool false, .slice none 0 0, .int .i64 0, .int .i64 0, .int .i64 0, .slice none 0 0, .string ⟨#[]⟩], .string ⟨#[]⟩], []⟩ 8 (by kernel_rfl) (by kernel_rfl) (by kernel_rfl) (by kernel_rfl)) (fun css h => ?_)
  · match ds, h with
    | [a, b], _ => exact ⟨rfl, rfl, rfl⟩
  · have h : All2 (fun t cs => TC Try.prog 6 t cs) [27, 9] css := h
    obtain ⟨a, r, rfl, h0, h⟩ := all2_cons h
    obtain ⟨b, r, rfl, h1, h⟩ := all2_cons h
    obtain rfl := all2_nil h
    obtain ⟨m, rfl⟩ := Mv.tc_mg h0
    obtain ⟨x, rfl⟩ := Mv.tc_str h1
    show CallOk Try.prog 3 [.d (argD Try.prog 27 _), .d (argD Try.prog 9 _)] [] _
    rw [Mv.arg_mg, Mv.arg_str]
    exact (Mv.ok3 m x).mono fun v s h => h.1
theorem over : Rows.msgBackRow.holds Try.pinned (OpenSpec.ofChange Rows.msgBackSpec) :=
  OpenClaim.holds_of_wide 3 Try.f3 rfl rfl rfl rfl rfl rfl rfl ⟨rfl, rfl, rfl, rfl, rfl⟩ rfl rfl rfl rfl rfl (by kernel_rfl) Try.func3 (by kernel_rfl)
    (of_decide_eq_true (by kernel_rfl)) (by unfold Func.isWrapper; first | (rw [if_pos (by decide +kernel)]; kernel_rfl) | (rw [if_neg (by decide +kernel)]; exact ⟨rfl, rfl⟩))
    (fun os started H enc _ => lifted os started H enc)
end Go.Proofs.Ytmloliinnhnioaa.msgBack
namespace Go.Proofs.Ytmloliinnhnioaa
/-- The row, under a short name, for the claim. -/
theorem msgBack_holds : Rows.MsgBackSaid := msgBack.over
#print axioms msgBack_holds
end Go.Proofs.Ytmloliinnhnioaa
