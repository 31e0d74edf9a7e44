import Derived.Test.YtmloliinnhnioaaRows
import Derived.Test.YtmloliinnhnioaaMV
set_option linter.unusedVariables false
namespace Go.Proofs.Ytmloliinnhnioaa.msgCut
open Go.ChangeShapes Go.WideShapes Go.ChangeAt Go.RowKit Go.Am
set_option maxRecDepth 100000 in
theorem lifted (os : Os) (started : os.Started) (H : Type) (enc : TypeId × Value → H) :
    ReturnsInHanded {} Try.checked os 4 .any (Rows.msgCutSpec.pre6 enc Try.prog Try.f4 Rows.msgCutRow.domain false) (Rows.msgCutSpec.post enc Try.prog Try.f4 false true false false) := by
  refine law_row (C := Try.checked) (n := 6) Mv.own started (by kernel_rfl) Try.func4 rfl rfl Mv.laid (by kernel_rfl) (by kernel_rfl) rfl Try.underlying4 rfl (fun ds h => ?_)
    (ChangeSpec.witness6 (enc := enc) (C := Try.checked) false ⟨#[], #[.agg #[.int .i64 0, .string ⟨#[]⟩, .bool false, .slice none 0 0, .int .i64 0, .int .i64 0, .int .i64 0, .slice none 0 0, .string ⟨#[]⟩], .int .i64 0, .int .u8 0], []⟩ 8 (by kernel_rfl) (by kernel_rfl) (by kernel_rfl) (by kernel_rfl)) (fun css h => ?_)
  · match ds, h with
    | [a, b, c], _ => exact ⟨rfl, rfl, rfl⟩
  · have h : All2 (fun t cs => TC Try.prog 6 t cs) [27, 3, 5] css := h
    obtain ⟨a, r, rfl, h0, h⟩ := all2_cons h
    obtain ⟨b, r, rfl, h1, h⟩ := all2_cons h
    obtain ⟨c, r, rfl, h2, h⟩ := all2_cons h
    obtain rfl := all2_nil h
    obtain ⟨m, rfl⟩ := Mv.tc_mg h0
    obtain ⟨x, rfl⟩ := Mv.tc_int h1
    obtain ⟨y, rfl⟩ := Mv.tc_u8 h2
    show CallOk Try.prog 4 [.d (argD Try.prog 27 _), .d (argD Try.prog 3 _), .d (argD Try.prog 5 _)] [] _
    rw [Mv.arg_mg, Mv.arg_int, Mv.arg_u8]
    exact (Mv.ok4 m x y).mono fun v s h => h.1
theorem over : Rows.msgCutRow.holds Try.pinned (OpenSpec.ofChange Rows.msgCutSpec) :=
  OpenClaim.holds_of_wide 4 Try.f4 rfl rfl rfl rfl rfl rfl rfl ⟨rfl, rfl, rfl, rfl, rfl⟩ rfl rfl rfl rfl rfl (by kernel_rfl) Try.func4 (by kernel_rfl)
    (of_decide_eq_true (by kernel_rfl)) (by unfold Func.isWrapper; first | (rw [if_pos (by decide +kernel)]; kernel_rfl) | (rw [if_neg (by decide +kernel)]; exact ⟨rfl, rfl⟩))
    (fun os started H enc _ => lifted os started H enc)
end Go.Proofs.Ytmloliinnhnioaa.msgCut
namespace Go.Proofs.Ytmloliinnhnioaa
/-- The row, under a short name, for the claim. -/
theorem msgCut_holds : Rows.MsgCutSaid := msgCut.over
#print axioms msgCut_holds
end Go.Proofs.Ytmloliinnhnioaa
