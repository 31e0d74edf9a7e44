import Derived.Test.YtmloliinnhnioaaRows
import Derived.Test.YtmloliinnhnioaaMV
set_option linter.unusedVariables false
namespace Go.Proofs.Ytmloliinnhnioaa.msgApart
open Go.ChangeShapes Go.WideShapes Go.ChangeAt Go.RowKit Go.Am
set_option maxRecDepth 100000 in
theorem lifted (os : Os) (started : os.Started) (H : Type) (enc : TypeId × Value → H) :
    ReturnsInHanded {} Try.checked os 6 .any (Rows.msgApartSpec.pre6 enc Try.prog Try.f6 Rows.msgApartRow.domain false) (Rows.msgApartSpec.post enc Try.prog Try.f6 false true false false) := by
  refine law_row (C := Try.checked) (n := 6) Mv.own started (by kernel_rfl) Try.func6 rfl rfl Mv.laid (by kernel_rfl) (by kernel_rfl) rfl Try.underlying4 rfl (fun ds h => ?_)
    (ChangeSpec.witness6 (enc := enc) (C := Try.checked) false ⟨#[], #[.string ⟨#[]⟩, .string ⟨#[]⟩, .int .i64 0, .int .i64 0, .int .i64 0, .int .i64 0], []⟩ 8 (by kernel_rfl) (by kernel_rfl) (by kernel_rfl) (by kernel_rfl)) (fun css h => ?_)
  · match ds, h with
    | [a, b, c, d, e, f], _ => exact ⟨rfl, rfl, rfl⟩
  · have h : All2 (fun t cs => TC Try.prog 6 t cs) [9, 9, 3, 3, 3, 3] css := h
    obtain ⟨a, r, rfl, h0, h⟩ := all2_cons h
    obtain ⟨b, r, rfl, h1, h⟩ := all2_cons h
    obtain ⟨c, r, rfl, h2, h⟩ := all2_cons h
    obtain ⟨d, r, rfl, h3, h⟩ := all2_cons h
    obtain ⟨e, r, rfl, h4, h⟩ := all2_cons h
    obtain ⟨f, r, rfl, h5, h⟩ := all2_cons h
    obtain rfl := all2_nil h
    obtain ⟨x, rfl⟩ := Mv.tc_str h0
    obtain ⟨y, rfl⟩ := Mv.tc_str h1
    obtain ⟨p, rfl⟩ := Mv.tc_int h2
    obtain ⟨q, rfl⟩ := Mv.tc_int h3
    obtain ⟨r, rfl⟩ := Mv.tc_int h4
    obtain ⟨t, rfl⟩ := Mv.tc_int h5
    show CallOk Try.prog 6 [.d (argD Try.prog 9 _), .d (argD Try.prog 9 _), .d (argD Try.prog 3 _), .d (argD Try.prog 3 _), .d (argD Try.prog 3 _), .d (argD Try.prog 3 _)] [] _
    rw [Mv.arg_str, Mv.arg_str, Mv.arg_int, Mv.arg_int, Mv.arg_int, Mv.arg_int]
    exact (Mv.ok6 x y p q r t).mono fun v s h => h.1
theorem over : Rows.msgApartRow.holds Try.pinned (OpenSpec.ofChange Rows.msgApartSpec) :=
  OpenClaim.holds_of_wide 6 Try.f6 rfl rfl rfl rfl rfl rfl rfl ⟨rfl, rfl, rfl, rfl, rfl⟩ rfl rfl rfl rfl rfl (by kernel_rfl) Try.func6 (by kernel_rfl)
    (of_decide_eq_true (by kernel_rfl)) (by unfold Func.isWrapper; first | (rw [if_pos (by decide +kernel)]; kernel_rfl) | (rw [if_neg (by decide +kernel)]; exact ⟨rfl, rfl⟩))
    (fun os started H enc _ => lifted os started H enc)
end Go.Proofs.Ytmloliinnhnioaa.msgApart
namespace Go.Proofs.Ytmloliinnhnioaa
/-- The row, under a short name, for the claim. -/
theorem msgApart_holds : Rows.MsgApartSaid := msgApart.over
#print axioms msgApart_holds
end Go.Proofs.Ytmloliinnhnioaa
