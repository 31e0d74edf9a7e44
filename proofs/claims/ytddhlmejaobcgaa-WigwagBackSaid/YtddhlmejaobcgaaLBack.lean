import Derived.Test.YtddhlmejaobcgaaRows
import Derived.Test.YtddhlmejaobcgaaBKv
set_option linter.unusedVariables false
namespace Go.Proofs.Ytddhlmejaobcgaa.wigwagBack
open Go.ChangeShapes Go.WideShapes Go.ChangeAt Go.RowKit Go.Am
set_option maxRecDepth 100000 in
theorem lifted (os : Os) (started : os.Started) (H : Type) (enc : TypeId × Value → H) :
    ReturnsInHanded {} Try.checked os 5 .any (Rows.wigwagBackSpec.pre6 enc Try.prog Try.f5 Rows.wigwagBackRow.domain false) (Rows.wigwagBackSpec.post enc Try.prog Try.f5 false true false false) := by
  refine law_row (C := Try.checked) (n := 5) Bk.own started (by kernel_rfl) Try.func5 rfl rfl Bk.laid (by kernel_rfl) (by kernel_rfl) rfl Try.underlying4 rfl (fun ds h => ?_)
    (ChangeSpec.witness6 (enc := enc) (C := Try.checked) false ⟨#[], #[.slice none 0 0, .slice none 0 0, .int .i64 0], []⟩ 8 (by kernel_rfl) (by kernel_rfl) (by kernel_rfl) (by kernel_rfl)) (fun css h => ?_)
  · match ds, h with
    | [a, b, c], _ => exact ⟨rfl, rfl, rfl⟩
  · have h : All2 (fun t cs => TC Try.prog 5 t cs) [54, 70, 3] css := h
    obtain ⟨a, r, rfl, h0, h⟩ := all2_cons h
    obtain ⟨b, r, rfl, h1, h⟩ := all2_cons h
    obtain ⟨c, r, rfl, h2, h⟩ := all2_cons h
    obtain rfl := all2_nil h
    obtain ⟨zs, rfl, hz⟩ := Bk.tc_ids h0
    obtain ⟨vs, rfl⟩ := Bk.tc_ints h1
    obtain ⟨k, rfl⟩ := Bk.tc_int h2
    show CallOk Try.prog 5 [.d (argD Try.prog 54 _), .d (argD Try.prog 70 _), .d (argD Try.prog 3 _)] [] _
    rw [Bk.arg_ids, Bk.arg_ints, Bk.arg_int]
    exact Bk.row5 zs vs k hz
theorem over : Rows.wigwagBackRow.holds Try.pinned (OpenSpec.ofChange Rows.wigwagBackSpec) :=
  OpenClaim.holds_of_wide 5 Try.f5 rfl rfl rfl rfl rfl rfl rfl ⟨rfl, rfl, rfl, rfl, rfl⟩ rfl rfl rfl rfl rfl (by kernel_rfl) Try.func5 (by kernel_rfl)
    (of_decide_eq_true (by kernel_rfl)) (by unfold Func.isWrapper; first | (rw [if_pos (by decide +kernel)]; kernel_rfl) | (rw [if_neg (by decide +kernel)]; exact ⟨rfl, rfl⟩))
    (fun os started H enc _ => lifted os started H enc)
end Go.Proofs.Ytddhlmejaobcgaa.wigwagBack
namespace Go.Proofs.Ytddhlmejaobcgaa
/-- The row, under a short name, for the claim. -/
theorem wigwagBack_holds : Rows.WigwagBackSaid := wigwagBack.over
#print axioms wigwagBack_holds
end Go.Proofs.Ytddhlmejaobcgaa
