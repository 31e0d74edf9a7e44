import Derived.Test.YtllcjdijkmancaaRows
import Derived.Test.YtllcjdijkmancaaD6
set_option linter.unusedVariables false
namespace Go.Proofs.Ytllcjdijkmancaa.dyadNests
open Go.ChangeShapes Go.WideShapes Go.ChangeAt Go.RowKit Go.Am
set_option maxRecDepth 100000 in
theorem lifted (os : Os) (started : os.Started) (H : Type) (enc : TypeId × Value → H) :
    ReturnsInHanded {} Try.checked os 5 .any (Rows.dyadNestsSpec.pre6 enc Try.prog Try.f5 Rows.dyadNestsRow.domain false) (Rows.dyadNestsSpec.post enc Try.prog Try.f5 false true false false) := by
  refine law_row (C := Try.checked) (n := 3) Dy.own started (by kernel_rfl) Try.func5 rfl rfl Dy.laid (by kernel_rfl) (by kernel_rfl) rfl Try.underlying4 rfl (fun ds h => ?_)
    (ChangeSpec.witness6 (enc := enc) (C := Try.checked) false ⟨#[], #[.agg #[.int .i64 0, .int .i64 0], .agg #[.int .i64 0, .int .i64 0], .int .i64 0], []⟩ 8 (by kernel_rfl) (by kernel_rfl) (by kernel_rfl) (by kernel_rfl)) (fun css h => ?_)
  · match ds, h with
    | [a, b, c], _ => exact ⟨rfl, rfl, rfl⟩
  · have h : All2 (fun t cs => TC Try.prog 3 t cs) [23, 23, 3] css := h
    obtain ⟨a, r, rfl, h1, h⟩ := all2_cons h
    obtain ⟨b, r, rfl, h2, h⟩ := all2_cons h
    obtain ⟨c, r, rfl, h3, h⟩ := all2_cons h
    obtain rfl := all2_nil h
    obtain ⟨l, i, rfl⟩ := Dy.tc_iv h1
    obtain ⟨l', i', rfl⟩ := Dy.tc_iv h2
    obtain ⟨m, rfl⟩ := Dy.tc_int h3
    show CallOk Try.prog 5 [.d (argD Try.prog 23 _), .d (argD Try.prog 23 _), .d (argD Try.prog 3 _)] [] _
    rw [Dy.arg_iv, Dy.arg_iv, Dy.arg_int]
    exact (Dy.ok5 l i l' i' m).mono fun v s h => h.1
theorem over : Rows.dyadNestsRow.holds Try.pinned (OpenSpec.ofChange Rows.dyadNestsSpec) :=
  OpenClaim.holds_of_wide 5 Try.f5 rfl rfl rfl rfl rfl rfl rfl ⟨rfl, rfl, rfl, rfl, rfl⟩ rfl rfl rfl rfl rfl (by kernel_rfl) Try.func5 (by kernel_rfl)
    (of_decide_eq_true (by kernel_rfl)) (by unfold Func.isWrapper; first | (rw [if_pos (by decide +kernel)]; kernel_rfl) | (rw [if_neg (by decide +kernel)]; exact ⟨rfl, rfl⟩))
    (fun os started H enc _ => lifted os started H enc)
end Go.Proofs.Ytllcjdijkmancaa.dyadNests
namespace Go.Proofs.Ytllcjdijkmancaa
/-- The row, under a short name, for the claim. -/
theorem dyadNests_holds : Rows.DyadNestsSaid := dyadNests.over
#print axioms dyadNests_holds
end Go.Proofs.Ytllcjdijkmancaa
