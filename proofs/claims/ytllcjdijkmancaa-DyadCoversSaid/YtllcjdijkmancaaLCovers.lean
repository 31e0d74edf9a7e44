import Derived.Test.YtllcjdijkmancaaRows
import Derived.Test.YtllcjdijkmancaaD6
import Derived.Test.YtllcjdijkmancaaD18
set_option linter.unusedVariables false
namespace Go.Proofs.Ytllcjdijkmancaa.dyadCovers
open Go.ChangeShapes Go.WideShapes Go.ChangeAt Go.RowKit Go.Am
set_option maxRecDepth 100000 in
theorem lifted (os : Os) (started : os.Started) (H : Type) (enc : TypeId × Value → H) :
    ReturnsInHanded {} Try.checked os 3 .any (Rows.dyadCoversSpec.pre6 enc Try.prog Try.f3 Rows.dyadCoversRow.domain false) (Rows.dyadCoversSpec.post enc Try.prog Try.f3 false true false false) := by
  refine law_row (C := Try.checked) (n := 3) Dy.own started (by kernel_rfl) Try.func3 rfl rfl Dy.laid (by kernel_rfl) (by kernel_rfl) rfl Try.underlying4 rfl (fun ds h => ?_)
    (ChangeSpec.witness6 (enc := enc) (C := Try.checked) false ⟨#[], #[.int .i64 0, .int .i64 0, .int .i64 0, .agg #[.int .i64 0, .int .i64 0]], []⟩ 8 (by kernel_rfl) (by kernel_rfl) (by kernel_rfl) (by kernel_rfl)) (fun css h => ?_)
  · match ds, h with
    | [a, b, c, d], _ => exact ⟨rfl, rfl, rfl⟩
  · have h : All2 (fun t cs => TC Try.prog 3 t cs) [3, 3, 3, 23] css := h
    obtain ⟨a, r, rfl, h1, h⟩ := all2_cons h
    obtain ⟨b, r, rfl, h2, h⟩ := all2_cons h
    obtain ⟨c, r, rfl, h3, h⟩ := all2_cons h
    obtain ⟨d, r, rfl, h4, h⟩ := all2_cons h
    obtain rfl := all2_nil h
    obtain ⟨lo, rfl⟩ := Dy.tc_int h1
    obtain ⟨hi, rfl⟩ := Dy.tc_int h2
    obtain ⟨m, rfl⟩ := Dy.tc_int h3
    obtain ⟨l, i, rfl⟩ := Dy.tc_iv h4
    show CallOk Try.prog 3 [.d (argD Try.prog 3 _), .d (argD Try.prog 3 _), .d (argD Try.prog 3 _), .d (argD Try.prog 23 _)] [] _
    rw [Dy.arg_iv, Dy.arg_int, Dy.arg_int, Dy.arg_int]
    exact (Dy.ok3 lo hi m l i).mono fun v s h => h.1
theorem over : Rows.dyadCoversRow.holds Try.pinned (OpenSpec.ofChange Rows.dyadCoversSpec) :=
  OpenClaim.holds_of_wide 3 Try.f3 rfl rfl rfl rfl rfl rfl rfl ⟨rfl, rfl, rfl, rfl, rfl⟩ rfl rfl rfl rfl rfl (by kernel_rfl) Try.func3 (by kernel_rfl)
    (of_decide_eq_true (by kernel_rfl)) (by unfold Func.isWrapper; first | (rw [if_pos (by decide +kernel)]; kernel_rfl) | (rw [if_neg (by decide +kernel)]; exact ⟨rfl, rfl⟩))
    (fun os started H enc _ => lifted os started H enc)
end Go.Proofs.Ytllcjdijkmancaa.dyadCovers
namespace Go.Proofs.Ytllcjdijkmancaa
/-- The row, under a short name, for the claim. -/
theorem dyadCovers_holds : Rows.DyadCoversSaid := dyadCovers.over
#print axioms dyadCovers_holds
end Go.Proofs.Ytllcjdijkmancaa
