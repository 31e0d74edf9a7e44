import Derived.Test.YtllcjdijkmancaaRows
import Derived.Test.YtllcjdijkmancaaD6
import Derived.Test.YtllcjdijkmancaaD22
set_option linter.unusedVariables false
namespace Go.Proofs.Ytllcjdijkmancaa.dyadCells
open Go.ChangeShapes Go.WideShapes Go.ChangeAt Go.RowKit Go.Am
set_option maxRecDepth 100000 in
theorem lifted (os : Os) (started : os.Started) (H : Type) (enc : TypeId × Value → H) :
    ReturnsInHanded {} Try.checked os 7 .any (Rows.dyadCellsSpec.pre6 enc Try.prog Try.f7 Rows.dyadCellsRow.domain false) (Rows.dyadCellsSpec.post enc Try.prog Try.f7 false true false false) := by
  refine law_row (C := Try.checked) (n := 3) Dy.own started (by kernel_rfl) Try.func7 rfl rfl Dy.laid (by kernel_rfl) (by kernel_rfl) rfl Try.underlying4 rfl (fun ds h => ?_)
    (ChangeSpec.witness6 (enc := enc) (C := Try.checked) false ⟨#[], #[.agg #[.string ⟨#[]⟩, .int .i64 0, .int .i64 0, .int .i64 0], .agg #[.int .i64 0, .string ⟨#[]⟩], .agg #[.string ⟨#[]⟩, .int .i64 0, .int .i64 0, .int .i64 0, .string ⟨#[]⟩], .int .i64 0], []⟩ 8 (by kernel_rfl) (by kernel_rfl) (by kernel_rfl) (by kernel_rfl)) (fun css h => ?_)
  · match ds, h with
    | [a, b, c, d], _ => exact ⟨rfl, rfl, rfl⟩
  · have h : All2 (fun t cs => TC Try.prog 3 t cs) [45, 47, 49, 3] css := h
    obtain ⟨a, r, rfl, h1, h⟩ := all2_cons h
    obtain ⟨b, r, rfl, h2, h⟩ := all2_cons h
    obtain ⟨c, r, rfl, h3, h⟩ := all2_cons h
    obtain ⟨d, r, rfl, h4, h⟩ := all2_cons h
    obtain rfl := all2_nil h
    obtain ⟨nm, k, mn, mx, rfl⟩ := Dy.tc_at h1
    obtain ⟨num, vs, rfl⟩ := Dy.tc_va h2
    obtain ⟨pn, o, lo, hi, s, rfl⟩ := Dy.tc_pr h3
    obtain ⟨m, rfl⟩ := Dy.tc_int h4
    show CallOk Try.prog 7 [.d (argD Try.prog 45 _), .d (argD Try.prog 47 _), .d (argD Try.prog 49 _), .d (argD Try.prog 3 _)] [] _
    rw [Dy.arg_at, Dy.arg_va, Dy.arg_pr, Dy.arg_int]
    exact (Dy.ok7 nm k mn mx num vs pn o lo hi s m).mono fun v s h => h.1
theorem over : Rows.dyadCellsRow.holds Try.pinned (OpenSpec.ofChange Rows.dyadCellsSpec) :=
  OpenClaim.holds_of_wide 7 Try.f7 rfl rfl rfl rfl rfl rfl rfl ⟨rfl, rfl, rfl, rfl, rfl⟩ rfl rfl rfl rfl rfl (by kernel_rfl) Try.func7 (by kernel_rfl)
    (of_decide_eq_true (by kernel_rfl)) (by unfold Func.isWrapper; first | (rw [if_pos (by decide +kernel)]; kernel_rfl) | (rw [if_neg (by decide +kernel)]; exact ⟨rfl, rfl⟩))
    (fun os started H enc _ => lifted os started H enc)
end Go.Proofs.Ytllcjdijkmancaa.dyadCells
namespace Go.Proofs.Ytllcjdijkmancaa
/-- The row, under a short name, for the claim. -/
theorem dyadCells_holds : Rows.DyadCellsSaid := dyadCells.over
#print axioms dyadCells_holds
end Go.Proofs.Ytllcjdijkmancaa
