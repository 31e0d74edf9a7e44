import Derived.Test.YtllcjdijkmancaaRows
import Derived.Test.YtllcjdijkmancaaD27
set_option linter.unusedVariables false
namespace Go.Proofs.Ytllcjdijkmancaa.dyadTakes
open Go.ChangeShapes Go.WideShapes Go.ChangeAt Go.RowKit Go.Am
set_option maxRecDepth 100000 in
theorem lifted (os : Os) (started : os.Started) (H : Type) (enc : TypeId × Value → H) :
    ReturnsInHanded {} Try.checked os 10 .any (Rows.dyadTakesSpec.pre6 enc Try.prog Try.f10 Rows.dyadTakesRow.domain false) (Rows.dyadTakesSpec.post enc Try.prog Try.f10 false true false false) := by
  refine law_row (C := Try.checked) (n := 5) Dy.own started (by kernel_rfl) Try.func10 rfl rfl Dy.laid (by kernel_rfl) (by kernel_rfl) rfl Try.underlying4 rfl (fun ds h => ?_)
    (ChangeSpec.witness6 (enc := enc) (C := Try.checked) false ⟨#[], #[.slice none 0 0, .slice none 0 0, .agg #[.slice none 0 0, .string ⟨#[]⟩], .int .i64 0], []⟩ 8 (by kernel_rfl) (by kernel_rfl) (by kernel_rfl) (by kernel_rfl)) (fun css h => ?_)
  · match ds, h with
    | [a, b, c, d], _ => exact ⟨rfl, rfl, rfl⟩
  · have h : All2 (fun t cs => TC Try.prog 5 t cs) [60, 70, 73, 3] css := h
    obtain ⟨a, r, rfl, h0, h⟩ := all2_cons h
    obtain ⟨b, r, rfl, h1, h⟩ := all2_cons h
    obtain ⟨c, r, rfl, h2, h⟩ := all2_cons h
    obtain ⟨d, r, rfl, h3, h⟩ := all2_cons h
    obtain rfl := all2_nil h
    obtain ⟨s, rfl⟩ := Dy.tc_ats h0
    obtain ⟨f, rfl⟩ := Dy.tc_prs h1
    obtain ⟨e, rfl⟩ := Dy.tc_ev h2
    obtain ⟨n, rfl⟩ := Dy.tc_int h3
    show CallOk Try.prog 10 [.d (argD Try.prog 60 _), .d (argD Try.prog 70 _), .d (argD Try.prog 73 _), .d (argD Try.prog 3 _)] [] _
    rw [Dy.arg_ats, Dy.arg_prs, Dy.arg_ev, Dy.arg_int]
    exact (Dy.ok10 s f e n).mono fun v s h => h.1
theorem over : Rows.dyadTakesRow.holds Try.pinned (OpenSpec.ofChange Rows.dyadTakesSpec) :=
  OpenClaim.holds_of_wide 10 Try.f10 rfl rfl rfl rfl rfl rfl rfl ⟨rfl, rfl, rfl, rfl, rfl⟩ rfl rfl rfl rfl rfl (by kernel_rfl) Try.func10 (by kernel_rfl)
    (of_decide_eq_true (by kernel_rfl)) (by unfold Func.isWrapper; first | (rw [if_pos (by decide +kernel)]; kernel_rfl) | (rw [if_neg (by decide +kernel)]; exact ⟨rfl, rfl⟩))
    (fun os started H enc _ => lifted os started H enc)
end Go.Proofs.Ytllcjdijkmancaa.dyadTakes
namespace Go.Proofs.Ytllcjdijkmancaa
/-- The row, under a short name, for the claim. -/
theorem dyadTakes_holds : Rows.DyadTakesSaid := dyadTakes.over
#print axioms dyadTakes_holds
end Go.Proofs.Ytllcjdijkmancaa
