import Derived.Test.YtllcjdijkmancaaRows
import Derived.Test.YtllcjdijkmancaaD27
set_option linter.unusedVariables false
namespace Go.Proofs.Ytllcjdijkmancaa.dyadFine
open Go.ChangeShapes Go.WideShapes Go.ChangeAt Go.RowKit Go.Am
set_option maxRecDepth 100000 in
theorem lifted (os : Os) (started : os.Started) (H : Type) (enc : TypeId × Value → H) :
    ReturnsInHanded {} Try.checked os 9 .any (Rows.dyadFineSpec.pre6 enc Try.prog Try.f9 Rows.dyadFineRow.domain false) (Rows.dyadFineSpec.post enc Try.prog Try.f9 false true false false) := by
  refine law_row (C := Try.checked) (n := 5) Dy.own started (by kernel_rfl) Try.func9 rfl rfl Dy.laid (by kernel_rfl) (by kernel_rfl) rfl Try.underlying4 rfl (fun ds h => ?_)
    (ChangeSpec.witness6 (enc := enc) (C := Try.checked) false ⟨#[], #[.slice none 0 0, .agg #[.int .i64 0, .string ⟨#[]⟩], .int .i64 0], []⟩ 8 (by kernel_rfl) (by kernel_rfl) (by kernel_rfl) (by kernel_rfl)) (fun css h => ?_)
  · match ds, h with
    | [a, b, c], _ => exact ⟨rfl, rfl, rfl⟩
  · have h : All2 (fun t cs => TC Try.prog 5 t cs) [60, 47, 3] css := h
    obtain ⟨a, r, rfl, h0, h⟩ := all2_cons h
    obtain ⟨b, r, rfl, h1, h⟩ := all2_cons h
    obtain ⟨c, r, rfl, h2, h⟩ := all2_cons h
    obtain rfl := all2_nil h
    obtain ⟨s, rfl⟩ := Dy.tc_ats h0
    obtain ⟨v, rfl⟩ := Dy.tc_va' h1
    obtain ⟨n, rfl⟩ := Dy.tc_int h2
    show CallOk Try.prog 9 [.d (argD Try.prog 60 _), .d (argD Try.prog 47 _), .d (argD Try.prog 3 _)] [] _
    rw [Dy.arg_ats, Dy.arg_va, Dy.arg_int]
    exact (Dy.ok9 s v n).mono fun v s h => h.1
theorem over : Rows.dyadFineRow.holds Try.pinned (OpenSpec.ofChange Rows.dyadFineSpec) :=
  OpenClaim.holds_of_wide 9 Try.f9 rfl rfl rfl rfl rfl rfl rfl ⟨rfl, rfl, rfl, rfl, rfl⟩ rfl rfl rfl rfl rfl (by kernel_rfl) Try.func9 (by kernel_rfl)
    (of_decide_eq_true (by kernel_rfl)) (by unfold Func.isWrapper; first | (rw [if_pos (by decide +kernel)]; kernel_rfl) | (rw [if_neg (by decide +kernel)]; exact ⟨rfl, rfl⟩))
    (fun os started H enc _ => lifted os started H enc)
end Go.Proofs.Ytllcjdijkmancaa.dyadFine
namespace Go.Proofs.Ytllcjdijkmancaa
/-- The row, under a short name, for the claim. -/
theorem dyadFine_holds : Rows.DyadFineSaid := dyadFine.over
#print axioms dyadFine_holds
end Go.Proofs.Ytllcjdijkmancaa
