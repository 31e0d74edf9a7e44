import Derived.Test.YtddhlmejaobcgaaDoorRows
import Derived.Test.YtddhlmejaobcgaaDoorCards
import Derived.Test.YtddhlmejaobcgaaDoorTie
import Derived.SevenTiedAt
import Derived.Test.YtddhlmejaobcgaaDoorGV
import Derived.Test.YtddhlmejaobcgaaDoorGDV
import Derived.Test.YtddhlmejaobcgaaDoorFX
set_option linter.unusedVariables false
namespace Go.Proofs.YtddhlmejaobcgaaDoor.wigwagAsked
open Go.ChangeShapes Go.WideShapes Go.ChangeAt Go.RowKit Go.Am
set_option maxRecDepth 100000 in
theorem lifted (os : Os) (started : os.Started) (H : Type) (enc : TypeId × Value → H) :
    ReturnsInHanded {} Tryd.checked os 4 .any (fun w args => (Rows.wigwagAskedSpec.pre enc Tryd.prog Tryd.f4 [] false w args ∧ laidMetH Tryd.prog As.laidE w) ∧ sizedMet enc Tryd.prog Tryd.f4 (OpenSpec.ofChange Rows.wigwagAskedSpec) false w args) (Rows.wigwagAskedSpec.post enc Tryd.prog Tryd.f4 false true false false) := by
  refine law_rowL (C := Tryd.checked) (n := 5) (X := fun w _ => laidMetH Tryd.prog As.laidE w) As.own started (fun _ _ _ hh h => h.of_heap hh) (by kernel_rfl) Tryd.func4 rfl rfl As.laidOut (by kernel_rfl) (by kernel_rfl) rfl Tryd.underlying4 rfl (fun ds h => ?_)
    (ChangeSpec.witness_at (enc := enc) (C := Tryd.checked) (os := os) (X := fun w _ => laidMetH Tryd.prog As.laidE w) false (As.laidWorld os) #[.slice none 0 0, .slice none 0 0, .agg #[.slice none 0 0, .string ⟨#[]⟩]] 8 rfl (by kernel_rfl) (by kernel_rfl) (by kernel_rfl) (by kernel_rfl) (by kernel_rfl) (As.laidWorld_met os _)) (fun css h => ?_) (fun W args h a v ha => As.glob_of_laid h a v ha)
  · match ds, h with
    | [a, b, c], _ => exact ⟨rfl, rfl, rfl⟩
  · have h : All2 (fun t cs => TC Tryd.prog 5 t cs) [23, 25, 28] css := h
    obtain ⟨a, r, rfl, h0, h⟩ := all2_cons h
    obtain ⟨b, r, rfl, h1, h⟩ := all2_cons h
    obtain ⟨c, r, rfl, h2, h⟩ := all2_cons h
    obtain rfl := all2_nil h
    obtain ⟨s, rfl⟩ := Va.tc_ats h0
    obtain ⟨f, rfl⟩ := Va.tc_prs h1
    obtain ⟨e, rfl⟩ := Va.tc_ev h2
    show CallOk Tryd.prog 4 [.d (argD Tryd.prog 23 _), .d (argD Tryd.prog 25 _), .d (argD Tryd.prog 28 _)] [] _
    rw [Va.arg_ats, Va.arg_prs, Va.arg_ev]
    exact (Va.ok4 s f e).mono fun v s h => h.1
theorem over : Rows.wigwagAskedRow.holds Tryd.pinned (OpenSpec.ofChange Rows.wigwagAskedSpec) :=
  OpenClaim.holds_of_wide 4 Tryd.f4 rfl rfl rfl rfl rfl rfl rfl ⟨rfl, rfl, rfl, rfl, rfl⟩ rfl rfl rfl rfl rfl (by kernel_rfl) Tryd.func4 (by kernel_rfl)
    (of_decide_eq_true (by kernel_rfl)) (by unfold Func.isWrapper; first | (rw [if_pos (by decide +kernel)]; kernel_rfl) | (rw [if_neg (by decide +kernel)]; exact ⟨rfl, rfl⟩))
    (fun os started H enc _ => lifted os started H enc)
theorem card : Claim7.holds Tryd.pinned (.plain (OpenSpec.ofChange Rows.wigwagAskedSpec)) Rows.wigwagAskedCard :=
  Claim7.holds_tied_plain_at .later [] [.data, .data, .data] true (true, "9fd1df84ae46322c3a0ea74863b93bafcbd2cb7114c911d5307cc98c9704e853") true
    over (fun _ h => by cases h) (by kernel_rfl) (fun _ h => by cases h) wigwagAsked_row_tie rfl ⟨rfl, rfl⟩ (by kernel_rfl) rfl
    (fun f fn hf hfn => by
      obtain rfl : f = 4 := Option.some.inj ((show Tryd.prog.funcNamed "wigwag/wigwagtop.WigwagAsked" = some 4 by kernel_rfl).symm.trans hf) |>.symm
      obtain rfl : fn = Tryd.f4 := (Option.some.inj (Tryd.func4.symm.trans hfn)).symm
      exact ⟨by kernel_rfl, fun j t ht => by
        rw [Tryd.params4] at ht
        rcases j with _ | _ | _ | j
        · obtain rfl : t = 23 := by simpa using ht.symm
          exact (show Tryd.prog.wantsStandIn 23 = false by kernel_rfl)
        · obtain rfl : t = 25 := by simpa using ht.symm
          exact (show Tryd.prog.wantsStandIn 25 = false by kernel_rfl)
        · obtain rfl : t = 28 := by simpa using ht.symm
          exact (show Tryd.prog.wantsStandIn 28 = false by kernel_rfl)
        · simp at ht⟩)
    (by kernel_rfl)
end Go.Proofs.YtddhlmejaobcgaaDoor.wigwagAsked
namespace Go.Proofs.YtddhlmejaobcgaaDoor
/-- The card, under a short name, for the claim. -/
theorem wigwagAsked_holds : Rows.WigwagAskedCardSaid := wigwagAsked.card
#print axioms wigwagAsked_holds
end Go.Proofs.YtddhlmejaobcgaaDoor
