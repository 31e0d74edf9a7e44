import Derived.Test.YtcanicacdfkaeaaDoorRows
import Derived.Test.YtcanicacdfkaeaaDoorCards
import Derived.Test.YtcanicacdfkaeaaDoorTie
import Derived.SevenTiedAt
import Derived.Test.YtcanicacdfkaeaaDoorAV3
import Derived.Test.YtcanicacdfkaeaaDoorVDV
set_option linter.unusedVariables false
namespace Go.Proofs.YtcanicacdfkaeaaDoor.valueForms
open Go.ChangeShapes Go.WideShapes Go.ChangeAt Go.RowKit Go.Am
set_option maxRecDepth 100000 in
theorem lifted (os : Os) (started : os.Started) (H : Type) (enc : TypeId × Value → H) :
    ReturnsInHanded {} Tryd.checked os 3 .any (fun w args => (Rows.valueFormsSpec.pre enc Tryd.prog Tryd.f3 [] false w args ∧ laidMetH Tryd.prog As.laidE w) ∧ sizedMet enc Tryd.prog Tryd.f3 (OpenSpec.ofChange Rows.valueFormsSpec) false w args) (Rows.valueFormsSpec.post enc Tryd.prog Tryd.f3 false true false false) := by
  refine law_rowL (C := Tryd.checked) (n := 5) (X := fun w _ => laidMetH Tryd.prog As.laidE w) As.own started (fun _ _ _ hh h => h.of_heap hh) (by kernel_rfl) Tryd.func3 rfl rfl As.laidOut (by kernel_rfl) (by kernel_rfl) rfl Tryd.underlying4 rfl (fun ds h => ?_)
    (ChangeSpec.witness_at (enc := enc) (C := Tryd.checked) (os := os) (X := fun w _ => laidMetH Tryd.prog As.laidE w) false (As.laidWorld os) #[.slice none 0 0, .agg #[.slice none 0 0, .string ⟨#[]⟩], .slice none 0 0, .string ⟨#[]⟩] 8 rfl (by kernel_rfl) (by kernel_rfl) (by kernel_rfl) (by kernel_rfl) (by kernel_rfl) (As.laidWorld_met os _)) (fun css h => ?_) (fun W args h a v ha => As.glob_of_laid h a v ha)
  · match ds, h with
    | [a, b, c, d], _ => exact ⟨rfl, rfl, rfl⟩
  · have h : All2 (fun t cs => TC Tryd.prog 5 t cs) [23, 26, 28, 9] css := h
    obtain ⟨a, r, rfl, h0, h⟩ := all2_cons h
    obtain ⟨b, r, rfl, h1, h⟩ := all2_cons h
    obtain ⟨c, r, rfl, h2, h⟩ := all2_cons h
    obtain ⟨d, r, rfl, h3, h⟩ := all2_cons h
    obtain rfl := all2_nil h
    obtain ⟨s, rfl⟩ := Va.tc_ats h0
    obtain ⟨e, rfl⟩ := Va.tc_ev h1
    obtain ⟨f, rfl⟩ := Va.tc_prs h2
    obtain ⟨t, rfl⟩ := Va.tc_str h3
    show CallOk Tryd.prog 3 [.d (argD Tryd.prog 23 _), .d (argD Tryd.prog 26 _), .d (argD Tryd.prog 28 _), .d (argD Tryd.prog 9 _)] [] _
    rw [Va.arg_ats, Va.arg_ev, Va.arg_prs, Va.arg_str]
    exact (Va.ok3 s e f t).mono fun v s h => h.1
theorem over : Rows.valueFormsRow.holds Tryd.pinned (OpenSpec.ofChange Rows.valueFormsSpec) :=
  OpenClaim.holds_of_wide 3 Tryd.f3 rfl rfl rfl rfl rfl rfl rfl ⟨rfl, rfl, rfl, rfl, rfl⟩ rfl rfl rfl rfl rfl (by kernel_rfl) Tryd.func3 (by kernel_rfl)
    (of_decide_eq_true (by kernel_rfl)) (by unfold Func.isWrapper; first | (rw [if_pos (by decide +kernel)]; kernel_rfl) | (rw [if_neg (by decide +kernel)]; exact ⟨rfl, rfl⟩))
    (fun os started H enc _ => lifted os started H enc)
theorem card : Claim7.holds Tryd.pinned (.plain (OpenSpec.ofChange Rows.valueFormsSpec)) Rows.valueFormsCard :=
  Claim7.holds_tied_plain_at .later [] [.handle] true (true, "dbf796a24a082fc8a32f75d6348b3c2bff64b89c9b8907501aa521a80f1ed540") true
    over (fun _ h => by cases h) (by kernel_rfl) (fun _ h => by cases h) valueForms_row_tie rfl ⟨rfl, rfl⟩ (by kernel_rfl) rfl
    (fun f fn hf hfn => by
      obtain rfl : f = 3 := Option.some.inj ((show Tryd.prog.funcNamed "wigwag/wigwaglaw05.ValueForms" = some 3 by kernel_rfl).symm.trans hf) |>.symm
      obtain rfl : fn = Tryd.f3 := (Option.some.inj (Tryd.func3.symm.trans hfn)).symm
      exact ⟨by kernel_rfl, fun j t ht => by
        rw [Tryd.params3] at ht
        rcases j with _ | _ | _ | _ | j
        · obtain rfl : t = 23 := by simpa using ht.symm
          exact (show Tryd.prog.wantsStandIn 23 = false by kernel_rfl)
        · obtain rfl : t = 26 := by simpa using ht.symm
          exact (show Tryd.prog.wantsStandIn 26 = false by kernel_rfl)
        · obtain rfl : t = 28 := by simpa using ht.symm
          exact (show Tryd.prog.wantsStandIn 28 = false by kernel_rfl)
        · obtain rfl : t = 9 := by simpa using ht.symm
          exact (show Tryd.prog.wantsStandIn 9 = false by kernel_rfl)
        · simp at ht⟩)
    (by kernel_rfl)
end Go.Proofs.YtcanicacdfkaeaaDoor.valueForms
namespace Go.Proofs.YtcanicacdfkaeaaDoor
/-- The card, under a short name, for the claim. -/
theorem valueForms_holds : Rows.ValueFormsCardSaid := valueForms.card
#print axioms valueForms_holds
end Go.Proofs.YtcanicacdfkaeaaDoor
