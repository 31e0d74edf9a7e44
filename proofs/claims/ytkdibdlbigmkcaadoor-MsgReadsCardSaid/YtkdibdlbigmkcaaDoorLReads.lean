import Derived.Test.YtkdibdlbigmkcaaDoorRows
import Derived.Test.YtkdibdlbigmkcaaDoorCards
import Derived.Test.YtkdibdlbigmkcaaDoorTie
import Derived.SevenTiedAt
import Derived.Test.YtkdibdlbigmkcaaDoorAV
import Derived.Test.YtkdibdlbigmkcaaDoorMDV
set_option linter.unusedVariables false
namespace Go.Proofs.YtkdibdlbigmkcaaDoor.msgReads
open Go.ChangeShapes Go.WideShapes Go.ChangeAt Go.RowKit Go.Am
set_option maxRecDepth 100000 in
theorem lifted (os : Os) (started : os.Started) (H : Type) (enc : TypeId × Value → H) :
    ReturnsInHanded {} Tryd.checked os 4 .any (fun w args => (Rows.msgReadsSpec.pre enc Tryd.prog Tryd.f4 [] false w args ∧ laidMetH Tryd.prog As.laidE w) ∧ sizedMet enc Tryd.prog Tryd.f4 (OpenSpec.ofChange Rows.msgReadsSpec) false w args) (Rows.msgReadsSpec.post enc Tryd.prog Tryd.f4 false true false false) := by
  refine law_rowL (C := Tryd.checked) (n := 6) (X := fun w _ => laidMetH Tryd.prog As.laidE w) As.own started (fun _ _ _ hh h => h.of_heap hh) (by kernel_rfl) Tryd.func4 rfl rfl As.laidOut (by kernel_rfl) (by kernel_rfl) rfl Tryd.underlying4 rfl (fun ds h => ?_)
    (ChangeSpec.witness_at (enc := enc) (C := Tryd.checked) (os := os) (X := fun w _ => laidMetH Tryd.prog As.laidE w) false (As.laidWorld os) #[.string ⟨#[]⟩] 8 rfl (by kernel_rfl) (by kernel_rfl) (by kernel_rfl) (by kernel_rfl) (by kernel_rfl) (As.laidWorld_met os _)) (fun css h => ?_) (fun W args h a v ha => As.glob_of_laid h a v ha)
  · match ds, h with
    | [a], _ => exact ⟨rfl, rfl, rfl⟩
  · have h : All2 (fun t cs => TC Tryd.prog 6 t cs) [9] css := h
    obtain ⟨a, r, rfl, h0, h⟩ := all2_cons h
    obtain rfl := all2_nil h
    obtain ⟨x, rfl⟩ := Mv.tc_str h0
    show CallOk Tryd.prog 4 [.d (argD Tryd.prog 9 _)] [] _
    rw [Mv.arg_str]
    exact (Mv.ok4 x).mono fun v s h => h.1
theorem over : Rows.msgReadsRow.holds Tryd.pinned (OpenSpec.ofChange Rows.msgReadsSpec) :=
  OpenClaim.holds_of_wide 4 Tryd.f4 rfl rfl rfl rfl rfl rfl rfl ⟨rfl, rfl, rfl, rfl, rfl⟩ rfl rfl rfl rfl rfl (by kernel_rfl) Tryd.func4 (by kernel_rfl)
    (of_decide_eq_true (by kernel_rfl)) (by unfold Func.isWrapper; first | (rw [if_pos (by decide +kernel)]; kernel_rfl) | (rw [if_neg (by decide +kernel)]; exact ⟨rfl, rfl⟩))
    (fun os started H enc _ => lifted os started H enc)
theorem card : Claim7.holds Tryd.pinned (.plain (OpenSpec.ofChange Rows.msgReadsSpec)) Rows.msgReadsCard :=
  Claim7.holds_tied_plain_at .later [] [.handle] true (true, "517bc56105d4a535fd8c7bc16cfc717bbeae951287b562ea5e9e7a8c50a83bcc") true
    over (fun _ h => by cases h) (by kernel_rfl) (fun _ h => by cases h) msgReads_row_tie rfl ⟨rfl, rfl⟩ (by kernel_rfl) rfl
    (fun f fn hf hfn => by
      obtain rfl : f = 4 := Option.some.inj ((show Tryd.prog.funcNamed "wigwag/wigwaglaw15.MsgReads" = some 4 by kernel_rfl).symm.trans hf) |>.symm
      obtain rfl : fn = Tryd.f4 := (Option.some.inj (Tryd.func4.symm.trans hfn)).symm
      exact ⟨by kernel_rfl, fun j t ht => by
        rw [Tryd.params4] at ht
        rcases j with _ | j
        · obtain rfl : t = 9 := by simpa using ht.symm
          exact (show Tryd.prog.wantsStandIn 9 = false by kernel_rfl)
        · simp at ht⟩)
    (by kernel_rfl)
end Go.Proofs.YtkdibdlbigmkcaaDoor.msgReads
namespace Go.Proofs.YtkdibdlbigmkcaaDoor
/-- The card, under a short name, for the claim. -/
theorem msgReads_holds : Rows.MsgReadsCardSaid := msgReads.card
#print axioms msgReads_holds
end Go.Proofs.YtkdibdlbigmkcaaDoor
