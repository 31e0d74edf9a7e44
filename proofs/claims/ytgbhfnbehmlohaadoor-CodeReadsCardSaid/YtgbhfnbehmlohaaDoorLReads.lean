import Derived.Test.YtgbhfnbehmlohaaDoorRows
import Derived.Test.YtgbhfnbehmlohaaDoorCards
import Derived.Test.YtgbhfnbehmlohaaDoorTie
import Derived.SevenTiedAt
import Derived.Test.YtgbhfnbehmlohaaDoorAV
import Derived.Test.YtgbhfnbehmlohaaDoorCV
set_option linter.unusedVariables false
namespace Go.Proofs.YtgbhfnbehmlohaaDoor.codeReads
open Go.ChangeShapes Go.WideShapes Go.ChangeAt Go.RowKit Go.Am
set_option maxRecDepth 100000 in
theorem lifted (os : Os) (started : os.Started) (H : Type) (enc : TypeId × Value → H) :
    ReturnsInHanded {} Tryd.checked os 5 .any (fun w args => (Rows.codeReadsSpec.pre enc Tryd.prog Tryd.f5 [] false w args ∧ laidMetH Tryd.prog As.laidE w) ∧ sizedMet enc Tryd.prog Tryd.f5 (OpenSpec.ofChange Rows.codeReadsSpec) false w args) (Rows.codeReadsSpec.post enc Tryd.prog Tryd.f5 false true false false) := by
  refine law_rowL (C := Tryd.checked) (n := 5) (X := fun w _ => laidMetH Tryd.prog As.laidE w) As.own started (fun _ _ _ hh h => h.of_heap hh) (by kernel_rfl) Tryd.func5 rfl rfl As.laidOut (by kernel_rfl) (by kernel_rfl) rfl Tryd.underlying4 rfl (fun ds h => ?_)
    (ChangeSpec.witness_at (enc := enc) (C := Tryd.checked) (os := os) (X := fun w _ => laidMetH Tryd.prog As.laidE w) false (As.laidWorld os) #[.string ⟨#[]⟩, .slice none 0 0] 8 rfl (by kernel_rfl) (by kernel_rfl) (by kernel_rfl) (by kernel_rfl) (by kernel_rfl) (As.laidWorld_met os _)) (fun css h => ?_) (fun W args h a v ha => As.glob_of_laid h a v ha)
  · match ds, h with
    | [a, b], _ => exact ⟨rfl, rfl, rfl⟩
  · have h : All2 (fun t cs => TC Tryd.prog 5 t cs) [9, 22] css := h
    obtain ⟨a, r, rfl, h0, h⟩ := all2_cons h
    obtain ⟨b, r, rfl, h1, h⟩ := all2_cons h
    obtain rfl := all2_nil h
    obtain ⟨s, rfl⟩ := Cv.tc_str h0
    obtain ⟨l, rfl⟩ := Cv.tc_ths h1
    show CallOk Tryd.prog 5 [.d (argD Tryd.prog 9 _), .d (argD Tryd.prog 22 _)] [] _
    rw [Cv.arg_str, Cv.arg_ths]
    exact (Cv.ok5 s l).mono fun v s h => h.1
theorem over : Rows.codeReadsRow.holds Tryd.pinned (OpenSpec.ofChange Rows.codeReadsSpec) :=
  OpenClaim.holds_of_wide 5 Tryd.f5 rfl rfl rfl rfl rfl rfl rfl ⟨rfl, rfl, rfl, rfl, rfl⟩ rfl rfl rfl rfl rfl (by kernel_rfl) Tryd.func5 (by kernel_rfl)
    (of_decide_eq_true (by kernel_rfl)) (by unfold Func.isWrapper; first | (rw [if_pos (by decide +kernel)]; kernel_rfl) | (rw [if_neg (by decide +kernel)]; exact ⟨rfl, rfl⟩))
    (fun os started H enc _ => lifted os started H enc)
theorem card : Claim7.holds Tryd.pinned (.plain (OpenSpec.ofChange Rows.codeReadsSpec)) Rows.codeReadsCard :=
  Claim7.holds_tied_plain_at .later [] [.handle] true (true, "beba0742101f4ac1d428e5689fe0b2aa177ac5cdcaa77f0985e032352ab0d46c") true
    over (fun _ h => by cases h) (by kernel_rfl) (fun _ h => by cases h) codeReads_row_tie rfl ⟨rfl, rfl⟩ (by kernel_rfl) rfl
    (fun f fn hf hfn => by
      obtain rfl : f = 5 := Option.some.inj ((show Tryd.prog.funcNamed "wigwag/wigwaglaw02.CodeReads" = some 5 by kernel_rfl).symm.trans hf) |>.symm
      obtain rfl : fn = Tryd.f5 := (Option.some.inj (Tryd.func5.symm.trans hfn)).symm
      exact ⟨by kernel_rfl, fun j t ht => by
        rw [Tryd.params5] at ht
        rcases j with _ | _ | j
        · obtain rfl : t = 9 := by simpa using ht.symm
          exact (show Tryd.prog.wantsStandIn 9 = false by kernel_rfl)
        · obtain rfl : t = 22 := by simpa using ht.symm
          exact (show Tryd.prog.wantsStandIn 22 = false by kernel_rfl)
        · simp at ht⟩)
    (by kernel_rfl)
end Go.Proofs.YtgbhfnbehmlohaaDoor.codeReads
namespace Go.Proofs.YtgbhfnbehmlohaaDoor
/-- The card, under a short name, for the claim. -/
theorem codeReads_holds : Rows.CodeReadsCardSaid := codeReads.card
#print axioms codeReads_holds
end Go.Proofs.YtgbhfnbehmlohaaDoor
