import Derived.Test.YtpemfjnjkjckoaaDoorRows
import Derived.Test.YtpemfjnjkjckoaaDoorCards
import Derived.Test.YtpemfjnjkjckoaaDoorTie
import Derived.SevenTiedAt
import Derived.Test.YtpemfjnjkjckoaaDoorAV
import Derived.Test.YtpemfjnjkjckoaaDoorLDV
import Derived.Test.YtpemfjnjkjckoaaDoorLY
set_option linter.unusedVariables false
namespace Go.Proofs.YtpemfjnjkjckoaaDoor.linkPlays
open Go.ChangeShapes Go.WideShapes Go.ChangeAt Go.RowKit Go.Am
set_option maxRecDepth 100000 in
theorem lifted (os : Os) (started : os.Started) (H : Type) (enc : TypeId × Value → H) :
    ReturnsInHanded {} Tryd.checked os 3 .any (fun w args => (Rows.linkPlaysSpec.pre enc Tryd.prog Tryd.f3 [] false w args ∧ laidMetH Tryd.prog As.laidE w) ∧ sizedMet enc Tryd.prog Tryd.f3 (OpenSpec.ofChange Rows.linkPlaysSpec) false w args) (Rows.linkPlaysSpec.post enc Tryd.prog Tryd.f3 false true false false) := by
  refine law_rowL (C := Tryd.checked) (n := 5) (X := fun w _ => laidMetH Tryd.prog As.laidE w) As.own started (fun _ _ _ hh h => h.of_heap hh) (by kernel_rfl) Tryd.func3 rfl rfl As.laidOut (by kernel_rfl) (by kernel_rfl) rfl Tryd.underlying4 rfl (fun ds h => ?_)
    (ChangeSpec.witness_at (enc := enc) (C := Tryd.checked) (os := os) (X := fun w _ => laidMetH Tryd.prog As.laidE w) false (As.laidWorld os) #[.slice none 0 0] 8 rfl (by kernel_rfl) (by kernel_rfl) (by kernel_rfl) (by kernel_rfl) (by kernel_rfl) (As.laidWorld_met os _)) (fun css h => ?_) (fun W args h a v ha => As.glob_of_laid h a v ha)
  · match ds, h with
    | [a], _ => exact ⟨rfl, rfl, rfl⟩
  · have h : All2 (fun t cs => TC Tryd.prog 5 t cs) [22] css := h
    obtain ⟨a, r, rfl, h0, h⟩ := all2_cons h
    obtain rfl := all2_nil h
    obtain ⟨l, rfl⟩ := Lv.tc_acs h0
    show CallOk Tryd.prog 3 [.d (argD Tryd.prog 22 _)] [] _
    rw [Lv.arg_acs]
    exact (Lk.ok3 l).mono fun v s h => h.1
theorem over : Rows.linkPlaysRow.holds Tryd.pinned (OpenSpec.ofChange Rows.linkPlaysSpec) :=
  OpenClaim.holds_of_wide 3 Tryd.f3 rfl rfl rfl rfl rfl rfl rfl ⟨rfl, rfl, rfl, rfl, rfl⟩ rfl rfl rfl rfl rfl (by kernel_rfl) Tryd.func3 (by kernel_rfl)
    (of_decide_eq_true (by kernel_rfl)) (by unfold Func.isWrapper; first | (rw [if_pos (by decide +kernel)]; kernel_rfl) | (rw [if_neg (by decide +kernel)]; exact ⟨rfl, rfl⟩))
    (fun os started H enc _ => lifted os started H enc)
theorem card : Claim7.holds Tryd.pinned (.plain (OpenSpec.ofChange Rows.linkPlaysSpec)) Rows.linkPlaysCard :=
  Claim7.holds_tied_plain_at .later [] [.handle] true (true, "d60fda36883342cd61b3e4bc383493f16c65ad35c15722c215fd4c06e6f5cc78") true
    over (fun _ h => by cases h) (by kernel_rfl) (fun _ h => by cases h) linkPlays_row_tie rfl ⟨rfl, rfl⟩ (by kernel_rfl) rfl
    (fun f fn hf hfn => by
      obtain rfl : f = 3 := Option.some.inj ((show Tryd.prog.funcNamed "wigwag/wigwaglaw04.LinkPlays" = some 3 by kernel_rfl).symm.trans hf) |>.symm
      obtain rfl : fn = Tryd.f3 := (Option.some.inj (Tryd.func3.symm.trans hfn)).symm
      exact ⟨by kernel_rfl, fun j t ht => by
        rw [Tryd.params3] at ht
        rcases j with _ | j
        · obtain rfl : t = 22 := by simpa using ht.symm
          exact (show Tryd.prog.wantsStandIn 22 = false by kernel_rfl)
        · simp at ht⟩)
    (by kernel_rfl)
end Go.Proofs.YtpemfjnjkjckoaaDoor.linkPlays
namespace Go.Proofs.YtpemfjnjkjckoaaDoor
/-- The card, under a short name, for the claim. -/
theorem linkPlays_holds : Rows.LinkPlaysCardSaid := linkPlays.card
#print axioms linkPlays_holds
end Go.Proofs.YtpemfjnjkjckoaaDoor
