import Derived.Test.YtbjjimllnffcpaaGreatDoorRows
import Derived.Test.YtbjjimllnffcpaaGreatDoorCards
import Derived.Test.YtbjjimllnffcpaaGreatDoorTie
import Derived.SevenTiedAt
import Derived.Test.YtbjjimllnffcpaaGreatDoorAVG
import Derived.Test.YtbjjimllnffcpaaGreatDoorGDV
import Derived.Test.YtbjjimllnffcpaaGreatDoorGY
set_option linter.unusedVariables false
namespace Go.Proofs.YtbjjimllnffcpaaGreatDoor.groupMeets
open Go.ChangeShapes Go.WideShapes Go.ChangeAt Go.RowKit Go.Am
set_option maxRecDepth 100000 in
theorem lifted (os : Os) (started : os.Started) (H : Type) (enc : TypeId × Value → H) :
    ReturnsInHanded {} Tryz.checked os 3 .any (fun w args => (Rows.groupMeetsSpec.pre enc Tryz.prog Tryz.f3 [] false w args ∧ laidMetH Tryz.prog As.laidE w) ∧ sizedMet enc Tryz.prog Tryz.f3 (OpenSpec.ofChange Rows.groupMeetsSpec) false w args) (Rows.groupMeetsSpec.post enc Tryz.prog Tryz.f3 false true false false) := by
  refine law_rowL (C := Tryz.checked) (n := 5) (X := fun w _ => laidMetH Tryz.prog As.laidE w) As.own started (fun _ _ _ hh h => h.of_heap hh) (by kernel_rfl) Tryz.func3 rfl rfl As.laidOut (by kernel_rfl) (by kernel_rfl) rfl Tryz.underlying4 rfl (fun ds h => ?_)
    (ChangeSpec.witness_at (enc := enc) (C := Tryz.checked) (os := os) (X := fun w _ => laidMetH Tryz.prog As.laidE w) false (As.laidWorld os) #[.slice none 0 0, .slice none 0 0, .agg #[.slice none 0 0, .string ⟨#[]⟩], .int .i64 0] 8 rfl (by kernel_rfl) (by kernel_rfl) (by kernel_rfl) (by kernel_rfl) (by kernel_rfl) (As.laidWorld_met os _)) (fun css h => ?_) (fun W args h a v ha => As.glob_of_laid h a v ha)
  · match ds, h with
    | [a, b, c, d], _ => exact ⟨rfl, rfl, rfl⟩
  · have h : All2 (fun t cs => TC Tryz.prog 5 t cs) [23, 25, 28, 3] css := h
    obtain ⟨a, r, rfl, h0, h⟩ := all2_cons h
    obtain ⟨b, r, rfl, h1, h⟩ := all2_cons h
    obtain ⟨c, r, rfl, h2, h⟩ := all2_cons h
    obtain ⟨d, r, rfl, h3, h⟩ := all2_cons h
    obtain rfl := all2_nil h
    obtain ⟨s, rfl⟩ := Va.tc_ats h0
    obtain ⟨f, rfl⟩ := Va.tc_prs h1
    obtain ⟨e, rfl⟩ := Va.tc_ev h2
    obtain ⟨m, rfl⟩ := Va.tc_int h3
    show CallOk Tryz.prog 3 [.d (argD Tryz.prog 23 _), .d (argD Tryz.prog 25 _), .d (argD Tryz.prog 28 _), .d (argD Tryz.prog 3 _)] [] _
    rw [Va.arg_ats, Va.arg_prs, Va.arg_ev, Va.arg_int]
    exact (Gr.ok3 s f e m).mono fun v s h => h.1
theorem over : Rows.groupMeetsRow.holds Tryz.pinned (OpenSpec.ofChange Rows.groupMeetsSpec) :=
  OpenClaim.holds_of_wide 3 Tryz.f3 rfl rfl rfl rfl rfl rfl rfl ⟨rfl, rfl, rfl, rfl, rfl⟩ rfl rfl rfl rfl rfl (by kernel_rfl) Tryz.func3 (by kernel_rfl)
    (of_decide_eq_true (by kernel_rfl)) (by unfold Func.isWrapper; first | (rw [if_pos (by decide +kernel)]; kernel_rfl) | (rw [if_neg (by decide +kernel)]; exact ⟨rfl, rfl⟩))
    (fun os started H enc _ => lifted os started H enc)
theorem card : Claim7.holds Tryz.pinned (.plain (OpenSpec.ofChange Rows.groupMeetsSpec)) Rows.groupMeetsCard :=
  Claim7.holds_tied_plain_at .later [] [.data, .data, .data, .handle] true (true, "e87c4e3916bd412f217068c9ba1aa4092a40b7e6bfcd7e687e80861387c84866") true
    over (fun _ h => by cases h) (by kernel_rfl) (fun _ h => by cases h) groupMeets_row_tie rfl ⟨rfl, rfl⟩ (by kernel_rfl) rfl
    (fun f fn hf hfn => by
      obtain rfl : f = 3 := Option.some.inj ((show Tryz.prog.funcNamed "wigwag/wigwaglaw08.GroupMeets" = some 3 by kernel_rfl).symm.trans hf) |>.symm
      obtain rfl : fn = Tryz.f3 := (Option.some.inj (Tryz.func3.symm.trans hfn)).symm
      exact ⟨by kernel_rfl, fun j t ht => by
        rw [Tryz.params3] at ht
        rcases j with _ | _ | _ | _ | j
        · obtain rfl : t = 23 := by simpa using ht.symm
          exact (show Tryz.prog.wantsStandIn 23 = false by kernel_rfl)
        · obtain rfl : t = 25 := by simpa using ht.symm
          exact (show Tryz.prog.wantsStandIn 25 = false by kernel_rfl)
        · obtain rfl : t = 28 := by simpa using ht.symm
          exact (show Tryz.prog.wantsStandIn 28 = false by kernel_rfl)
        · obtain rfl : t = 3 := by simpa using ht.symm
          exact (show Tryz.prog.wantsStandIn 3 = false by kernel_rfl)
        · simp at ht⟩)
    (by kernel_rfl)
end Go.Proofs.YtbjjimllnffcpaaGreatDoor.groupMeets
namespace Go.Proofs.YtbjjimllnffcpaaGreatDoor
/-- The card, under a short name, for the claim. -/
theorem groupMeets_holds : Rows.GroupMeetsCardSaid := groupMeets.card
#print axioms groupMeets_holds
end Go.Proofs.YtbjjimllnffcpaaGreatDoor
