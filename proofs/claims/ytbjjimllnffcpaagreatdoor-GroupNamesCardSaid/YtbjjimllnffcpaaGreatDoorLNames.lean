import Derived.Test.YtbjjimllnffcpaaGreatDoorRows
import Derived.Test.YtbjjimllnffcpaaGreatDoorCards
import Derived.Test.YtbjjimllnffcpaaGreatDoorTie
import Derived.SevenTiedAt
import Derived.Test.YtbjjimllnffcpaaGreatDoorGVN
import Derived.Test.YtbjjimllnffcpaaGreatDoorGDN
set_option linter.unusedVariables false
namespace Go.Proofs.YtbjjimllnffcpaaGreatDoor.groupNames
open Go.ChangeShapes Go.WideShapes Go.ChangeAt Go.RowKit Go.Am
set_option maxRecDepth 100000 in
theorem lifted (os : Os) (started : os.Started) (H : Type) (enc : TypeId × Value → H) :
    ReturnsInHanded {} Tryz.checked os 4 .any (fun w args => (Rows.groupNamesSpec.pre enc Tryz.prog Tryz.f4 [] false w args ∧ laidMetH Tryz.prog As.laidE w) ∧ sizedMet enc Tryz.prog Tryz.f4 (OpenSpec.ofChange Rows.groupNamesSpec) false w args) (Rows.groupNamesSpec.post enc Tryz.prog Tryz.f4 false true false false) := by
  refine law_rowL (C := Tryz.checked) (n := 5) (X := fun w _ => laidMetH Tryz.prog As.laidE w) As.own started (fun _ _ _ hh h => h.of_heap hh) (by kernel_rfl) Tryz.func4 rfl rfl As.laidOut (by kernel_rfl) (by kernel_rfl) rfl Tryz.underlying4 rfl (fun ds h => ?_)
    (ChangeSpec.witness_shaped (enc := enc) (C := Tryz.checked) (os := os) (X := fun w _ => laidMetH Tryz.prog As.laidE w) false (World.laidAll Tryz.prog os As.laidE) #[.string ⟨#[]⟩, .agg #[.int .i64 0, .int .i64 0], .string ⟨#[]⟩, .int .i64 0] 8 (World.laidAll_os _ _ _) (World.shaped_of_ZipB (by kernel_rfl) (by kernel_rfl)) (by kernel_rfl) (by kernel_rfl) (by kernel_rfl) (by rw [MakeChecks.laidMetH_plain _ _ _ (by kernel_rfl)]; exact laidMet_laidAll _ (by kernel_rfl) (by kernel_rfl))) (fun css h => ?_) (fun W args h a v ha => As.glob_of_laid h a v ha) (fun W args h a ha => As.sent_of_laid h a ha)
  · match ds, h with
    | [a, b, c, d], _ => exact ⟨rfl, rfl, rfl⟩
  · have h : All2 (fun t cs => TC Tryz.prog 5 t cs) [9, 57, 9, 3] css := h
    obtain ⟨a, r, rfl, h0, h⟩ := all2_cons h
    obtain ⟨b, r, rfl, h1, h⟩ := all2_cons h
    obtain ⟨c, r, rfl, h2, h⟩ := all2_cons h
    obtain ⟨d, r, rfl, h3, h⟩ := all2_cons h
    obtain rfl := all2_nil h
    obtain ⟨t, rfl⟩ := Gr.tc_str h0
    obtain ⟨xl, xi, rfl⟩ := Gr.tc_iv h1
    obtain ⟨u, rfl⟩ := Gr.tc_str h2
    obtain ⟨m, rfl⟩ := Gr.tc_int h3
    show CallOk Tryz.prog 4 [.d (argD Tryz.prog 9 _), .d (argD Tryz.prog 57 _), .d (argD Tryz.prog 9 _), .d (argD Tryz.prog 3 _)] [] _
    rw [Gr.arg_str, Gr.arg_iv, Gr.arg_str, Gr.arg_int]
    exact (Gr.ok4 t xl xi u m).mono fun v s h => h.1
theorem over : Rows.groupNamesRow.holds Tryz.pinned (OpenSpec.ofChange Rows.groupNamesSpec) :=
  OpenClaim.holds_of_wide 4 Tryz.f4 rfl rfl rfl rfl rfl rfl rfl ⟨rfl, rfl, rfl, rfl, rfl⟩ rfl rfl rfl rfl rfl (by kernel_rfl) Tryz.func4 (by kernel_rfl)
    (of_decide_eq_true (by kernel_rfl)) (by unfold Func.isWrapper; first | (rw [if_pos (by decide +kernel)]; kernel_rfl) | (rw [if_neg (by decide +kernel)]; exact ⟨rfl, rfl⟩))
    (fun os started H enc _ => lifted os started H enc)
theorem card : Claim7.holds Tryz.pinned (.plain (OpenSpec.ofChange Rows.groupNamesSpec)) Rows.groupNamesCard :=
  Claim7.holds_tied_plain_at .later [] [.data, .data, .data, .data, .sentinel, .sentinel, .pinned] true (true, "e87c4e3916bd412f217068c9ba1aa4092a40b7e6bfcd7e687e80861387c84866") true
    over (fun _ h => by cases h) (by kernel_rfl) (fun _ h => by cases h) groupNames_row_tie rfl ⟨rfl, rfl⟩ (by kernel_rfl) rfl
    (fun f fn hf hfn => by
      obtain rfl : f = 4 := Option.some.inj ((show Tryz.prog.funcNamed "wigwag/wigwaglaw08.GroupNames" = some 4 by kernel_rfl).symm.trans hf) |>.symm
      obtain rfl : fn = Tryz.f4 := (Option.some.inj (Tryz.func4.symm.trans hfn)).symm
      exact ⟨by kernel_rfl, fun j t ht => by
        rw [Tryz.params4] at ht
        rcases j with _ | _ | _ | _ | j
        · obtain rfl : t = 9 := by simpa using ht.symm
          exact (show Tryz.prog.wantsStandIn 9 = false by kernel_rfl)
        · obtain rfl : t = 57 := by simpa using ht.symm
          exact (show Tryz.prog.wantsStandIn 57 = false by kernel_rfl)
        · obtain rfl : t = 9 := by simpa using ht.symm
          exact (show Tryz.prog.wantsStandIn 9 = false by kernel_rfl)
        · obtain rfl : t = 3 := by simpa using ht.symm
          exact (show Tryz.prog.wantsStandIn 3 = false by kernel_rfl)
        · simp at ht⟩)
    (by kernel_rfl)
end Go.Proofs.YtbjjimllnffcpaaGreatDoor.groupNames
namespace Go.Proofs.YtbjjimllnffcpaaGreatDoor
/-- The card, under a short name, for the claim. -/
theorem groupNames_holds : Rows.GroupNamesCardSaid := groupNames.card
#print axioms groupNames_holds
end Go.Proofs.YtbjjimllnffcpaaGreatDoor
