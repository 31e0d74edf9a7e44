import Derived.Test.YtbjjimllnffcpaaDoorRows
import Derived.Test.YtbjjimllnffcpaaDoorCards
import Derived.Test.YtbjjimllnffcpaaDoorTie
import Derived.SevenTiedAt
import Derived.Test.YtbjjimllnffcpaaDoorGVB
import Derived.Test.YtbjjimllnffcpaaDoorGDV
import Derived.Test.YtbjjimllnffcpaaDoorGB
set_option linter.unusedVariables false
namespace Go.Proofs.YtbjjimllnffcpaaDoor.groupBack
open Go.ChangeShapes Go.WideShapes Go.ChangeAt Go.RowKit Go.Am
set_option maxRecDepth 100000 in
theorem lifted (os : Os) (started : os.Started) (H : Type) (enc : TypeId × Value → H) :
    ReturnsInHanded {} Tryd.checked os 7 .any (fun w args => (Rows.groupBackSpec.pre enc Tryd.prog Tryd.f7 [] false w args ∧ laidMetH Tryd.prog As.laidE w) ∧ sizedMet enc Tryd.prog Tryd.f7 (OpenSpec.ofChange Rows.groupBackSpec) false w args) (Rows.groupBackSpec.post enc Tryd.prog Tryd.f7 false true false false) := by
  refine law_rowL (C := Tryd.checked) (n := 5) (X := fun w _ => laidMetH Tryd.prog As.laidE w) As.own started (fun _ _ _ hh h => h.of_heap hh) (by kernel_rfl) Tryd.func7 rfl rfl As.laidOut (by kernel_rfl) (by kernel_rfl) rfl Tryd.underlying4 rfl (fun ds h => ?_)
    (ChangeSpec.witness_shaped (enc := enc) (C := Tryd.checked) (os := os) (X := fun w _ => laidMetH Tryd.prog As.laidE w) false (World.laidAll Tryd.prog os As.laidE) #[.slice none 0 0, .slice none 0 0, .int .i64 0] 8 (World.laidAll_os _ _ _) (World.shaped_of_ZipB (by kernel_rfl) (by kernel_rfl)) (by kernel_rfl) (by kernel_rfl) (by kernel_rfl) (by rw [MakeChecks.laidMetH_plain _ _ _ (by kernel_rfl)]; exact laidMet_laidAll _ (by kernel_rfl) (by kernel_rfl))) (fun css h => ?_) (fun W args h a v ha => As.glob_of_laid h a v ha)
  · match ds, h with
    | [a, b, c], _ => exact ⟨rfl, rfl, rfl⟩
  · have h : All2 (fun t cs => TC Tryd.prog 5 t cs) [30, 32, 3] css := h
    obtain ⟨a, r, rfl, h0, h⟩ := all2_cons h
    obtain ⟨b, r, rfl, h1, h⟩ := all2_cons h
    obtain ⟨c, r, rfl, h2, h⟩ := all2_cons h
    obtain rfl := all2_nil h
    obtain ⟨s, rfl⟩ := Va.tc_ats h0
    obtain ⟨f, rfl⟩ := Va.tc_prs h1
    obtain ⟨m, rfl⟩ := Va.tc_int h2
    show CallOk Tryd.prog 7 [.d (argD Tryd.prog 30 _), .d (argD Tryd.prog 32 _), .d (argD Tryd.prog 3 _)] [] _
    rw [Va.arg_ats, Va.arg_prs, Va.arg_int]
    exact (Gr.ok7 s f m).mono fun v s h => h.1
theorem over : Rows.groupBackRow.holds Tryd.pinned (OpenSpec.ofChange Rows.groupBackSpec) :=
  OpenClaim.holds_of_wide 7 Tryd.f7 rfl rfl rfl rfl rfl rfl rfl ⟨rfl, rfl, rfl, rfl, rfl⟩ rfl rfl rfl rfl rfl (by kernel_rfl) Tryd.func7 (by kernel_rfl)
    (of_decide_eq_true (by kernel_rfl)) (by unfold Func.isWrapper; first | (rw [if_pos (by decide +kernel)]; kernel_rfl) | (rw [if_neg (by decide +kernel)]; exact ⟨rfl, rfl⟩))
    (fun os started H enc _ => lifted os started H enc)
theorem card : Claim7.holds Tryd.pinned (.plain (OpenSpec.ofChange Rows.groupBackSpec)) Rows.groupBackCard :=
  Claim7.holds_tied_plain_at .later [] [.data, .data, .data, .data, .sentinel, .sentinel, .pinned] true (true, "e7db09a4428f09e559dc4839750a724f17d03a51f8571950062b22c7827217bd") true
    over (fun _ h => by cases h) (by kernel_rfl) (fun _ h => by cases h) groupBack_row_tie rfl ⟨rfl, rfl⟩ (by kernel_rfl) rfl
    (fun f fn hf hfn => by
      obtain rfl : f = 7 := Option.some.inj ((show Tryd.prog.funcNamed "wigwag/wigwaglaw08.GroupBack" = some 7 by kernel_rfl).symm.trans hf) |>.symm
      obtain rfl : fn = Tryd.f7 := (Option.some.inj (Tryd.func7.symm.trans hfn)).symm
      exact ⟨by kernel_rfl, fun j t ht => by
        rw [Tryd.params7] at ht
        rcases j with _ | _ | _ | j
        · obtain rfl : t = 30 := by simpa using ht.symm
          exact (show Tryd.prog.wantsStandIn 30 = false by kernel_rfl)
        · obtain rfl : t = 32 := by simpa using ht.symm
          exact (show Tryd.prog.wantsStandIn 32 = false by kernel_rfl)
        · obtain rfl : t = 3 := by simpa using ht.symm
          exact (show Tryd.prog.wantsStandIn 3 = false by kernel_rfl)
        · simp at ht⟩)
    (by kernel_rfl)
end Go.Proofs.YtbjjimllnffcpaaDoor.groupBack
namespace Go.Proofs.YtbjjimllnffcpaaDoor
/-- The card, under a short name, for the claim. -/
theorem groupBack_holds : Rows.GroupBackCardSaid := groupBack.card
#print axioms groupBack_holds
end Go.Proofs.YtbjjimllnffcpaaDoor
