import Derived.Test.YtbjjimllnffcpaaDoorRows
import Derived.Test.YtbjjimllnffcpaaDoorCards
import Derived.Test.YtbjjimllnffcpaaDoorTie
import Derived.SevenTiedAt
import Derived.Test.YtbjjimllnffcpaaDoorGV
import Derived.Test.YtbjjimllnffcpaaDoorGDV
import Derived.Test.YtbjjimllnffcpaaDoorGX
set_option linter.unusedVariables false
namespace Go.Proofs.YtbjjimllnffcpaaDoor.groupOnce
open Go.ChangeShapes Go.WideShapes Go.ChangeAt Go.RowKit Go.Am
set_option maxRecDepth 100000 in
theorem lifted (os : Os) (started : os.Started) (H : Type) (enc : TypeId × Value → H) :
    ReturnsInHanded {} Tryd.checked os 6 .any (fun w args => (Rows.groupOnceSpec.pre enc Tryd.prog Tryd.f6 [] false w args ∧ laidMetH Tryd.prog As.laidE w) ∧ sizedMet enc Tryd.prog Tryd.f6 (OpenSpec.ofChange Rows.groupOnceSpec) false w args) (Rows.groupOnceSpec.post enc Tryd.prog Tryd.f6 false true false false) := by
  refine law_rowL (C := Tryd.checked) (n := 5) (X := fun w _ => laidMetH Tryd.prog As.laidE w) As.own started (fun _ _ _ hh h => h.of_heap hh) (by kernel_rfl) Tryd.func6 rfl rfl As.laidOut (by kernel_rfl) (by kernel_rfl) rfl Tryd.underlying4 rfl (fun ds h => ?_)
    (ChangeSpec.witness_at (enc := enc) (C := Tryd.checked) (os := os) (X := fun w _ => laidMetH Tryd.prog As.laidE w) false (As.laidWorld os) #[.slice none 0 0, .slice none 0 0, .agg #[.slice none 0 0, .string ⟨#[]⟩], .int .i64 0] 8 rfl (by kernel_rfl) (by kernel_rfl) (by kernel_rfl) (by kernel_rfl) (by kernel_rfl) (As.laidWorld_met os _)) (fun css h => ?_) (fun W args h a v ha => As.glob_of_laid h a v ha)
  · match ds, h with
    | [a, b, c, d], _ => exact ⟨rfl, rfl, rfl⟩
  · have h : All2 (fun t cs => TC Tryd.prog 5 t cs) [30, 32, 54, 3] css := h
    obtain ⟨a, r, rfl, h0, h⟩ := all2_cons h
    obtain ⟨b, r, rfl, h1, h⟩ := all2_cons h
    obtain ⟨c, r, rfl, h2, h⟩ := all2_cons h
    obtain ⟨d, r, rfl, h3, h⟩ := all2_cons h
    obtain rfl := all2_nil h
    obtain ⟨s, rfl⟩ := Va.tc_ats h0
    obtain ⟨f, rfl⟩ := Va.tc_prs h1
    obtain ⟨e, rfl⟩ := Va.tc_ev h2
    obtain ⟨m, rfl⟩ := Va.tc_int h3
    show CallOk Tryd.prog 6 [.d (argD Tryd.prog 30 _), .d (argD Tryd.prog 32 _), .d (argD Tryd.prog 54 _), .d (argD Tryd.prog 3 _)] [] _
    rw [Va.arg_ats, Va.arg_prs, Va.arg_ev, Va.arg_int]
    exact (Gr.ok6 s f e m).mono fun v s h => h.1
theorem over : Rows.groupOnceRow.holds Tryd.pinned (OpenSpec.ofChange Rows.groupOnceSpec) :=
  OpenClaim.holds_of_wide 6 Tryd.f6 rfl rfl rfl rfl rfl rfl rfl ⟨rfl, rfl, rfl, rfl, rfl⟩ rfl rfl rfl rfl rfl (by kernel_rfl) Tryd.func6 (by kernel_rfl)
    (of_decide_eq_true (by kernel_rfl)) (by unfold Func.isWrapper; first | (rw [if_pos (by decide +kernel)]; kernel_rfl) | (rw [if_neg (by decide +kernel)]; exact ⟨rfl, rfl⟩))
    (fun os started H enc _ => lifted os started H enc)
theorem card : Claim7.holds Tryd.pinned (.plain (OpenSpec.ofChange Rows.groupOnceSpec)) Rows.groupOnceCard :=
  Claim7.holds_tied_plain_at .later [] [.data, .data, .data] true (true, "e7db09a4428f09e559dc4839750a724f17d03a51f8571950062b22c7827217bd") true
    over (fun _ h => by cases h) (by kernel_rfl) (fun _ h => by cases h) groupOnce_row_tie rfl ⟨rfl, rfl⟩ (by kernel_rfl) rfl
    (fun f fn hf hfn => by
      obtain rfl : f = 6 := Option.some.inj ((show Tryd.prog.funcNamed "wigwag/wigwaglaw08.GroupOnce" = some 6 by kernel_rfl).symm.trans hf) |>.symm
      obtain rfl : fn = Tryd.f6 := (Option.some.inj (Tryd.func6.symm.trans hfn)).symm
      exact ⟨by kernel_rfl, fun j t ht => by
        rw [Tryd.params6] at ht
        rcases j with _ | _ | _ | _ | j
        · obtain rfl : t = 30 := by simpa using ht.symm
          exact (show Tryd.prog.wantsStandIn 30 = false by kernel_rfl)
        · obtain rfl : t = 32 := by simpa using ht.symm
          exact (show Tryd.prog.wantsStandIn 32 = false by kernel_rfl)
        · obtain rfl : t = 54 := by simpa using ht.symm
          exact (show Tryd.prog.wantsStandIn 54 = false by kernel_rfl)
        · obtain rfl : t = 3 := by simpa using ht.symm
          exact (show Tryd.prog.wantsStandIn 3 = false by kernel_rfl)
        · simp at ht⟩)
    (by kernel_rfl)
end Go.Proofs.YtbjjimllnffcpaaDoor.groupOnce
namespace Go.Proofs.YtbjjimllnffcpaaDoor
/-- The card, under a short name, for the claim. -/
theorem groupOnce_holds : Rows.GroupOnceCardSaid := groupOnce.card
#print axioms groupOnce_holds
end Go.Proofs.YtbjjimllnffcpaaDoor
