import Derived.Test.YtjibnmmpbpheiaaDoorW2
set_option maxRecDepth 100000
set_option linter.unusedVariables false
set_option linter.unusedSimpArgs false
namespace Go.Proofs.YtjibnmmpbpheiaaDoor.Wi
open Go Go.Am
/-- What comes to a window, and what then is. -/
theorem ok6e {s s' : Wn} {p n c : Int} (hs : GoodW s) (h : inR p n) (he : come s p n = (c, s')) : CallOk Tryd.prog 6 [.ptr 0 0, .d (nI p), .d (nI n)] (winS s) (fun v σ => v = ansC c ∧ σ = winS s') :=
  (ok6 s hs p n h).mono fun v σ hv => by rw [he] at hv; exact hv
/-- A call on a window that is all there is. -/
theorem win1 {P : Program} {f : FuncId} {r : List D} {s s' : Wn} {x : AV} {k : AV → Store → Res} {Q : AExit → Fr → Store → Prop} (hx : x.closed = true)
    (h : CallOk P f (.ptr 0 0 :: r.map .d) (winS s) (fun v σ => v = x ∧ σ = winS s')) (hm : s' = none → s = none) (hk : W P (k x (winS s')) Q) : W P (.call f (.ptr 0 0 :: r.map .d) (winS s) [] k) Q := by
  have hr : ∀ (σ : Store) (ρ : Nat → Option Nat), AV.subL σ ρ (r.map .d) = r.map .d := fun σ ρ => by
    clear h hk
    induction r with
    | nil => rfl
    | cons a r ih =>
      simp only [List.map_cons, AV.subL, AV.sub]
      rw [ih]
  cases s with
  | none =>
    refine W.call [0] (by decide) (by simp [winS]) (by simp) (args' := .ptr 0 0 :: r.map .d) (σ' := winS none) ?_ rfl h ?_
    · show _ :: AV.subL _ _ (r.map .d) = _
      rw [hr]; rfl
    · rintro v σ ⟨rfl, rfl⟩
      rw [closed_sub hx]
      cases s' <;> exact hk
  | some t =>
    refine W.call [0, 1] (by decide) (by simp [winS, winM]) (by simp) (args' := .ptr 0 0 :: r.map .d) (σ' := winS (some t)) ?_ rfl h ?_
    · show _ :: AV.subL _ _ (r.map .d) = _
      rw [hr]; rfl
    · rintro v σ ⟨rfl, rfl⟩
      rw [closed_sub hx]
      cases s' with
      | none => cases hm rfl
      | some t' => exact hk
def od4 : Ords := []
theorem code4 : codeB Tryd.f4.ntmps od4 (match Tryd.f4.body with | some c => c | none => .skip) = true := by kernel_rfl
theorem ok4 : Go.Am.Pure Tryd.prog 4 [] (bI true) := by
  refine CallOk.of tysOk mixed od4 Tryd.func4 rfl rfl code4 ?_
  have g0 := good_none
  have r1 : inR 1 5 := by decide
  have r2 : inR 1 3 := by decide
  have r3 : inR 1 70 := by decide
  have r4 : inR 1 6 := by decide
  have r5 : inR 1 7 := by decide
  have e1 : come none 1 5 = (1, some [(1, 5, 1)]) := by decide +kernel
  have g1 : GoodW (some [(1, 5, 1)]) := by have := come_good (p := 1) g0 r1.2.2; rw [e1] at this; exact this
  have e2 : come (some [(1, 5, 1)]) 1 3 = (1, some [(1, 5, 5)]) := by decide +kernel
  have g2 : GoodW (some [(1, 5, 5)]) := by have := come_good (p := 1) g1 r2.2.2; rw [e2] at this; exact this
  have e3 : come (some [(1, 5, 5)]) 1 5 = (2, some [(1, 5, 5)]) := by decide +kernel
  have e4 : come (some [(1, 5, 5)]) 1 70 = (1, some [(1, 70, 1)]) := by decide +kernel
  have g4 : GoodW (some [(1, 70, 1)]) := by have := come_good (p := 1) g2 r3.2.2; rw [e4] at this; exact this
  have e5 : come (some [(1, 70, 1)]) 1 6 = (3, some [(1, 70, 1)]) := by decide +kernel
  have e6 : come (some [(1, 70, 1)]) 1 7 = (1, some [(1, 70, 9223372036854775809)]) := by decide +kernel
  have e7 : (get (some [(1, 70, 9223372036854775809)]) 1).1 = 70 := by decide +kernel
  refine win1 (s := none) (r := [nI 1, nI 5]) rfl (ok6e g0 r1 e1) (by simp) ?_
  refine win1 (s := some _) (r := [nI 1, nI 3]) rfl (ok6e g1 r2 e2) (by simp) ?_
  refine win1 (s := some _) (r := [nI 1, nI 5]) rfl (ok6e g2 r1 e3) (by simp) ?_
  refine win1 (s := some _) (r := [nI 1, nI 70]) rfl (ok6e g2 r3 e4) (by simp) ?_
  refine win1 (s := some _) (r := [nI 1, nI 6]) rfl (ok6e g4 r4 e5) (by simp) ?_
  refine win1 (s := some _) (r := [nI 1, nI 7]) rfl (ok6e g4 r5 e6) (by simp) ?_
  repeat (first | refine W.ite_t rfl ?_ | refine W.ite_f rfl ?_)
  refine win1 (s := some _) (r := [nI 1]) rfl (ok8 _ 1) (by simp) ?_
  rw [e7]
  repeat (first | refine W.ite_t rfl ?_ | refine W.ite_f rfl ?_)
  refine W.ret ?_
  exact RetQ.pure rfl rfl
end Go.Proofs.YtjibnmmpbpheiaaDoor.Wi
