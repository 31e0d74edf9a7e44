import Derived.Test.YtjibnmmpbpheiaaW7
set_option maxRecDepth 100000
set_option linter.unusedVariables false
set_option linter.unusedSimpArgs false
namespace Go.Proofs.Ytjibnmmpbpheiaa.Wi
open Go Go.Am
def od5 : Ords := [(6, [0, 1, 2, 3, 4, 5, 6, 7, 8, 9, 1010]), (9, [0, 1, 2, 3, 4, 5, 6, 7, 8, 9, 10, 11, 13, 12, 1014, 15, 16])]
theorem code5 : codeB Try.f5.ntmps od5 (match Try.f5.body with | some c => c | none => .skip) = true := by kernel_rfl
/-- Two windows that know the same of a publisher. -/
theorem come_same {a b a' : Wn} {p n c : Int} (hg : get a p = get b p) (hab : a = none → b = none) (ha : come a p n = (c, a')) : ∃ b', come b p n = (c, b') ∧ get a' p = get b' p ∧ (a' = none → b' = none) := by
  refine ⟨(come b p n).2, ?_, ?_, ?_⟩
  · have h1 := come_fst a p n
    have h2 := come_fst b p n
    rw [hg, ← h2, ha] at h1
    dsimp only at h1
    rw [h1]
  · have h1 := get_come a p n p
    have h2 := get_come b p n p
    rw [ha] at h1
    rw [h1, h2, hg]
  · intro h
    subst h
    unfold come at ha ⊢
    rw [← hg]
    cases hc : comeV (get a p) n with
    | mk k o =>
      rw [hc] at ha
      cases o with
      | none =>
        simp only [Prod.mk.injEq] at ha
        exact hab ha.2
      | some v => simp at ha
theorem end5 {l : List (Int × Int)} {p : Int} {i : Nat} {a b : Wn} {fr : Fr} (hi : i < 60) (ha : GoodW a) (hb : GoodW b) (hg : get a p = get b p) (hab : a = none → b = none) (h0 : fr.get 0 = slP l) (h1 : fr.get 1 = .d (nI p)) (h5 : fr.get 5 = .ptr 0 0) (h6 : fr.get 6 = .ptr 1 0) (h7 : fr.get 7 = .d (nI (IntKind.i64.wrap ((i : Int) + 1)))) :
    ∃ m fr' σ', m < 60 - i ∧ Trim 2 fr (two a b) fr' σ' ∧ ∃ (i : Nat) (a b : Wn), fr' = [(0, slP l), (1, .d (nI p)), (5, .ptr 0 0), (6, .ptr 1 0), (7, .d (nI i))] ∧ σ' = two a b ∧ GoodW a ∧ GoodW b ∧ get a p = get b p ∧ (a = none → b = none) ∧ i ≤ 60 ∧ m = 60 - i := by
  have g1 : IntKind.i64.wrap ((i : Int) + 1) = ((i + 1 : Nat) : Int) := by rw [wrap64 (by omega) (by omega)]; rfl
  rw [g1] at h7
  cases a with
  | none =>
    obtain rfl := hab rfl
    refine ⟨_, _, _, ?_, Trim.of [0, 1, 5, 6, 7] [0, 1] (by decide) (by simp [two]) (by intro j hj; have : j = 0 ∨ j = 1 := (by omega); rcases this with rfl | rfl <;> rfl), i + 1, none, none, ?_, rfl, ha, hb, rfl, fun h => h, by omega, rfl⟩
    · omega
    · simp only [keepFr, h0, h1, h5, h6, h7]; rfl
  | some t =>
    cases b with
    | none =>
      refine ⟨_, _, _, ?_, Trim.of [0, 1, 5, 6, 7] [0, 1, 2] (by decide) (by simp [two, winM]) (by intro j hj; have : j = 0 ∨ j = 1 := (by omega); rcases this with rfl | rfl <;> rfl), i + 1, some t, none, ?_, rfl, ha, hb, hg, hab, by omega, rfl⟩
      · omega
      · simp only [keepFr, h0, h1, h5, h6, h7]; rfl
    | some u =>
      refine ⟨_, _, _, ?_, Trim.of [0, 1, 5, 6, 7] [0, 1, 2, 3] (by decide) (by simp [two, winM]) (by intro j hj; have : j = 0 ∨ j = 1 := (by omega); rcases this with rfl | rfl <;> rfl), i + 1, some t, some u, ?_, rfl, ha, hb, hg, hab, by omega, rfl⟩
      · omega
      · simp only [keepFr, h0, h1, h5, h6, h7]; rfl
set_option maxHeartbeats 8000000 in
theorem ok5 (l : List (Int × Int)) (p : Int) : Go.Am.Pure Try.prog 5 [slP l, .d (nI p)] (bI true) := by
  refine CallOk.of tysOk mixed od5 Try.func5 rfl rfl code5 ?_
  refine W.loop (fun k fr σ => ∃ (i : Nat) (a b : Wn), fr = [(0, slP l), (1, .d (nI p)), (5, .ptr 0 0), (6, .ptr 1 0), (7, .d (nI i))] ∧ σ = two a b ∧ GoodW a ∧ GoodW b ∧ get a p = get b p ∧ (a = none → b = none) ∧ i ≤ 60 ∧ k = 60 - i) 60
    (Start.of [0, 1, 5, 6, 7] [] (by simp)) ⟨0, none, none, rfl, rfl, good_none, good_none, rfl, fun h => h, by omega, rfl⟩ ?_
  rintro k fr σ ⟨i, a, b, rfl, rfl, ha, hb, hg, hab, hi, rfl⟩
  have fin : W Try.prog (.call 9 [] (two a b) [] fun v σ => .ret .ret [(0, v)] σ) (fun e fr σ => True) := W.pure ok9 rfl rfl (W.ret True.intro)
  have last : ∀ {Q : AExit → Fr → Store → Prop} {k : AV → Store → Res}, W Try.prog (k (bI true) (two a b)) Q → W Try.prog (.call 9 [] (two a b) [] k) Q := fun h => W.pure ok9 rfl rfl h
  have d9 : ((get a p).1 == (get b p).1) = true := by rw [hg]; simp
  refine W.ite (fun c1 => ?_) (fun c1 => ?_)
  · have hil : i < l.length := by have := of_decide_eq_true c1; omega
    repeat (first | refine W.ite_t rfl ?_ | refine W.ite_f rfl ?_ | refine W.ite_t c1 ?_)
    refine W.ite (fun c2 => ?_) (fun c2 => ?_)
    · have hi2 : i < 60 := by have := of_decide_eq_true c2; omega
      obtain ⟨⟨q, n⟩, hpn⟩ : ∃ x, l[i]? = some x := ⟨_, List.getElem?_eq_getElem hil⟩
      have at_ := At.of hpn
      have e0 : P0 l i = q := at_.e0
      have e1 : P1 l i = n := at_.e1
      repeat (first | refine W.need at_.ix ?_ | refine W.need at_.p0 ?_ | refine W.need at_.n0 ?_)
      refine W.ite (fun c3 => ?_) (fun c3 => ?_)
      · have hq : p ≠ q := by
          have : (P0 l i != p) = true := c3
          rw [e0] at this
          intro h
          rw [h] at this
          simp at this
        repeat (first | refine W.need at_.ix ?_ | refine W.need at_.p0 ?_ | refine W.need at_.n0 ?_ | refine W.need at_.p1 ?_ | refine W.need at_.n1 ?_)
        by_cases hr : inR q n
        · cases hc : come a q n with
          | mk c a' =>
            have hne : a' = none → a = none := come_some_of hc
            have g' : GoodW a' := by have := come_good (p := q) ha hr.2.2; rw [hc] at this; exact this
            have key : CallOk Try.prog 8 (.ptr 0 0 :: [nI (P0 l i), nI (P1 l i)].map .d) (winS a) (fun v σ => v = ansC c ∧ σ = winS a') := by rw [e0, e1]; exact ok8e ha hr hc
            have hgp : get a' p = get a p := by
              have := get_come a q n p
              rw [hc, if_neg hq] at this
              exact this
            refine winA (r := [nI (P0 l i), nI (P1 l i)]) (a' := a') rfl rfl key hne hab ?_
            exact W.ret (end5 hi2 g' hb (hgp.trans hg) (fun h => hab (hne h)) rfl rfl rfl rfl rfl)
        · have key : CallOk Try.prog 8 (.ptr 0 0 :: [nI (P0 l i), nI (P1 l i)].map .d) (winS a) (fun v σ => v = .tuple [.d (nI 0), .d badE] ∧ σ = winS a) := by rw [e0, e1]; exact ok8_bad a q n hr
          refine winA (r := [nI (P0 l i), nI (P1 l i)]) (a' := a) rfl rfl key (fun h => h) hab ?_
          exact W.ret (end5 hi2 ha hb hg hab rfl rfl rfl rfl rfl)
      · repeat (first | refine W.need at_.ix ?_ | refine W.need at_.p1 ?_ | refine W.need at_.n1 ?_)
        by_cases hr : inR p n
        · cases hc : come a p n with
          | mk c a' =>
            obtain ⟨b', hc2, hg', hab'⟩ := come_same hg hab hc
            have hne : a' = none → a = none := come_some_of hc
            have hne2 : b' = none → b = none := come_some_of hc2
            have ga : GoodW a' := by have := come_good (p := p) ha hr.2.2; rw [hc] at this; exact this
            have gb : GoodW b' := by have := come_good (p := p) hb hr.2.2; rw [hc2] at this; exact this
            have key : CallOk Try.prog 8 (.ptr 0 0 :: [nI p, nI (P1 l i)].map .d) (winS a) (fun v σ => v = ansC c ∧ σ = winS a') := by rw [e1]; exact ok8e ha hr hc
            have key2 : CallOk Try.prog 8 (.ptr 0 0 :: [nI p, nI (P1 l i)].map .d) (winS b) (fun v σ => v = ansC c ∧ σ = winS b') := by rw [e1]; exact ok8e hb hr hc2
            have d : ((get a' p).1 != (get b' p).1) = false := by rw [hg']; simp
            refine winA (r := [nI p, nI (P1 l i)]) (a' := a') rfl rfl key hne hab ?_
            repeat (first | refine W.need at_.ix ?_ | refine W.need at_.p1 ?_ | refine W.need at_.n1 ?_)
            refine winBb (r := [nI p, nI (P1 l i)]) (b' := b') rfl rfl key2 hne2 hab' ?_
            repeat (first | refine W.ite_t rfl ?_ | refine W.ite_f rfl ?_ | refine W.ite_f (ne_self _) ?_)
            refine winA (r := [nI p]) (a' := a') rfl rfl (ok10 a' _) (fun h => h) hab' ?_
            repeat (first | refine W.ite_t rfl ?_ | refine W.ite_f rfl ?_ | refine W.ite_f (ne_self _) ?_)
            refine winBb (r := [nI p]) (b' := b') rfl rfl (ok10 b' _) (fun h => h) hab' ?_
            repeat (first | refine W.ite_t rfl ?_ | refine W.ite_f rfl ?_ | refine W.ite_f (ne_self _) ?_ | refine W.ite_f d ?_)
            exact W.ret (end5 hi2 ga gb hg' hab' rfl rfl rfl rfl rfl)
        · have key : CallOk Try.prog 8 (.ptr 0 0 :: [nI p, nI (P1 l i)].map .d) (winS a) (fun v σ => v = .tuple [.d (nI 0), .d badE] ∧ σ = winS a) := by rw [e1]; exact ok8_bad a p n hr
          have key2 : CallOk Try.prog 8 (.ptr 0 0 :: [nI p, nI (P1 l i)].map .d) (winS b) (fun v σ => v = .tuple [.d (nI 0), .d badE] ∧ σ = winS b) := by rw [e1]; exact ok8_bad b p n hr
          have d : ((get a p).1 != (get b p).1) = false := by rw [hg]; simp
          refine winA (r := [nI p, nI (P1 l i)]) (a' := a) rfl rfl key (fun h => h) hab ?_
          repeat (first | refine W.need at_.ix ?_ | refine W.need at_.p1 ?_ | refine W.need at_.n1 ?_)
          refine winBb (r := [nI p, nI (P1 l i)]) (b' := b) rfl rfl key2 (fun h => h) hab ?_
          repeat (first | refine W.ite_t rfl ?_ | refine W.ite_f rfl ?_ | refine W.ite_f (ne_self _) ?_)
          refine winA (r := [nI p]) (a' := a) rfl rfl (ok10 a _) (fun h => h) hab ?_
          repeat (first | refine W.ite_t rfl ?_ | refine W.ite_f rfl ?_ | refine W.ite_f (ne_self _) ?_)
          refine winBb (r := [nI p]) (b' := b) rfl rfl (ok10 b _) (fun h => h) hab ?_
          repeat (first | refine W.ite_t rfl ?_ | refine W.ite_f rfl ?_ | refine W.ite_f (ne_self _) ?_ | refine W.ite_f d ?_)
          exact W.ret (end5 hi2 ha hb hg hab rfl rfl rfl rfl rfl)
    · refine W.ret ?_
      refine last ?_
      repeat (first | refine W.ite_t rfl ?_ | refine W.ite_f rfl ?_)
      refine winA (r := [nI p]) (a' := a) rfl rfl (ok10 a _) (fun h => h) hab ?_
      repeat (first | refine W.ite_t rfl ?_ | refine W.ite_f rfl ?_)
      refine winBb (r := [nI p]) (b' := b) rfl rfl (ok10 b _) (fun h => h) hab ?_
      repeat (first | refine W.ite_t rfl ?_ | refine W.ite_f rfl ?_)
      refine W.ret ?_
      refine RetQ.pure rfl ?_
      exact ret_bI d9
  · repeat (first | refine W.ite_t rfl ?_ | refine W.ite_f rfl ?_ | refine W.ite_f c1 ?_)
    refine W.ret ?_
    refine last ?_
    repeat (first | refine W.ite_t rfl ?_ | refine W.ite_f rfl ?_)
    refine winA (r := [nI p]) (a' := a) rfl rfl (ok10 a _) (fun h => h) hab ?_
    repeat (first | refine W.ite_t rfl ?_ | refine W.ite_f rfl ?_)
    refine winBb (r := [nI p]) (b' := b) rfl rfl (ok10 b _) (fun h => h) hab ?_
    repeat (first | refine W.ite_t rfl ?_ | refine W.ite_f rfl ?_)
    refine W.ret ?_
    refine RetQ.pure rfl ?_
    exact ret_bI d9
end Go.Proofs.Ytjibnmmpbpheiaa.Wi
