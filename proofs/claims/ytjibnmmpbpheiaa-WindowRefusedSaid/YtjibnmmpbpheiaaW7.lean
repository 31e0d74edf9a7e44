import Derived.Test.YtjibnmmpbpheiaaW6
set_option maxRecDepth 100000
set_option linter.unusedVariables false
set_option linter.unusedSimpArgs false
namespace Go.Proofs.Ytjibnmmpbpheiaa.Wi
open Go Go.Am
def od7 : Ords := [(6, [0, 1, 2, 3, 4, 5, 6, 7, 8, 9, 1010, 11, 12, 13, 14, 15]), (9, [0, 1, 2, 3, 4, 5, 6, 7, 8, 9, 1010, 11, 12, 13, 14, 15]), (10, [0, 1, 2, 3, 4, 5, 6, 7, 8, 9, 1010, 11, 12, 13, 14, 15]), (11, [0, 1, 2, 3, 4, 5, 6, 7, 8, 9, 10, 11, 12, 13, 14, 15, 17, 18, 19, 20, 21, 16, 1022, 23, 24])]
theorem code7 : codeB Try.f7.ntmps od7 (match Try.f7.body with | some c => c | none => .skip) = true := by kernel_rfl
theorem ne_self (x : Int) : (x != x) = false := by simp
/-- An iteration's end. -/
theorem end7 {P : Program} {l bad : List (Int × Int)} {i : Nat} {s : Wn} {fr : Fr} {Q : AExit → Fr → Store → Prop} (hi : i < 30) (hs : GoodW s) (h0 : fr.get 0 = slP l) (h1 : fr.get 1 = slP bad) (h5 : fr.get 5 = .ptr 0 0) (h6 : fr.get 6 = .ptr 1 0) (h7 : fr.get 7 = .d (nI (IntKind.i64.wrap ((i : Int) + 1)))) :
    ∃ m fr' σ', m < 30 - i ∧ Trim 2 fr (two s s) fr' σ' ∧ ∃ (i : Nat) (s : Wn), fr' = [(0, slP l), (1, slP bad), (5, .ptr 0 0), (6, .ptr 1 0), (7, .d (nI i))] ∧ σ' = two s s ∧ GoodW s ∧ i ≤ 30 ∧ m = 30 - i := by
  have g1 : IntKind.i64.wrap ((i : Int) + 1) = ((i + 1 : Nat) : Int) := by rw [wrap64 (by omega) (by omega)]; rfl
  rw [g1] at h7
  cases s with
  | none =>
    refine ⟨_, _, _, ?_, Trim.of [0, 1, 5, 6, 7] [0, 1] (by decide) (by simp [two]) (by intro j hj; have : j = 0 ∨ j = 1 := (by omega); rcases this with rfl | rfl <;> rfl), i + 1, none, ?_, rfl, hs, by omega, rfl⟩
    · omega
    · simp only [keepFr, h0, h1, h5, h6, h7]; rfl
  | some t =>
    refine ⟨_, _, _, ?_, Trim.of [0, 1, 5, 6, 7] [0, 1, 2, 3] (by decide) (by simp [two, winM]) (by intro j hj; have : j = 0 ∨ j = 1 := (by omega); rcases this with rfl | rfl <;> rfl), i + 1, some t, ?_, rfl, hs, by omega, rfl⟩
    · omega
    · simp only [keepFr, h0, h1, h5, h6, h7]; rfl
set_option maxHeartbeats 8000000 in
theorem ok7 (l bad : List (Int × Int)) : Go.Am.Pure Try.prog 7 [slP l, slP bad] (bI true) := by
  refine CallOk.of tysOk mixed od7 Try.func7 rfl rfl code7 ?_
  refine W.loop (fun k fr σ => ∃ (i : Nat) (s : Wn), fr = [(0, slP l), (1, slP bad), (5, .ptr 0 0), (6, .ptr 1 0), (7, .d (nI i))] ∧ σ = two s s ∧ GoodW s ∧ i ≤ 30 ∧ k = 30 - i) 30
    (Start.of [0, 1, 5, 6, 7] [] (by simp)) ⟨0, none, rfl, rfl, good_none, by omega, rfl⟩ ?_
  rintro k fr σ ⟨i, s, rfl, rfl, hs, hi, rfl⟩
  refine W.ite (fun c1 => ?_) (fun c1 => ?_)
  · have hil : i < l.length := by have := of_decide_eq_true c1; omega
    repeat (first | refine W.ite_t rfl ?_ | refine W.ite_f rfl ?_ | refine W.ite_t c1 ?_)
    refine W.ite (fun c2 => ?_) (fun c2 => ?_)
    · have hi2 : i < 30 := by have := of_decide_eq_true c2; omega
      obtain ⟨⟨p, n⟩, hpn⟩ : ∃ x, l[i]? = some x := ⟨_, List.getElem?_eq_getElem hil⟩
      have at_ := At.of hpn
      have e0 : P0 l i = p := at_.e0
      have e1 : P1 l i = n := at_.e1
      by_cases hr : inR p n
      · cases hc : come s p n with
        | mk c s' =>
          have hne : s' = none → s = none := come_some_of hc
          have g' : GoodW s' := by have := come_good (p := p) hs hr.2.2; rw [hc] at this; exact this
          have key : CallOk Try.prog 8 (.ptr 0 0 :: [nI (P0 l i), nI (P1 l i)].map .d) (winS s) (fun v σ => v = ansC c ∧ σ = winS s') := by rw [e0, e1]; exact ok8e hs hr hc
          have fin : ∀ {fr : Fr}, fr.get 0 = slP l → fr.get 1 = slP bad → fr.get 5 = .ptr 0 0 → fr.get 6 = .ptr 1 0 → fr.get 7 = .d (nI (IntKind.i64.wrap ((i : Int) + 1))) → _ := fun {fr} h0 h1 h5 h6 h7 => end7 (P := Try.prog) (Q := fun _ _ _ => True) hi2 g' h0 h1 h5 h6 h7
          refine W.ite (fun c3 => ?_) (fun c3 => ?_)
          · have hib : i < bad.length := by have := of_decide_eq_true c3; omega
            obtain ⟨⟨bp, bn⟩, hbn⟩ : ∃ x, bad[i]? = some x := ⟨_, List.getElem?_eq_getElem hib⟩
            have bt := At.of hbn
            have f0 : P0 bad i = bp := bt.e0
            have f1 : P1 bad i = bn := bt.e1
            repeat (first | refine W.ite_t rfl ?_ | refine W.ite_f rfl ?_ | refine W.ite_t c3 ?_ | refine W.need bt.ix ?_ | refine W.need bt.p0 ?_ | refine W.need bt.n0 ?_)
            have call6 : ¬ inR bp bn → CallOk Try.prog 8 (.ptr 0 0 :: [nI (P0 bad i), nI (P1 bad i)].map .d) (winS s) (fun v σ => v = .tuple [.d (nI 0), .d badE] ∧ σ = winS s) := fun h => by rw [f0, f1]; exact ok8_bad s bp bn h
            refine W.ite (fun b1 => ?_) (fun b1 => ?_)
            · have hb : ¬ inR bp bn := by have : P0 bad i < 0 := of_decide_eq_true b1; intro h; have := h.1; omega
              repeat (first | refine W.ite_t rfl ?_ | refine W.ite_f rfl ?_ | refine W.ite_t c3 ?_ | refine W.ite_t b1 ?_ | refine W.need bt.ix ?_ | refine W.need bt.p0 ?_ | refine W.need bt.n0 ?_ | refine W.need bt.p1 ?_ | refine W.need bt.n1 ?_)
              refine winBb (r := [nI (P0 bad i), nI (P1 bad i)]) (b' := s) rfl rfl (call6 hb) (fun h => h) (fun h => h) ?_
              repeat (first | refine W.ite_t rfl ?_ | refine W.ite_f rfl ?_)
              repeat (first | refine W.need at_.ix ?_ | refine W.need at_.p0 ?_ | refine W.need at_.n0 ?_ | refine W.need at_.p1 ?_ | refine W.need at_.n1 ?_)
              refine winA (r := [nI (P0 l i), nI (P1 l i)]) (a' := s') rfl rfl key hne (fun h => h) ?_
              repeat (first | refine W.need at_.ix ?_ | refine W.need at_.p0 ?_ | refine W.need at_.n0 ?_ | refine W.need at_.p1 ?_ | refine W.need at_.n1 ?_)
              refine winBb (r := [nI (P0 l i), nI (P1 l i)]) (b' := s') rfl rfl key hne (fun h => h) ?_
              repeat (first | refine W.ite_t rfl ?_ | refine W.ite_f rfl ?_ | refine W.ite_f (ne_self _) ?_ | refine W.need at_.ix ?_ | refine W.need at_.p0 ?_ | refine W.need at_.n0 ?_)
              refine winA (r := [nI (P0 l i)]) (a' := s') rfl rfl (ok10 s' _) (fun h => h) (fun h => h) ?_
              repeat (first | refine W.ite_t rfl ?_ | refine W.ite_f rfl ?_ | refine W.ite_f (ne_self _) ?_ | refine W.need at_.ix ?_ | refine W.need at_.p0 ?_ | refine W.need at_.n0 ?_)
              refine winBb (r := [nI (P0 l i)]) (b' := s') rfl rfl (ok10 s' _) (fun h => h) (fun h => h) ?_
              repeat (first | refine W.ite_t rfl ?_ | refine W.ite_f rfl ?_ | refine W.ite_f (ne_self _) ?_)
              exact W.ret (fin rfl rfl rfl rfl rfl)
            repeat (first | refine W.ite_t rfl ?_ | refine W.ite_f rfl ?_ | refine W.ite_t c3 ?_ | refine W.ite_f b1 ?_ | refine W.need bt.ix ?_ | refine W.need bt.p0 ?_ | refine W.need bt.n0 ?_)
            refine W.ite (fun b2 => ?_) (fun b2 => ?_)
            · have hb : ¬ inR bp bn := by have : P0 bad i > 31 := of_decide_eq_true b2; intro h; have := h.2.1; omega
              repeat (first | refine W.ite_t rfl ?_ | refine W.ite_f rfl ?_ | refine W.ite_t c3 ?_ | refine W.ite_t b2 ?_ | refine W.need bt.ix ?_ | refine W.need bt.p0 ?_ | refine W.need bt.n0 ?_ | refine W.need bt.p1 ?_ | refine W.need bt.n1 ?_)
              refine winBb (r := [nI (P0 bad i), nI (P1 bad i)]) (b' := s) rfl rfl (call6 hb) (fun h => h) (fun h => h) ?_
              repeat (first | refine W.ite_t rfl ?_ | refine W.ite_f rfl ?_)
              repeat (first | refine W.need at_.ix ?_ | refine W.need at_.p0 ?_ | refine W.need at_.n0 ?_ | refine W.need at_.p1 ?_ | refine W.need at_.n1 ?_)
              refine winA (r := [nI (P0 l i), nI (P1 l i)]) (a' := s') rfl rfl key hne (fun h => h) ?_
              repeat (first | refine W.need at_.ix ?_ | refine W.need at_.p0 ?_ | refine W.need at_.n0 ?_ | refine W.need at_.p1 ?_ | refine W.need at_.n1 ?_)
              refine winBb (r := [nI (P0 l i), nI (P1 l i)]) (b' := s') rfl rfl key hne (fun h => h) ?_
              repeat (first | refine W.ite_t rfl ?_ | refine W.ite_f rfl ?_ | refine W.ite_f (ne_self _) ?_ | refine W.need at_.ix ?_ | refine W.need at_.p0 ?_ | refine W.need at_.n0 ?_)
              refine winA (r := [nI (P0 l i)]) (a' := s') rfl rfl (ok10 s' _) (fun h => h) (fun h => h) ?_
              repeat (first | refine W.ite_t rfl ?_ | refine W.ite_f rfl ?_ | refine W.ite_f (ne_self _) ?_ | refine W.need at_.ix ?_ | refine W.need at_.p0 ?_ | refine W.need at_.n0 ?_)
              refine winBb (r := [nI (P0 l i)]) (b' := s') rfl rfl (ok10 s' _) (fun h => h) (fun h => h) ?_
              repeat (first | refine W.ite_t rfl ?_ | refine W.ite_f rfl ?_ | refine W.ite_f (ne_self _) ?_)
              exact W.ret (fin rfl rfl rfl rfl rfl)
            repeat (first | refine W.ite_t rfl ?_ | refine W.ite_f rfl ?_ | refine W.ite_t c3 ?_ | refine W.ite_f b1 ?_ | refine W.ite_f b2 ?_ | refine W.need bt.ix ?_ | refine W.need bt.p1 ?_ | refine W.need bt.n1 ?_)
            refine W.ite (fun b3 => ?_) (fun b3 => ?_)
            · have hb : ¬ inR bp bn := by have : P1 bad i < 1 := of_decide_eq_true b3; intro h; have := h.2.2.1; omega
              repeat (first | refine W.ite_t rfl ?_ | refine W.ite_f rfl ?_ | refine W.ite_t c3 ?_ | refine W.ite_t b3 ?_ | refine W.need bt.ix ?_ | refine W.need bt.p0 ?_ | refine W.need bt.n0 ?_ | refine W.need bt.p1 ?_ | refine W.need bt.n1 ?_)
              refine winBb (r := [nI (P0 bad i), nI (P1 bad i)]) (b' := s) rfl rfl (call6 hb) (fun h => h) (fun h => h) ?_
              repeat (first | refine W.ite_t rfl ?_ | refine W.ite_f rfl ?_)
              repeat (first | refine W.need at_.ix ?_ | refine W.need at_.p0 ?_ | refine W.need at_.n0 ?_ | refine W.need at_.p1 ?_ | refine W.need at_.n1 ?_)
              refine winA (r := [nI (P0 l i), nI (P1 l i)]) (a' := s') rfl rfl key hne (fun h => h) ?_
              repeat (first | refine W.need at_.ix ?_ | refine W.need at_.p0 ?_ | refine W.need at_.n0 ?_ | refine W.need at_.p1 ?_ | refine W.need at_.n1 ?_)
              refine winBb (r := [nI (P0 l i), nI (P1 l i)]) (b' := s') rfl rfl key hne (fun h => h) ?_
              repeat (first | refine W.ite_t rfl ?_ | refine W.ite_f rfl ?_ | refine W.ite_f (ne_self _) ?_ | refine W.need at_.ix ?_ | refine W.need at_.p0 ?_ | refine W.need at_.n0 ?_)
              refine winA (r := [nI (P0 l i)]) (a' := s') rfl rfl (ok10 s' _) (fun h => h) (fun h => h) ?_
              repeat (first | refine W.ite_t rfl ?_ | refine W.ite_f rfl ?_ | refine W.ite_f (ne_self _) ?_ | refine W.need at_.ix ?_ | refine W.need at_.p0 ?_ | refine W.need at_.n0 ?_)
              refine winBb (r := [nI (P0 l i)]) (b' := s') rfl rfl (ok10 s' _) (fun h => h) (fun h => h) ?_
              repeat (first | refine W.ite_t rfl ?_ | refine W.ite_f rfl ?_ | refine W.ite_f (ne_self _) ?_)
              exact W.ret (fin rfl rfl rfl rfl rfl)
            repeat (first | refine W.ite_t rfl ?_ | refine W.ite_f rfl ?_ | refine W.ite_t c3 ?_ | refine W.ite_f b1 ?_ | refine W.ite_f b2 ?_ | refine W.ite_f b3 ?_ | refine W.need bt.ix ?_ | refine W.need bt.p1 ?_ | refine W.need bt.n1 ?_)
            refine W.ite (fun b4 => ?_) (fun b4 => ?_)
            · have hb : ¬ inR bp bn := by have : P1 bad i > 1073741824 := of_decide_eq_true b4; intro h; have := h.2.2.2; omega
              repeat (first | refine W.ite_t rfl ?_ | refine W.ite_f rfl ?_ | refine W.ite_t c3 ?_ | refine W.ite_t b4 ?_ | refine W.need bt.ix ?_ | refine W.need bt.p0 ?_ | refine W.need bt.n0 ?_ | refine W.need bt.p1 ?_ | refine W.need bt.n1 ?_)
              refine winBb (r := [nI (P0 bad i), nI (P1 bad i)]) (b' := s) rfl rfl (call6 hb) (fun h => h) (fun h => h) ?_
              repeat (first | refine W.ite_t rfl ?_ | refine W.ite_f rfl ?_)
              repeat (first | refine W.need at_.ix ?_ | refine W.need at_.p0 ?_ | refine W.need at_.n0 ?_ | refine W.need at_.p1 ?_ | refine W.need at_.n1 ?_)
              refine winA (r := [nI (P0 l i), nI (P1 l i)]) (a' := s') rfl rfl key hne (fun h => h) ?_
              repeat (first | refine W.need at_.ix ?_ | refine W.need at_.p0 ?_ | refine W.need at_.n0 ?_ | refine W.need at_.p1 ?_ | refine W.need at_.n1 ?_)
              refine winBb (r := [nI (P0 l i), nI (P1 l i)]) (b' := s') rfl rfl key hne (fun h => h) ?_
              repeat (first | refine W.ite_t rfl ?_ | refine W.ite_f rfl ?_ | refine W.ite_f (ne_self _) ?_ | refine W.need at_.ix ?_ | refine W.need at_.p0 ?_ | refine W.need at_.n0 ?_)
              refine winA (r := [nI (P0 l i)]) (a' := s') rfl rfl (ok10 s' _) (fun h => h) (fun h => h) ?_
              repeat (first | refine W.ite_t rfl ?_ | refine W.ite_f rfl ?_ | refine W.ite_f (ne_self _) ?_ | refine W.need at_.ix ?_ | refine W.need at_.p0 ?_ | refine W.need at_.n0 ?_)
              refine winBb (r := [nI (P0 l i)]) (b' := s') rfl rfl (ok10 s' _) (fun h => h) (fun h => h) ?_
              repeat (first | refine W.ite_t rfl ?_ | refine W.ite_f rfl ?_ | refine W.ite_f (ne_self _) ?_)
              exact W.ret (fin rfl rfl rfl rfl rfl)
            · repeat (first | refine W.ite_t rfl ?_ | refine W.ite_f rfl ?_ | refine W.ite_t c3 ?_ | refine W.ite_f b4 ?_)
              repeat (first | refine W.need at_.ix ?_ | refine W.need at_.p0 ?_ | refine W.need at_.n0 ?_ | refine W.need at_.p1 ?_ | refine W.need at_.n1 ?_)
              refine winA (r := [nI (P0 l i), nI (P1 l i)]) (a' := s') rfl rfl key hne (fun h => h) ?_
              repeat (first | refine W.need at_.ix ?_ | refine W.need at_.p0 ?_ | refine W.need at_.n0 ?_ | refine W.need at_.p1 ?_ | refine W.need at_.n1 ?_)
              refine winBb (r := [nI (P0 l i), nI (P1 l i)]) (b' := s') rfl rfl key hne (fun h => h) ?_
              repeat (first | refine W.ite_t rfl ?_ | refine W.ite_f rfl ?_ | refine W.ite_f (ne_self _) ?_ | refine W.need at_.ix ?_ | refine W.need at_.p0 ?_ | refine W.need at_.n0 ?_)
              refine winA (r := [nI (P0 l i)]) (a' := s') rfl rfl (ok10 s' _) (fun h => h) (fun h => h) ?_
              repeat (first | refine W.ite_t rfl ?_ | refine W.ite_f rfl ?_ | refine W.ite_f (ne_self _) ?_ | refine W.need at_.ix ?_ | refine W.need at_.p0 ?_ | refine W.need at_.n0 ?_)
              refine winBb (r := [nI (P0 l i)]) (b' := s') rfl rfl (ok10 s' _) (fun h => h) (fun h => h) ?_
              repeat (first | refine W.ite_t rfl ?_ | refine W.ite_f rfl ?_ | refine W.ite_f (ne_self _) ?_)
              exact W.ret (fin rfl rfl rfl rfl rfl)
          · repeat (first | refine W.ite_t rfl ?_ | refine W.ite_f rfl ?_ | refine W.ite_f c3 ?_)
            repeat (first | refine W.need at_.ix ?_ | refine W.need at_.p0 ?_ | refine W.need at_.n0 ?_ | refine W.need at_.p1 ?_ | refine W.need at_.n1 ?_)
            refine winA (r := [nI (P0 l i), nI (P1 l i)]) (a' := s') rfl rfl key hne (fun h => h) ?_
            repeat (first | refine W.need at_.ix ?_ | refine W.need at_.p0 ?_ | refine W.need at_.n0 ?_ | refine W.need at_.p1 ?_ | refine W.need at_.n1 ?_)
            refine winBb (r := [nI (P0 l i), nI (P1 l i)]) (b' := s') rfl rfl key hne (fun h => h) ?_
            repeat (first | refine W.ite_t rfl ?_ | refine W.ite_f rfl ?_ | refine W.ite_f (ne_self _) ?_ | refine W.need at_.ix ?_ | refine W.need at_.p0 ?_ | refine W.need at_.n0 ?_)
            refine winA (r := [nI (P0 l i)]) (a' := s') rfl rfl (ok10 s' _) (fun h => h) (fun h => h) ?_
            repeat (first | refine W.ite_t rfl ?_ | refine W.ite_f rfl ?_ | refine W.ite_f (ne_self _) ?_ | refine W.need at_.ix ?_ | refine W.need at_.p0 ?_ | refine W.need at_.n0 ?_)
            refine winBb (r := [nI (P0 l i)]) (b' := s') rfl rfl (ok10 s' _) (fun h => h) (fun h => h) ?_
            repeat (first | refine W.ite_t rfl ?_ | refine W.ite_f rfl ?_ | refine W.ite_f (ne_self _) ?_)
            exact W.ret (fin rfl rfl rfl rfl rfl)
      · have key : CallOk Try.prog 8 (.ptr 0 0 :: [nI (P0 l i), nI (P1 l i)].map .d) (winS s) (fun v σ => v = .tuple [.d (nI 0), .d badE] ∧ σ = winS s) := by rw [e0, e1]; exact ok8_bad s p n hr
        have fin : ∀ {fr : Fr}, fr.get 0 = slP l → fr.get 1 = slP bad → fr.get 5 = .ptr 0 0 → fr.get 6 = .ptr 1 0 → fr.get 7 = .d (nI (IntKind.i64.wrap ((i : Int) + 1))) → _ := fun {fr} h0 h1 h5 h6 h7 => end7 (P := Try.prog) (Q := fun _ _ _ => True) hi2 hs h0 h1 h5 h6 h7
        refine W.ite (fun c3 => ?_) (fun c3 => ?_)
        · have hib : i < bad.length := by have := of_decide_eq_true c3; omega
          obtain ⟨⟨bp, bn⟩, hbn⟩ : ∃ x, bad[i]? = some x := ⟨_, List.getElem?_eq_getElem hib⟩
          have bt := At.of hbn
          have f0 : P0 bad i = bp := bt.e0
          have f1 : P1 bad i = bn := bt.e1
          repeat (first | refine W.ite_t rfl ?_ | refine W.ite_f rfl ?_ | refine W.ite_t c3 ?_ | refine W.need bt.ix ?_ | refine W.need bt.p0 ?_ | refine W.need bt.n0 ?_)
          have call6 : ¬ inR bp bn → CallOk Try.prog 8 (.ptr 0 0 :: [nI (P0 bad i), nI (P1 bad i)].map .d) (winS s) (fun v σ => v = .tuple [.d (nI 0), .d badE] ∧ σ = winS s) := fun h => by rw [f0, f1]; exact ok8_bad s bp bn h
          refine W.ite (fun b1 => ?_) (fun b1 => ?_)
          · have hb : ¬ inR bp bn := by have : P0 bad i < 0 := of_decide_eq_true b1; intro h; have := h.1; omega
            repeat (first | refine W.ite_t rfl ?_ | refine W.ite_f rfl ?_ | refine W.ite_t c3 ?_ | refine W.ite_t b1 ?_ | refine W.need bt.ix ?_ | refine W.need bt.p0 ?_ | refine W.need bt.n0 ?_ | refine W.need bt.p1 ?_ | refine W.need bt.n1 ?_)
            refine winBb (r := [nI (P0 bad i), nI (P1 bad i)]) (b' := s) rfl rfl (call6 hb) (fun h => h) (fun h => h) ?_
            repeat (first | refine W.ite_t rfl ?_ | refine W.ite_f rfl ?_)
            repeat (first | refine W.need at_.ix ?_ | refine W.need at_.p0 ?_ | refine W.need at_.n0 ?_ | refine W.need at_.p1 ?_ | refine W.need at_.n1 ?_)
            refine winA (r := [nI (P0 l i), nI (P1 l i)]) (a' := s) rfl rfl key (fun h => h) (fun h => h) ?_
            repeat (first | refine W.need at_.ix ?_ | refine W.need at_.p0 ?_ | refine W.need at_.n0 ?_ | refine W.need at_.p1 ?_ | refine W.need at_.n1 ?_)
            refine winBb (r := [nI (P0 l i), nI (P1 l i)]) (b' := s) rfl rfl key (fun h => h) (fun h => h) ?_
            repeat (first | refine W.ite_t rfl ?_ | refine W.ite_f rfl ?_ | refine W.ite_f (ne_self _) ?_ | refine W.need at_.ix ?_ | refine W.need at_.p0 ?_ | refine W.need at_.n0 ?_)
            refine winA (r := [nI (P0 l i)]) (a' := s) rfl rfl (ok10 s _) (fun h => h) (fun h => h) ?_
            repeat (first | refine W.ite_t rfl ?_ | refine W.ite_f rfl ?_ | refine W.ite_f (ne_self _) ?_ | refine W.need at_.ix ?_ | refine W.need at_.p0 ?_ | refine W.need at_.n0 ?_)
            refine winBb (r := [nI (P0 l i)]) (b' := s) rfl rfl (ok10 s _) (fun h => h) (fun h => h) ?_
            repeat (first | refine W.ite_t rfl ?_ | refine W.ite_f rfl ?_ | refine W.ite_f (ne_self _) ?_)
            exact W.ret (fin rfl rfl rfl rfl rfl)
          repeat (first | refine W.ite_t rfl ?_ | refine W.ite_f rfl ?_ | refine W.ite_t c3 ?_ | refine W.ite_f b1 ?_ | refine W.need bt.ix ?_ | refine W.need bt.p0 ?_ | refine W.need bt.n0 ?_)
          refine W.ite (fun b2 => ?_) (fun b2 => ?_)
          · have hb : ¬ inR bp bn := by have : P0 bad i > 31 := of_decide_eq_true b2; intro h; have := h.2.1; omega
            repeat (first | refine W.ite_t rfl ?_ | refine W.ite_f rfl ?_ | refine W.ite_t c3 ?_ | refine W.ite_t b2 ?_ | refine W.need bt.ix ?_ | refine W.need bt.p0 ?_ | refine W.need bt.n0 ?_ | refine W.need bt.p1 ?_ | refine W.need bt.n1 ?_)
            refine winBb (r := [nI (P0 bad i), nI (P1 bad i)]) (b' := s) rfl rfl (call6 hb) (fun h => h) (fun h => h) ?_
            repeat (first | refine W.ite_t rfl ?_ | refine W.ite_f rfl ?_)
            repeat (first | refine W.need at_.ix ?_ | refine W.need at_.p0 ?_ | refine W.need at_.n0 ?_ | refine W.need at_.p1 ?_ | refine W.need at_.n1 ?_)
            refine winA (r := [nI (P0 l i), nI (P1 l i)]) (a' := s) rfl rfl key (fun h => h) (fun h => h) ?_
            repeat (first | refine W.need at_.ix ?_ | refine W.need at_.p0 ?_ | refine W.need at_.n0 ?_ | refine W.need at_.p1 ?_ | refine W.need at_.n1 ?_)
            refine winBb (r := [nI (P0 l i), nI (P1 l i)]) (b' := s) rfl rfl key (fun h => h) (fun h => h) ?_
            repeat (first | refine W.ite_t rfl ?_ | refine W.ite_f rfl ?_ | refine W.ite_f (ne_self _) ?_ | refine W.need at_.ix ?_ | refine W.need at_.p0 ?_ | refine W.need at_.n0 ?_)
            refine winA (r := [nI (P0 l i)]) (a' := s) rfl rfl (ok10 s _) (fun h => h) (fun h => h) ?_
            repeat (first | refine W.ite_t rfl ?_ | refine W.ite_f rfl ?_ | refine W.ite_f (ne_self _) ?_ | refine W.need at_.ix ?_ | refine W.need at_.p0 ?_ | refine W.need at_.n0 ?_)
            refine winBb (r := [nI (P0 l i)]) (b' := s) rfl rfl (ok10 s _) (fun h => h) (fun h => h) ?_
            repeat (first | refine W.ite_t rfl ?_ | refine W.ite_f rfl ?_ | refine W.ite_f (ne_self _) ?_)
            exact W.ret (fin rfl rfl rfl rfl rfl)
          repeat (first | refine W.ite_t rfl ?_ | refine W.ite_f rfl ?_ | refine W.ite_t c3 ?_ | refine W.ite_f b1 ?_ | refine W.ite_f b2 ?_ | refine W.need bt.ix ?_ | refine W.need bt.p1 ?_ | refine W.need bt.n1 ?_)
          refine W.ite (fun b3 => ?_) (fun b3 => ?_)
          · have hb : ¬ inR bp bn := by have : P1 bad i < 1 := of_decide_eq_true b3; intro h; have := h.2.2.1; omega
            repeat (first | refine W.ite_t rfl ?_ | refine W.ite_f rfl ?_ | refine W.ite_t c3 ?_ | refine W.ite_t b3 ?_ | refine W.need bt.ix ?_ | refine W.need bt.p0 ?_ | refine W.need bt.n0 ?_ | refine W.need bt.p1 ?_ | refine W.need bt.n1 ?_)
            refine winBb (r := [nI (P0 bad i), nI (P1 bad i)]) (b' := s) rfl rfl (call6 hb) (fun h => h) (fun h => h) ?_
            repeat (first | refine W.ite_t rfl ?_ | refine W.ite_f rfl ?_)
            repeat (first | refine W.need at_.ix ?_ | refine W.need at_.p0 ?_ | refine W.need at_.n0 ?_ | refine W.need at_.p1 ?_ | refine W.need at_.n1 ?_)
            refine winA (r := [nI (P0 l i), nI (P1 l i)]) (a' := s) rfl rfl key (fun h => h) (fun h => h) ?_
            repeat (first | refine W.need at_.ix ?_ | refine W.need at_.p0 ?_ | refine W.need at_.n0 ?_ | refine W.need at_.p1 ?_ | refine W.need at_.n1 ?_)
            refine winBb (r := [nI (P0 l i), nI (P1 l i)]) (b' := s) rfl rfl key (fun h => h) (fun h => h) ?_
            repeat (first | refine W.ite_t rfl ?_ | refine W.ite_f rfl ?_ | refine W.ite_f (ne_self _) ?_ | refine W.need at_.ix ?_ | refine W.need at_.p0 ?_ | refine W.need at_.n0 ?_)
            refine winA (r := [nI (P0 l i)]) (a' := s) rfl rfl (ok10 s _) (fun h => h) (fun h => h) ?_
            repeat (first | refine W.ite_t rfl ?_ | refine W.ite_f rfl ?_ | refine W.ite_f (ne_self _) ?_ | refine W.need at_.ix ?_ | refine W.need at_.p0 ?_ | refine W.need at_.n0 ?_)
            refine winBb (r := [nI (P0 l i)]) (b' := s) rfl rfl (ok10 s _) (fun h => h) (fun h => h) ?_
            repeat (first | refine W.ite_t rfl ?_ | refine W.ite_f rfl ?_ | refine W.ite_f (ne_self _) ?_)
            exact W.ret (fin rfl rfl rfl rfl rfl)
          repeat (first | refine W.ite_t rfl ?_ | refine W.ite_f rfl ?_ | refine W.ite_t c3 ?_ | refine W.ite_f b1 ?_ | refine W.ite_f b2 ?_ | refine W.ite_f b3 ?_ | refine W.need bt.ix ?_ | refine W.need bt.p1 ?_ | refine W.need bt.n1 ?_)
          refine W.ite (fun b4 => ?_) (fun b4 => ?_)
          · have hb : ¬ inR bp bn := by have : P1 bad i > 1073741824 := of_decide_eq_true b4; intro h; have := h.2.2.2; omega
            repeat (first | refine W.ite_t rfl ?_ | refine W.ite_f rfl ?_ | refine W.ite_t c3 ?_ | refine W.ite_t b4 ?_ | refine W.need bt.ix ?_ | refine W.need bt.p0 ?_ | refine W.need bt.n0 ?_ | refine W.need bt.p1 ?_ | refine W.need bt.n1 ?_)
            refine winBb (r := [nI (P0 bad i), nI (P1 bad i)]) (b' := s) rfl rfl (call6 hb) (fun h => h) (fun h => h) ?_
            repeat (first | refine W.ite_t rfl ?_ | refine W.ite_f rfl ?_)
            repeat (first | refine W.need at_.ix ?_ | refine W.need at_.p0 ?_ | refine W.need at_.n0 ?_ | refine W.need at_.p1 ?_ | refine W.need at_.n1 ?_)
            refine winA (r := [nI (P0 l i), nI (P1 l i)]) (a' := s) rfl rfl key (fun h => h) (fun h => h) ?_
            repeat (first | refine W.need at_.ix ?_ | refine W.need at_.p0 ?_ | refine W.need at_.n0 ?_ | refine W.need at_.p1 ?_ | refine W.need at_.n1 ?_)
            refine winBb (r := [nI (P0 l i), nI (P1 l i)]) (b' := s) rfl rfl key (fun h => h) (fun h => h) ?_
            repeat (first | refine W.ite_t rfl ?_ | refine W.ite_f rfl ?_ | refine W.ite_f (ne_self _) ?_ | refine W.need at_.ix ?_ | refine W.need at_.p0 ?_ | refine W.need at_.n0 ?_)
            refine winA (r := [nI (P0 l i)]) (a' := s) rfl rfl (ok10 s _) (fun h => h) (fun h => h) ?_
            repeat (first | refine W.ite_t rfl ?_ | refine W.ite_f rfl ?_ | refine W.ite_f (ne_self _) ?_ | refine W.need at_.ix ?_ | refine W.need at_.p0 ?_ | refine W.need at_.n0 ?_)
            refine winBb (r := [nI (P0 l i)]) (b' := s) rfl rfl (ok10 s _) (fun h => h) (fun h => h) ?_
            repeat (first | refine W.ite_t rfl ?_ | refine W.ite_f rfl ?_ | refine W.ite_f (ne_self _) ?_)
            exact W.ret (fin rfl rfl rfl rfl rfl)
          · repeat (first | refine W.ite_t rfl ?_ | refine W.ite_f rfl ?_ | refine W.ite_t c3 ?_ | refine W.ite_f b4 ?_)
            repeat (first | refine W.need at_.ix ?_ | refine W.need at_.p0 ?_ | refine W.need at_.n0 ?_ | refine W.need at_.p1 ?_ | refine W.need at_.n1 ?_)
            refine winA (r := [nI (P0 l i), nI (P1 l i)]) (a' := s) rfl rfl key (fun h => h) (fun h => h) ?_
            repeat (first | refine W.need at_.ix ?_ | refine W.need at_.p0 ?_ | refine W.need at_.n0 ?_ | refine W.need at_.p1 ?_ | refine W.need at_.n1 ?_)
            refine winBb (r := [nI (P0 l i), nI (P1 l i)]) (b' := s) rfl rfl key (fun h => h) (fun h => h) ?_
            repeat (first | refine W.ite_t rfl ?_ | refine W.ite_f rfl ?_ | refine W.ite_f (ne_self _) ?_ | refine W.need at_.ix ?_ | refine W.need at_.p0 ?_ | refine W.need at_.n0 ?_)
            refine winA (r := [nI (P0 l i)]) (a' := s) rfl rfl (ok10 s _) (fun h => h) (fun h => h) ?_
            repeat (first | refine W.ite_t rfl ?_ | refine W.ite_f rfl ?_ | refine W.ite_f (ne_self _) ?_ | refine W.need at_.ix ?_ | refine W.need at_.p0 ?_ | refine W.need at_.n0 ?_)
            refine winBb (r := [nI (P0 l i)]) (b' := s) rfl rfl (ok10 s _) (fun h => h) (fun h => h) ?_
            repeat (first | refine W.ite_t rfl ?_ | refine W.ite_f rfl ?_ | refine W.ite_f (ne_self _) ?_)
            exact W.ret (fin rfl rfl rfl rfl rfl)
        · repeat (first | refine W.ite_t rfl ?_ | refine W.ite_f rfl ?_ | refine W.ite_f c3 ?_)
          repeat (first | refine W.need at_.ix ?_ | refine W.need at_.p0 ?_ | refine W.need at_.n0 ?_ | refine W.need at_.p1 ?_ | refine W.need at_.n1 ?_)
          refine winA (r := [nI (P0 l i), nI (P1 l i)]) (a' := s) rfl rfl key (fun h => h) (fun h => h) ?_
          repeat (first | refine W.need at_.ix ?_ | refine W.need at_.p0 ?_ | refine W.need at_.n0 ?_ | refine W.need at_.p1 ?_ | refine W.need at_.n1 ?_)
          refine winBb (r := [nI (P0 l i), nI (P1 l i)]) (b' := s) rfl rfl key (fun h => h) (fun h => h) ?_
          repeat (first | refine W.ite_t rfl ?_ | refine W.ite_f rfl ?_ | refine W.ite_f (ne_self _) ?_ | refine W.need at_.ix ?_ | refine W.need at_.p0 ?_ | refine W.need at_.n0 ?_)
          refine winA (r := [nI (P0 l i)]) (a' := s) rfl rfl (ok10 s _) (fun h => h) (fun h => h) ?_
          repeat (first | refine W.ite_t rfl ?_ | refine W.ite_f rfl ?_ | refine W.ite_f (ne_self _) ?_ | refine W.need at_.ix ?_ | refine W.need at_.p0 ?_ | refine W.need at_.n0 ?_)
          refine winBb (r := [nI (P0 l i)]) (b' := s) rfl rfl (ok10 s _) (fun h => h) (fun h => h) ?_
          repeat (first | refine W.ite_t rfl ?_ | refine W.ite_f rfl ?_ | refine W.ite_f (ne_self _) ?_)
          exact W.ret (fin rfl rfl rfl rfl rfl)
    · refine W.ret ?_
      exact W.pure ok9 rfl rfl (W.ret (RetQ.pure rfl rfl))
  · repeat (first | refine W.ite_t rfl ?_ | refine W.ite_f rfl ?_ | refine W.ite_f c1 ?_)
    refine W.ret ?_
    exact W.pure ok9 rfl rfl (W.ret (RetQ.pure rfl rfl))
end Go.Proofs.Ytjibnmmpbpheiaa.Wi
