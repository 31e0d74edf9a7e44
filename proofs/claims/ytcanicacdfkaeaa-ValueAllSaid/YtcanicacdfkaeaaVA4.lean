import Derived.Test.YtcanicacdfkaeaaVA3
import Derived.Test.YtcanicacdfkaeaaVC
set_option maxRecDepth 100000
set_option linter.unusedVariables false
set_option linter.unusedSimpArgs false
namespace Go.Proofs.Ytcanicacdfkaeaa.Va
open Go Go.Am
def od6 : Ords := [(5, [0, 1, 2, 3, 4, 5, 6, 7, 8, 9, 10, 11, 12, 13, 14, 15, 1016, 17]), (9, [1000, 1, 2, 3, 1004, 5, 6, 7, 8, 9, 10, 12, 13, 11, 1014, 15, 16, 17, 18])]
theorem code6 : codeB Try.f6.ntmps od6 (match Try.f6.body with | some c => c | none => .skip) = true := by kernel_rfl
theorem filt1 {s : List Att} {p : Prd} : fltErr s [p] = none ↔ findA s p.nm ≠ -1 ∧ prdOk (attOf s p.nm) p = true := by
  rw [fltErr_iff]
  constructor
  · rintro ⟨_, _, _, h⟩
    exact h p (by simp)
  · rintro ⟨h1, h2⟩
    exact ⟨by simp, by simp, by unfold Apart; simp, fun q hq => by
      obtain rfl : q = p := by simpa using hq
      exact ⟨h1, h2⟩⟩
set_option maxHeartbeats 8000000 in
theorem ok6 (s : List Att) (e0 : Evt) (i : Int) : Go.Am.Pure Try.prog 6 [slF atC s, .d (.agg (evC e0)), .d (nI i)] (bI true) := by
  refine CallOk.of tysOk mixed od6 Try.func6 rfl rfl code6 ?_
  refine W.pure (ok8 s) rfl rfl ?_
  refine W.pure (ok9 e0) rfl rfl ?_
  have hp6 := att6_len s
  generalize att6 s = p at *
  generalize evt6 e0 = e at *
  have k1 := ok18 p
  cases hc : chkErr p with
  | some j =>
    rw [hc] at k1
    refine W.pure k1 rfl rfl ?_
    repeat (first | refine W.ite_t rfl ?_ | refine W.ite_f rfl ?_)
    exact W.pure ok11 rfl rfl (W.ret (RetQ.pure rfl rfl))
  | none =>
    rw [hc] at k1
    refine W.pure k1 rfl rfl ?_
    repeat (first | refine W.ite_t rfl ?_ | refine W.ite_f rfl ?_)
    refine W.ite (fun c1 => ?_) (fun c1 => ?_)
    · repeat (first | refine W.ite_t rfl ?_ | refine W.ite_f rfl ?_ | refine W.ite_t c1 ?_)
      exact W.pure ok11 rfl rfl (W.ret (RetQ.pure rfl rfl))
    repeat (first | refine W.ite_t rfl ?_ | refine W.ite_f rfl ?_ | refine W.ite_f c1 ?_)
    refine W.ite (fun c2 => ?_) (fun c2 => ?_)
    · exact W.pure ok11 rfl rfl (W.ret (RetQ.pure rfl rfl))
    have n1 := of_decide_eq_false c1
    have n2 := of_decide_eq_false c2
    obtain ⟨k, rfl⟩ : ∃ k : Nat, i = k := ⟨i.toNat, by omega⟩
    have hkl : k < p.length := by omega
    obtain ⟨a, ha⟩ : ∃ a, p[k]? = some a := ⟨_, List.getElem?_eq_getElem hkl⟩
    obtain ⟨hf, hat, hnm, hg⟩ := find_own hc ha
    have hix := ix_ok atC_len (by decide) hkl
    refine W.need hix ?_
    refine W.ld (atF0 ha) ?_
    refine W.need hix ?_
    refine W.ld (atF2 ha) ?_
    refine W.need hix ?_
    refine W.ld (atF3 ha) ?_
    refine W.alt_l ?_
    refine W.need hix ?_
    refine W.ld (atF1 ha) ?_
    refine W.ite (fun c3 => ?_) (fun c3 => ?_)
    · have hk2 : a.k = 2 := by simpa using c3
      refine W.need hix ?_
      refine W.ld (atF0 ha) ?_
      refine W.alt_l ?_
      refine W.pure ok11 rfl rfl ?_
      repeat (first | refine W.ite_t rfl ?_ | refine W.ite_f rfl ?_)
      have hbad : fltErr p [⟨a.nm, 3, 0, 0, txt []⟩] ≠ none := fun h => by
        have := (filt1.1 h).2
        unfold prdOk at this
        rw [if_neg (show ¬ (3 : Int) = 1 by decide), if_pos rfl, if_pos (sEq_refl _)] at this
        cases this
      have k2 := ok14 p (by omega) [⟨a.nm, 3, 0, 0, txt []⟩]
      have k3 := ok12 p (by omega) [⟨a.nm, 3, 0, 0, txt []⟩] e
      have hm : matchV p [⟨a.nm, 3, 0, 0, txt []⟩] e = false := by
        unfold matchV
        rw [if_pos (.inl hbad)]
      rw [hm] at k3
      cases hfe : fltErr p [⟨a.nm, 3, 0, 0, txt []⟩] with
      | none => exact absurd hfe hbad
      | some j =>
        rw [hfe] at k2
        refine W.pure k2 rfl rfl ?_
        repeat (first | refine W.ite_t rfl ?_ | refine W.ite_f rfl ?_)
        refine W.pure k3 rfl rfl ?_
        repeat (first | refine W.ite_t rfl ?_ | refine W.ite_f rfl ?_)
        refine W.ret ?_
        exact RetQ.pure rfl rfl
    · have hk1 : ¬ a.k = 2 := by simpa using c3
      obtain ⟨g1, g2, g3, g4⟩ : a.k = 1 ∧ -2147483648 ≤ a.mn ∧ a.mx ≤ 2147483648 ∧ a.mn ≤ a.mx := by
        rcases hg with h | h
        · exact h
        · exact absurd h.1 hk1
      have hok : fltErr p [⟨a.nm, 1, a.mn, a.mx, txt []⟩] = none := filt1.2 ⟨by show findA p a.nm ≠ -1; rw [hf]; omega, by
        show prdOk (attOf p a.nm) _ = true
        rw [hat]
        unfold prdOk numOk
        rw [if_pos rfl, sEq_refl]
        simp [g1, g4]⟩
      have k2 := ok14 p (by omega) [⟨a.nm, 1, a.mn, a.mx, txt []⟩]
      rw [hok] at k2
      have k3 := ok12 p (by omega) [⟨a.nm, 1, a.mn, a.mx, txt []⟩] e
      have k4 := ok19 p (by omega) e
      refine W.pure ok11 rfl rfl ?_
      repeat (first | refine W.ite_t rfl ?_ | refine W.ite_f rfl ?_)
      refine W.pure k2 rfl rfl ?_
      repeat (first | refine W.ite_t rfl ?_ | refine W.ite_f rfl ?_)
      cases he : evtErr p e with
      | some j =>
        have hm : matchV p [⟨a.nm, 1, a.mn, a.mx, txt []⟩] e = false := by
          unfold matchV
          rw [if_pos (.inr (by rw [he]; simp))]
        rw [hm] at k3
        rw [he] at k4
        refine W.pure k3 rfl rfl ?_
        repeat (first | refine W.ite_t rfl ?_ | refine W.ite_f rfl ?_)
        refine W.pure k4 rfl rfl ?_
        repeat (first | refine W.ite_t rfl ?_ | refine W.ite_f rfl ?_)
        refine W.ret ?_
        exact RetQ.pure rfl rfl
      | none =>
        obtain ⟨v, hv, hfit⟩ := evt_fits he ha
        have hm : matchV p [⟨a.nm, 1, a.mn, a.mx, txt []⟩] e = true := by
          rw [one_match hok he]
          have hvo : valOf p e a.nm = v := by unfold valOf; rw [hf]; simp [hv]
          show takeV _ (valOf p e a.nm) = true
          rw [hvo]
          unfold fitV at hfit
          rw [if_pos g1] at hfit
          simp only [Bool.and_eq_true] at hfit
          unfold takeV
          rw [if_pos rfl]
          simp only [Bool.and_eq_true]
          exact ⟨hfit.1.2, hfit.2⟩
        rw [hm] at k3
        rw [he] at k4
        refine W.pure k3 rfl rfl ?_
        repeat (first | refine W.ite_t rfl ?_ | refine W.ite_f rfl ?_)
        refine W.pure k4 rfl rfl ?_
        repeat (first | refine W.ite_t rfl ?_ | refine W.ite_f rfl ?_)
        refine W.ret ?_
        exact RetQ.pure rfl rfl
end Go.Proofs.Ytcanicacdfkaeaa.Va
