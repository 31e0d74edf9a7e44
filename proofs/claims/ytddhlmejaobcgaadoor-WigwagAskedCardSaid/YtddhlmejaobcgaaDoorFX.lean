import Derived.Test.YtddhlmejaobcgaaDoorFR
set_option maxRecDepth 100000
set_option linter.unusedVariables false
set_option linter.unusedSimpArgs false
/- The statement WigwagAsked. -/
namespace Go.Proofs.YtddhlmejaobcgaaDoor.Va
open Go Go.Am
def od4 : Ords := [(10, [0, 1, 2, 3, 4, 5, 7, 8, 9, 6, 1010, 11, 12])]
theorem code4 : codeB Tryd.f4.ntmps od4 (match Tryd.f4.body with | some c => c | none => .skip) = true := by kernel_rfl
theorem prP_le {p : Prd} : ∀ {f : List Prd}, p ∈ f → (prP p).length ≤ (prF f).length
  | [q], h => by rw [List.mem_singleton.1 h]; exact Nat.le_refl _
  | q :: x :: r, h => by
    show _ ≤ (prP q ++ (andW ++ prF (x :: r))).length
    rw [List.length_append, List.length_append]
    rcases List.mem_cons.1 h with rfl | h
    · omega
    · have := prP_le h
      omega
theorem match_all {s : List Att} {f : List Prd} {e : Evt} (h : fltErr s f = none) : (decide (evtErr s e = none) && f.all fun q => matchV s [q] e) = matchV s f e := by
  unfold matchV
  by_cases he : evtErr s e = none
  · rw [decide_eq_true he, Bool.true_and, if_neg (by rw [h, he]; simp)]
    rw [Bool.eq_iff_iff]
    simp only [List.all_eq_true, Bool.not_eq_true', List.any_eq_false]
    constructor
    · intro hh q hq
      have := hh q hq
      rw [if_neg (by rw [flt_one h hq, he]; simp)] at this
      simpa using this
    · intro hh q hq
      rw [if_neg (by rw [flt_one h hq, he]; simp)]
      simpa using hh q hq
  · rw [decide_eq_false he, Bool.false_and, if_pos (.inr he)]
set_option maxHeartbeats 16000000 in
theorem ok4 (s0 : List Att) (f0 : List Prd) (e0 : Evt) : Go.Am.Pure Tryd.prog 4 [slF atC s0, slF prC f0, .d (.agg (evC e0))] (bI true) := by
  refine CallOk.of tysOk mixed od4 Tryd.func4 rfl rfl code4 ?_
  refine W.pure (ok5 s0) rfl rfl ?_
  refine W.pure (ok6 f0) rfl rfl ?_
  refine W.pure (ok7 e0) rfl rfl ?_
  have hs6 : (att6 s0).length ≤ 6 := by unfold att6; simp; omega
  have hf6 := prd6_len f0
  generalize att6 s0 = s at *
  generalize prd6 f0 = f at *
  generalize evt6 e0 = e at *
  refine W.pure ok15N rfl rfl ?_
  refine W.ite_f rfl ?_
  have kC := ok16 s
  have kF := ok17 s (by omega) f
  cases hc : chkErr s with
  | some i =>
    rw [hc] at kC
    refine W.pure kC rfl rfl ?_
    repeat (first | refine W.ite_t rfl ?_ | refine W.ite_f rfl ?_)
    exact W.ret (RetQ.pure rfl rfl)
  | none =>
  rw [hc] at kC
  refine W.pure kC rfl rfl ?_
  repeat (first | refine W.ite_t rfl ?_ | refine W.ite_f rfl ?_)
  cases hv : fltErr s f with
  | some i =>
    rw [hv] at kF
    refine W.pure kF rfl rfl ?_
    repeat (first | refine W.ite_t rfl ?_ | refine W.ite_f rfl ?_)
    exact W.ret (RetQ.pure rfl rfl)
  | none =>
  rw [hv] at kF
  refine W.pure kF rfl rfl ?_
  repeat (first | refine W.ite_t rfl ?_ | refine W.ite_f rfl ?_)
  have hrd : ∀ p ∈ f, ∃ c w, Rd p c w := fun p hp => (prd_rd hc hv hp).1
  have hok : ∀ p ∈ f, prOk p := fun p hp => (prd_rd hc hv hp).2
  have kP := ok18 f (by omega) hok
  refine W.pure kP rfl rfl ?_
  by_cases h3 : (prF f).length ≤ 300
  · have d0 : decide (((txt (prF f)).size : Int) > 300) = false := decide_eq_false (by rw [txt_size]; omega)
    repeat (first | refine W.ite_t rfl ?_ | refine W.ite_f rfl ?_ | refine W.ite_f d0 ?_)
    have hf0 : f ≠ [] := fun hh => by have := (fltErr_none hv).1; rw [hh] at this; exact absurd this (by decide)
    refine W.pure kP rfl rfl ?_
    refine W.pure (ok19 s (by omega) f hf0 hrd h3 (by omega) hv) rfl rfl ?_
    have kM := ok20 s (by omega) f e
    have dM : (matchV s f e != matchV s f e) = false := by simp
    repeat (first | refine W.ite_t rfl ?_ | refine W.ite_f rfl ?_ | refine W.pure kM rfl rfl ?_ | refine W.ite_f dM ?_)
    have kE := ok21 s (by omega) e
    have hB : ∃ B : Bool, B = decide (evtErr s e = none) := ⟨_, rfl⟩
    obtain ⟨B, hB⟩ := hB
    have hfin := match_all (e := e) hv
    rw [← hB] at hfin
    refine W.pure kE rfl rfl ?_
    have go : ∀ ev : Option Nat, evtErr s e = ev → True := fun _ _ => trivial
    clear go
    cases hev : evtErr s e with
    | none =>
      rw [hev] at hB
      have hB : B = true := by rw [hB]; rfl
      subst hB
      refine W.loop (fun k fr σ => ∃ i : Nat, fr = [(7, slF atC s), (9, slF prC f), (11, .ptr 1 0), (17, bI (true && (f.take i).all fun q => matchV s [q] e)), (82, slF prC f), (83, .d (nI f.length)), (84, .d (nI i))] ∧ σ = [bD (evC e0), bD (evC e)] ∧ i ≤ f.length ∧ k = f.length - i) f.length
        (Start.of [7, 9, 11, 17, 82, 83, 84] [] (by simp)) ⟨0, rfl, rfl, by omega, rfl⟩ ?_
      rintro k fr σ ⟨i, rfl, rfl, hi, rfl⟩
      refine W.ite (fun c1 => ?_) (fun c1 => ?_)
      · have hil : i < f.length := by have := of_decide_eq_true c1; omega
        obtain ⟨p, hp⟩ : ∃ p, f[i]? = some p := ⟨_, List.getElem?_eq_getElem hil⟩
        have hpm := List.mem_of_getElem? hp
        have g1 : IntKind.i64.wrap ((i : Int) + 1) = ((i + 1 : Nat) : Int) := by rw [wrap64 (by omega) (by omega)]; rfl
        have hr1 : ∀ q ∈ [p], ∃ c w, Rd q c w := fun q hq => by obtain rfl := List.mem_singleton.1 hq; exact hrd _ hpm
        have ho1 : ∀ q ∈ [p], prOk q := fun q hq => by obtain rfl := List.mem_singleton.1 hq; exact hok _ hpm
        have kP1 := ok18 [p] (show 1 ≤ 1000 by decide) ho1
        have kR1 := ok19 s (by omega) [p] (by simp) hr1 (by show (prP p).length ≤ 300; have := prP_le hpm; omega) (show 1 ≤ 1000 by decide) (flt_one hv hpm)
        have kM1 := ok20 s (by omega) [p] e
        have hX2 : (true && (f.take (i + 1)).all fun q => matchV s [q] e) = ((true && (f.take i).all fun q => matchV s [q] e) && matchV s [p] e) := by rw [take_next2 hp, List.all_append]; simp [Bool.and_assoc]
        refine W.need (ix_ok prC_len (by decide) hil) ?_
        refine W.ld (prE hp) ?_
        refine W.alt_l ?_
        refine W.pure kP1 rfl rfl ?_
        refine W.pure kR1 rfl rfl ?_
        generalize hX : (true && (f.take i).all fun q => matchV s [q] e) = X at *
        cases X with
        | true =>
          repeat (first | refine W.ite_t rfl ?_ | refine W.ite_f rfl ?_ | refine W.pure kM1 rfl rfl ?_)
          refine W.ret ⟨_, _, _, ?_, Trim.of [7, 9, 11, 17, 82, 83, 84] [0, 1] (by decide) (by show ∀ i ∈ [0, 1], i < 3; simp) pk2, i + 1, ?_, rfl, by omega, rfl⟩
          · omega
          · rw [hX2, ← g1]; rfl
        | false =>
          repeat (first | refine W.ite_t rfl ?_ | refine W.ite_f rfl ?_ | refine W.pure kM1 rfl rfl ?_)
          refine W.ret ⟨_, _, _, ?_, Trim.of [7, 9, 11, 17, 82, 83, 84] [0, 1] (by decide) (by show ∀ i ∈ [0, 1], i < 3; simp) pk2, i + 1, ?_, rfl, by omega, rfl⟩
          · omega
          · rw [hX2, ← g1]; rfl
      · have hil : i = f.length := by have := of_decide_eq_false c1; omega
        rw [hil, List.take_length, hfin]
        refine W.ret ?_
        refine W.pure kM rfl rfl ?_
        exact W.ret (RetQ.pure rfl (ret_bI (by simp)))
    | some i9 =>
      rw [hev] at hB
      have hB : B = false := by rw [hB]; rfl
      subst hB
      refine W.loop (fun k fr σ => ∃ i : Nat, fr = [(7, slF atC s), (9, slF prC f), (11, .ptr 1 0), (17, bI (false && (f.take i).all fun q => matchV s [q] e)), (82, slF prC f), (83, .d (nI f.length)), (84, .d (nI i))] ∧ σ = [bD (evC e0), bD (evC e)] ∧ i ≤ f.length ∧ k = f.length - i) f.length
        (Start.of [7, 9, 11, 17, 82, 83, 84] [] (by simp)) ⟨0, rfl, rfl, by omega, rfl⟩ ?_
      rintro k fr σ ⟨i, rfl, rfl, hi, rfl⟩
      refine W.ite (fun c1 => ?_) (fun c1 => ?_)
      · have hil : i < f.length := by have := of_decide_eq_true c1; omega
        obtain ⟨p, hp⟩ : ∃ p, f[i]? = some p := ⟨_, List.getElem?_eq_getElem hil⟩
        have hpm := List.mem_of_getElem? hp
        have g1 : IntKind.i64.wrap ((i : Int) + 1) = ((i + 1 : Nat) : Int) := by rw [wrap64 (by omega) (by omega)]; rfl
        have hr1 : ∀ q ∈ [p], ∃ c w, Rd q c w := fun q hq => by obtain rfl := List.mem_singleton.1 hq; exact hrd _ hpm
        have ho1 : ∀ q ∈ [p], prOk q := fun q hq => by obtain rfl := List.mem_singleton.1 hq; exact hok _ hpm
        have kP1 := ok18 [p] (show 1 ≤ 1000 by decide) ho1
        have kR1 := ok19 s (by omega) [p] (by simp) hr1 (by show (prP p).length ≤ 300; have := prP_le hpm; omega) (show 1 ≤ 1000 by decide) (flt_one hv hpm)
        have kM1 := ok20 s (by omega) [p] e
        have hX2 : (false && (f.take (i + 1)).all fun q => matchV s [q] e) = ((false && (f.take i).all fun q => matchV s [q] e) && matchV s [p] e) := by rw [take_next2 hp, List.all_append]; simp [Bool.and_assoc]
        refine W.need (ix_ok prC_len (by decide) hil) ?_
        refine W.ld (prE hp) ?_
        refine W.alt_l ?_
        refine W.pure kP1 rfl rfl ?_
        refine W.pure kR1 rfl rfl ?_
        generalize hX : (false && (f.take i).all fun q => matchV s [q] e) = X at *
        cases X with
        | true =>
          repeat (first | refine W.ite_t rfl ?_ | refine W.ite_f rfl ?_ | refine W.pure kM1 rfl rfl ?_)
          refine W.ret ⟨_, _, _, ?_, Trim.of [7, 9, 11, 17, 82, 83, 84] [0, 1] (by decide) (by show ∀ i ∈ [0, 1], i < 3; simp) pk2, i + 1, ?_, rfl, by omega, rfl⟩
          · omega
          · rw [hX2, ← g1]; rfl
        | false =>
          repeat (first | refine W.ite_t rfl ?_ | refine W.ite_f rfl ?_ | refine W.pure kM1 rfl rfl ?_)
          refine W.ret ⟨_, _, _, ?_, Trim.of [7, 9, 11, 17, 82, 83, 84] [0, 1] (by decide) (by show ∀ i ∈ [0, 1], i < 3; simp) pk2, i + 1, ?_, rfl, by omega, rfl⟩
          · omega
          · rw [hX2, ← g1]; rfl
      · have hil : i = f.length := by have := of_decide_eq_false c1; omega
        rw [hil, List.take_length, hfin]
        refine W.ret ?_
        refine W.pure kM rfl rfl ?_
        exact W.ret (RetQ.pure rfl (ret_bI (by simp)))
  · have d0 : decide (((txt (prF f)).size : Int) > 300) = true := decide_eq_true (by rw [txt_size]; omega)
    repeat (first | refine W.ite_t rfl ?_ | refine W.ite_f rfl ?_ | refine W.ite_t d0 ?_)
    exact W.ret (RetQ.pure rfl rfl)
end Go.Proofs.YtddhlmejaobcgaaDoor.Va
