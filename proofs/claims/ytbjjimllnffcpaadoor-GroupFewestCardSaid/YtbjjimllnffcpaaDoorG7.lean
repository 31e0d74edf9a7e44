import Derived.Test.YtbjjimllnffcpaaDoorG6
set_option maxRecDepth 100000
set_option linter.unusedVariables false
set_option linter.unusedSimpArgs false
/- The statement GroupFewest. -/
namespace Go.Proofs.YtbjjimllnffcpaaDoor.Gr
open Go Go.Am Va
def od4 : Ords := [(6, [0, 1, 2, 3, 4, 5, 6, 10, 11, 12, 13, 14, 7, 8, 9, 1015, 16, 17, 18, 19, 20]), (10, [0, 1, 2, 3, 4, 5, 6, 10, 11, 12, 13, 14, 7, 8, 9, 1015, 16, 17, 18, 19, 20])]
theorem code4 : codeB Tryd.f4.ntmps od4 (match Tryd.f4.body with | some c => c | none => .skip) = true := by kernel_rfl
theorem choose_bad {s : List Att} {f : List Prd} {n : Int} (h : chooseE s f n ≠ .ok) : chooseI s f n = -1 := by
  unfold chooseI
  cases hc : chooseE s f n with
  | ok => exact absurd hc h
  | _ => rfl
set_option maxHeartbeats 4000000 in
theorem ok4 (s0 : List Att) (f0 : List Prd) (n : Int) : Go.Am.Pure Tryd.prog 4 [slF atC s0, slF prC f0, .d (nI n)] (bI true) := by
  refine CallOk.of tysOk mixed od4 Tryd.func4 rfl rfl code4 ?_
  refine W.pure (ok12 s0) rfl rfl ?_
  refine W.pure (ok13 f0) rfl rfl ?_
  have hp6 := att6_len s0
  have hf6 := prd6_len f0
  generalize att6 s0 = s at *
  generalize prd6 f0 = f at *
  have k1 := ok14 s (by omega) f n
  by_cases hc : chooseE s f n = .ok
  · have hfine := chooseE_ok.1 hc
    obtain ⟨j, q, hj, hjl, hq, hbest⟩ := hfine.best
    have hci : chooseI s f n = j := by unfold chooseI; rw [hc]; exact hj
    rw [hc, hci] at k1
    have hqm := List.mem_of_getElem? hq
    obtain ⟨k, a, hk, ha, hat, hga, hpo, hsm⟩ := hfine.prd hqm
    have hkl := (List.getElem?_eq_some_iff.1 ha).1
    have hrq : rgQ s q n = rgA a q n := by unfold rgQ; rw [hat]
    have hrg := hfine.rg hqm
    have hwd := hfine.wd hqm
    have hn0 := hfine.n0
    have hn8 := hfine.n8
    have hp2 := pow2_le (k := n.toNat) (by omega)
    have c0 : decide ((j : Int) < 0) = false := decide_eq_false (by omega)
    have c1 : decide ((j : Int) ≥ f.length) = false := decide_eq_false (by omega)
    refine W.pure k1 rfl rfl ?_
    repeat (first | refine W.ite_t rfl ?_ | refine W.ite_f rfl ?_ | refine W.ite_f c0 ?_ | refine W.ite_f c1 ?_)
    refine W.need (ix_ok prC_len (by decide) hjl) ?_
    refine W.ld (prF0 hq) ?_
    refine W.need (ix_ok prC_len (by decide) hjl) ?_
    refine W.ld (prE hq) ?_
    refine W.pure (hk ▸ ok16 s (by omega) q.nm) rfl rfl ?_
    refine W.need (ix_ok atC_len (by decide) hkl) ?_
    refine W.ld (atE ha) ?_
    refine W.pure (Dy.ok15' a q n hsm) rfl rfl ?_
    have ew : IntKind.i64.wrap ((rgA a q n).2 - (rgA a q n).1) = wid s q n := by
      rw [wrap64 (by rw [← hrq]; omega) (by rw [← hrq]; omega), ← hrq]
      rfl
    refine W.loop (fun k fr σ => ∃ i : Nat, fr = [(2, .d (nI n)), (7, slF atC s), (9, slF prC f), (11, .d (nI j)), (13, .d (nI (rgA a q n).1)), (14, .d (nI (rgA a q n).2)), (76, .d (nI f.length)), (77, .d (nI i))] ∧ σ = [] ∧ i ≤ f.length ∧ k = f.length - i) f.length
      (Start.of [2, 7, 9, 11, 13, 14, 76, 77] [] (by simp)) ⟨0, rfl, rfl, by omega, rfl⟩ ?_
    rintro k fr σ ⟨i, rfl, rfl, hi, rfl⟩
    refine W.ite (fun c2 => ?_) (fun c2 => ?_)
    · have hil : i < f.length := by have := of_decide_eq_true c2; omega
      obtain ⟨q', hq'⟩ : ∃ x, f[i]? = some x := ⟨_, List.getElem?_eq_getElem hil⟩
      have hqm' := List.mem_of_getElem? hq'
      obtain ⟨k', a', hk', ha', hat', hga', hpo', hsm'⟩ := hfine.prd hqm'
      have hkl' := (List.getElem?_eq_some_iff.1 ha').1
      have hrq' : rgQ s q' n = rgA a' q' n := by unfold rgQ; rw [hat']
      have hrg' := hfine.rg hqm'
      have ew' : IntKind.i64.wrap ((rgA a' q' n).2 - (rgA a' q' n).1) = wid s q' n := by
        rw [wrap64 (by rw [← hrq']; omega) (by rw [← hrq']; omega), ← hrq']
        rfl
      obtain ⟨b1, b2⟩ := hbest i q' hq'
      refine W.need (ix_ok prC_len (by decide) hil) ?_
      refine W.ld (prF0 hq') ?_
      refine W.need (ix_ok prC_len (by decide) hil) ?_
      refine W.ld (prE hq') ?_
      refine W.pure (hk' ▸ ok16 s (by omega) q'.nm) rfl rfl ?_
      refine W.need (ix_ok atC_len (by decide) hkl') ?_
      refine W.ld (atE ha') ?_
      refine W.pure (Dy.ok15' a' q' n hsm') rfl rfl ?_
      have d1 : decide (IntKind.i64.wrap ((rgA a' q' n).2 - (rgA a' q' n).1) < IntKind.i64.wrap ((rgA a q n).2 - (rgA a q n).1)) = false := by rw [ew, ew']; exact decide_eq_false (by omega)
      have g1 : IntKind.i64.wrap ((i : Int) + 1) = ((i + 1 : Nat) : Int) := by rw [wrap64 (by omega) (by omega)]; rfl
      have done : ∀ {fr : Fr} {σ : Store}, fr.get 2 = .d (nI n) → fr.get 7 = slF atC s → fr.get 9 = slF prC f → fr.get 11 = .d (nI j) → fr.get 13 = .d (nI (rgA a q n).1) → fr.get 14 = .d (nI (rgA a q n).2) → fr.get 76 = .d (nI f.length) → fr.get 77 = .d (nI (IntKind.i64.wrap ((i : Int) + 1))) →
          ∃ m fr'' σ'', m < f.length - i ∧ Trim ([] : Store).length fr σ fr'' σ'' ∧ ∃ i : Nat, fr'' = [(2, .d (nI n)), (7, slF atC s), (9, slF prC f), (11, .d (nI j)), (13, .d (nI (rgA a q n).1)), (14, .d (nI (rgA a q n).2)), (76, .d (nI f.length)), (77, .d (nI i))] ∧ σ'' = [] ∧ i ≤ f.length ∧ m = f.length - i := fun {fr σ} h2 h7 h9 h11 h13 h14 h76 h77 => by
        rw [g1] at h77
        refine ⟨_, _, _, ?_, Trim.of [2, 7, 9, 11, 13, 14, 76, 77] [] (by decide) (by simp) (by simp), i + 1, ?_, rfl, by omega, rfl⟩
        · omega
        · simp only [keepFr, h2, h7, h9, h11, h13, h14, h76, h77]; rfl
      by_cases hij : i < j
      · have d2 : decide ((i : Int) < j) = true := decide_eq_true (by omega)
        have d3 : (IntKind.i64.wrap ((rgA a' q' n).2 - (rgA a' q' n).1) == IntKind.i64.wrap ((rgA a q n).2 - (rgA a q n).1)) = false := by
          rw [ew, ew', beq_int]
          exact decide_eq_false (by have := b2 hij; omega)
        repeat (first | refine W.ite_t rfl ?_ | refine W.ite_f rfl ?_ | refine W.ite_f d1 ?_ | refine W.ite_t d2 ?_ | refine W.ite_f d3 ?_)
        exact W.ret (done rfl rfl rfl rfl rfl rfl rfl rfl)
      · have d2 : decide ((i : Int) < j) = false := decide_eq_false (by omega)
        repeat (first | refine W.ite_t rfl ?_ | refine W.ite_f rfl ?_ | refine W.ite_f d1 ?_ | refine W.ite_f d2 ?_)
        exact W.ret (done rfl rfl rfl rfl rfl rfl rfl rfl)
    · refine W.ret ?_
      exact W.pure ok10 rfl rfl (W.ret (RetQ.pure rfl rfl))
  · rw [choose_bad hc] at k1
    refine W.pure k1 rfl rfl ?_
    have he : ∀ {g : GE}, chooseE s f n = g → g ≠ .ok → ∃ t d, geD g = .iface t d := fun {g} _ h => by
      cases g with
      | ok => exact absurd rfl h
      | arg => exact ⟨_, _, rfl⟩
      | val i => exact ⟨_, _, rfl⟩
    obtain ⟨t, d, ht⟩ := he rfl hc
    rw [ht]
    repeat (first | refine W.ite_t rfl ?_ | refine W.ite_f rfl ?_)
    refine W.pure ok10 rfl rfl ?_
    repeat (first | refine W.ite_t rfl ?_ | refine W.ite_f rfl ?_)
    exact W.ret (RetQ.pure rfl rfl)
end Go.Proofs.YtbjjimllnffcpaaDoor.Gr
