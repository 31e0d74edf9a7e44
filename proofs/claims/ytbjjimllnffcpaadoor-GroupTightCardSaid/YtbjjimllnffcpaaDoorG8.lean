import Derived.Test.YtbjjimllnffcpaaDoorG5
set_option maxRecDepth 100000
set_option linter.unusedVariables false
set_option linter.unusedSimpArgs false
/- The statement GroupTight. -/
namespace Go.Proofs.YtbjjimllnffcpaaDoor.Gr
open Go Go.Am Va
def od5 : Ords := [(5, [1, 2, 3, 5, 6, 7, 8, 0, 4, 1009, 10]), (10, [0, 1, 2, 3, 4, 5, 6, 10, 11, 12, 13, 14, 7, 8, 9, 1015, 16, 17, 18, 19, 20]), (11, [0, 1, 2, 3, 4, 5, 6, 10, 11, 12, 13, 14, 7, 8, 9, 1015, 16, 17, 18, 19, 20])]
theorem code5 : codeB Tryd.f5.ntmps od5 (match Tryd.f5.body with | some c => c | none => .skip) = true := by kernel_rfl
theorem ge_bad {g : GE} (h : g ≠ .ok) : ∃ t d, geD g = .iface t d := by
  cases g with
  | ok => exact absurd rfl h
  | arg => exact ⟨_, _, rfl⟩
  | val i => exact ⟨_, _, rfl⟩
theorem cut_lo {f : List Prd} {i : Nat} (h : i ≤ f.length) : ((flat prC f).drop (0 * 5)).take ((i - 0) * 5) = flat prC (f.take i) := by
  rw [Nat.zero_mul, List.drop_zero, Nat.sub_zero, flat_take prC_len]
theorem cut_hi {f : List Prd} {i : Nat} (h : i ≤ f.length) : ((flat prC f).drop (i * 5)).take ((f.length - i) * 5) = flat prC (f.drop i) := by
  have : (f.drop i).length = f.length - i := by simp
  rw [flat_drop prC_len, ← this, flat_all prC_len]
theorem flat_len5 (l : List Prd) : (flat prC l).length = l.length * 5 := flat_length prC_len l
set_option maxHeartbeats 4000000 in
theorem ok5 (s0 : List Att) (f0 : List Prd) (n i : Int) : Go.Am.Pure Tryd.prog 5 [slF atC s0, slF prC f0, .d (nI n), .d (nI i)] (bI true) := by
  refine CallOk.of tysOk mixed od5 Tryd.func5 rfl rfl code5 ?_
  refine W.pure (ok12 s0) rfl rfl ?_
  refine W.pure (ok13 f0) rfl rfl ?_
  have hp6 := att6_len s0
  have hf6 := prd6_len f0
  generalize att6 s0 = s at *
  generalize prd6 f0 = f at *
  by_cases h0 : i < 0
  · have c0 : decide (i < 0) = true := decide_eq_true h0
    repeat (first | refine W.ite_t rfl ?_ | refine W.ite_f rfl ?_ | refine W.ite_t c0 ?_)
    exact W.pure ok10 rfl rfl (W.ret (RetQ.pure rfl rfl))
  have c0 : decide (i < 0) = false := decide_eq_false h0
  by_cases h1 : i ≥ f.length
  · have c1 : decide (i ≥ f.length) = true := decide_eq_true h1
    repeat (first | refine W.ite_t rfl ?_ | refine W.ite_f rfl ?_ | refine W.ite_f c0 ?_ | refine W.ite_t c1 ?_)
    exact W.pure ok10 rfl rfl (W.ret (RetQ.pure rfl rfl))
  have c1 : decide (i ≥ f.length) = false := decide_eq_false h1
  by_cases h2 : (f.length : Int) < 2
  · have c2 : decide ((f.length : Int) < 2) = true := decide_eq_true h2
    repeat (first | refine W.ite_t rfl ?_ | refine W.ite_f rfl ?_ | refine W.ite_f c0 ?_ | refine W.ite_f c1 ?_ | refine W.ite_t c2 ?_)
    exact W.pure ok10 rfl rfl (W.ret (RetQ.pure rfl rfl))
  have c2 : decide ((f.length : Int) < 2) = false := decide_eq_false h2
  repeat (first | refine W.ite_t rfl ?_ | refine W.ite_f rfl ?_ | refine W.ite_f c0 ?_ | refine W.ite_f c1 ?_ | refine W.ite_f c2 ?_)
  obtain ⟨m, rfl⟩ : ∃ m : Nat, i = m := ⟨i.toNat, by omega⟩
  have hm : m < f.length := by omega
  have gm : IntKind.i64.wrap ((m : Int) + 1) = ((m + 1 : Nat) : Int) := by rw [wrap64 (by omega) (by omega)]; rfl
  refine W.need (by omega) ?_
  refine W.need (by rw [gm]; omega) ?_
  have E1 : List.take (((m : Int).toNat - 0) * 5) (List.drop (0 * 5) (flat prC f)) = flat prC (f.take m) := by
    rw [Int.toNat_natCast]
    exact cut_lo (by omega)
  have E2 : List.take ((f.length - (IntKind.i64.wrap ((m : Int) + 1)).toNat) * 5) (List.drop ((IntKind.i64.wrap ((m : Int) + 1)).toNat * 5) (flat prC f)) = flat prC (f.drop (m + 1)) := by
    rw [gm, Int.toNat_natCast]
    exact cut_hi (by omega)
  refine W.need ⟨rfl, rfl, by rw [E1, flat_len5, Int.toNat_natCast]; simp; omega, by rw [Int.toNat_natCast]; omega, by rw [Int.toNat_natCast]; omega, by rw [E1]; exact flat_one prC_one _⟩ ?_
  refine W.need ⟨rfl, rfl, by rw [E2, flat_len5, gm, Int.toNat_natCast]; simp, by rw [gm, Int.toNat_natCast, Int.toNat_natCast]; omega, by rw [gm, Int.toNat_natCast, Int.toNat_natCast]; omega, by rw [E2]; exact flat_one prC_one _⟩ ?_
  have k1 := ok14 s (by omega) f n
  have k2 := ok14 s (by omega) (f.take m ++ f.drop (m + 1)) n
  have hLl : (f.take m ++ f.drop (m + 1)).length = f.length - 1 := by simp; omega
  have hLm : ∀ p ∈ f.take m ++ f.drop (m + 1), p ∈ f := fun p hp => by
    rcases List.mem_append.1 hp with h | h
    · exact List.mem_of_mem_take h
    · exact List.mem_of_mem_drop h
  have hN : 0 + ((m : Int).toNat - 0) + (f.length - (IntKind.i64.wrap ((m : Int) + 1)).toNat) = (f.take m ++ f.drop (m + 1)).length := by
    rw [gm, Int.toNat_natCast, Int.toNat_natCast, hLl]; omega
  have E3 : ([] ++ List.take (((m : Int).toNat - 0) * 5) (List.drop (0 * 5) (flat prC f))) ++ List.take ((f.length - (IntKind.i64.wrap ((m : Int) + 1)).toNat) * 5) (List.drop ((IntKind.i64.wrap ((m : Int) + 1)).toNat * 5) (flat prC f)) = flat prC (f.take m ++ f.drop (m + 1)) := by
    rw [List.nil_append, E1, E2, flat_append]
  generalize f.take m ++ f.drop (m + 1) = L at *
  have haL : [slF atC s, AV.d (.sl (0 + ((m : Int).toNat - 0) + (f.length - (IntKind.i64.wrap ((m : Int) + 1)).toNat)) ((([] ++ List.take (((m : Int).toNat - 0) * 5) (List.drop (0 * 5) (flat prC f))) ++ List.take ((f.length - (IntKind.i64.wrap ((m : Int) + 1)).toNat) * 5) (List.drop ((IntKind.i64.wrap ((m : Int) + 1)).toNat * 5) (flat prC f))).take ((0 + ((m : Int).toNat - 0) + (f.length - (IntKind.i64.wrap ((m : Int) + 1)).toNat)) * 5))), .d (nI n)] = [slF atC s, slF prC L, .d (nI n)] := by
    rw [hN, E3, flat_all prC_len]
    rfl
  by_cases hc : chooseE s f n = .ok
  · have hfine := chooseE_ok.1 hc
    obtain ⟨j, q, hj, hjl, hq, hbest⟩ := hfine.best
    have hci : chooseI s f n = j := by unfold chooseI; rw [hc]; exact hj
    rw [hc, hci] at k1
    by_cases hc2 : chooseE s L n = .ok
    · have hfine2 := chooseE_ok.1 hc2
      obtain ⟨j2, q2, hj2, hjl2, hq2, hbest2⟩ := hfine2.best
      have hci2 : chooseI s L n = j2 := by unfold chooseI; rw [hc2]; exact hj2
      rw [hc2, hci2] at k2
      refine W.pure k1 rfl rfl ?_
      refine W.callT [] k2 (by decide) rfl rfl haL rfl ?_
      rintro v s' ⟨rfl, rfl⟩
      repeat (first | refine W.ite_t rfl ?_ | refine W.ite_f rfl ?_)
      have hqm := List.mem_of_getElem? hq
      obtain ⟨k, a, hk, ha, hat, hga, hpo, hsm⟩ := hfine.prd hqm
      have hkl := (List.getElem?_eq_some_iff.1 ha).1
      have hrq : rgQ s q n = rgA a q n := by unfold rgQ; rw [hat]
      have hrg := hfine.rg hqm
      have hqm2 := List.mem_of_getElem? hq2
      obtain ⟨k', a', hk', ha', hat', hga', hpo', hsm'⟩ := hfine2.prd hqm2
      have hkl' := (List.getElem?_eq_some_iff.1 ha').1
      have hrq' : rgQ s q2 n = rgA a' q2 n := by unfold rgQ; rw [hat']
      have hrg' := hfine2.rg hqm2
      have hp2 := pow2_le (k := n.toNat) (by have := hfine.n0; have := hfine.n8; omega)
      obtain ⟨z, hz⟩ := List.getElem?_of_mem (hLm q2 hqm2)
      have hle := (hbest z q2 hz).1
      refine W.need (ix_ok prC_len (by decide) hjl) ?_
      refine W.ld (prF0 hq) ?_
      refine W.need (ix_ok prC_len (by decide) hjl) ?_
      refine W.ld (prE hq) ?_
      refine W.pure (hk ▸ ok16 s (by omega) q.nm) rfl rfl ?_
      refine W.need (ix_ok atC_len (by decide) hkl) ?_
      refine W.ld (atE ha) ?_
      refine W.pure (Dy.ok15' a q n hsm) rfl rfl ?_
      have T3 : List.take ((0 + ((m : Int).toNat - 0) + (f.length - (IntKind.i64.wrap ((m : Int) + 1)).toNat)) * 5) (([] ++ List.take (((m : Int).toNat - 0) * 5) (List.drop (0 * 5) (flat prC f))) ++ List.take ((f.length - (IntKind.i64.wrap ((m : Int) + 1)).toNat) * 5) (List.drop ((IntKind.i64.wrap ((m : Int) + 1)).toNat * 5) (flat prC f))) = flat prC L := by
        rw [hN, E3, flat_all prC_len]
      have I3 : (0 : Int) ≤ j2 ∧ (j2 : Int) < ((0 + ((m : Int).toNat - 0) + (f.length - (IntKind.i64.wrap ((m : Int) + 1)).toNat) : Nat) : Int) ∧ List.take ((0 + ((m : Int).toNat - 0) + (f.length - (IntKind.i64.wrap ((m : Int) + 1)).toNat)) * 5) (([] ++ List.take (((m : Int).toNat - 0) * 5) (List.drop (0 * 5) (flat prC f))) ++ List.take ((f.length - (IntKind.i64.wrap ((m : Int) + 1)).toNat) * 5) (List.drop ((IntKind.i64.wrap ((m : Int) + 1)).toNat * 5) (flat prC f))) ≠ [] := by
        rw [T3, hN]
        exact ix_ok prC_len (by decide) hjl2
      refine W.need I3 ?_
      refine W.ld (by rw [T3]; exact prF0 hq2) ?_
      refine W.need I3 ?_
      refine W.ld (by rw [T3]; exact prE hq2) ?_
      refine W.pure (hk' ▸ ok16 s (by omega) q2.nm) rfl rfl ?_
      refine W.need (ix_ok atC_len (by decide) hkl') ?_
      refine W.ld (atE ha') ?_
      refine W.pure (Dy.ok15' a' q2 n hsm') rfl rfl ?_
      refine W.pure ok10 rfl rfl ?_
      repeat (first | refine W.ite_t rfl ?_ | refine W.ite_f rfl ?_)
      have ew : IntKind.i64.wrap ((rgA a q n).2 - (rgA a q n).1) = wid s q n := by
        rw [wrap64 (by rw [← hrq]; omega) (by rw [← hrq]; omega), ← hrq]
        rfl
      have ew' : IntKind.i64.wrap ((rgA a' q2 n).2 - (rgA a' q2 n).1) = wid s q2 n := by
        rw [wrap64 (by rw [← hrq']; omega) (by rw [← hrq']; omega), ← hrq']
        rfl
      have d : decide (IntKind.i64.wrap ((rgA a q n).2 - (rgA a q n).1) ≤ IntKind.i64.wrap ((rgA a' q2 n).2 - (rgA a' q2 n).1)) = true := by
        rw [ew, ew']
        exact decide_eq_true hle
      exact W.ret (RetQ.pure rfl (ret_bI d))
    · rw [choose_bad hc2] at k2
      obtain ⟨t, d, ht⟩ := ge_bad hc2
      rw [ht] at k2
      refine W.pure k1 rfl rfl ?_
      refine W.callT [] k2 (by decide) rfl rfl haL rfl ?_
      rintro v s' ⟨rfl, rfl⟩
      repeat (first | refine W.ite_t rfl ?_ | refine W.ite_f rfl ?_)
      refine W.pure ok10 rfl rfl ?_
      repeat (first | refine W.ite_t rfl ?_ | refine W.ite_f rfl ?_)
      refine W.ret (RetQ.pure rfl (ret_bI ?_))
      have : ((j : Int) == -1) = false := by rw [beq_int]; exact decide_eq_false (by omega)
      simp [this]
  · rw [choose_bad hc] at k1
    obtain ⟨t, d, ht⟩ := ge_bad hc
    rw [ht] at k1
    by_cases hc2 : chooseE s L n = .ok
    · have hfine2 := chooseE_ok.1 hc2
      obtain ⟨j2, q2, hj2, hjl2, hq2, hbest2⟩ := hfine2.best
      have hci2 : chooseI s L n = j2 := by unfold chooseI; rw [hc2]; exact hj2
      rw [hc2, hci2] at k2
      refine W.pure k1 rfl rfl ?_
      refine W.callT [] k2 (by decide) rfl rfl haL rfl ?_
      rintro v s' ⟨rfl, rfl⟩
      repeat (first | refine W.ite_t rfl ?_ | refine W.ite_f rfl ?_)
      refine W.pure ok10 rfl rfl ?_
      repeat (first | refine W.ite_t rfl ?_ | refine W.ite_f rfl ?_)
      refine W.ret (RetQ.pure rfl (ret_bI ?_))
      have : ((j2 : Int) == -1) = false := by rw [beq_int]; exact decide_eq_false (by omega)
      simp [this]
    · rw [choose_bad hc2] at k2
      obtain ⟨t2, d2, ht2⟩ := ge_bad hc2
      rw [ht2] at k2
      refine W.pure k1 rfl rfl ?_
      refine W.callT [] k2 (by decide) rfl rfl haL rfl ?_
      rintro v s' ⟨rfl, rfl⟩
      repeat (first | refine W.ite_t rfl ?_ | refine W.ite_f rfl ?_)
      refine W.pure ok10 rfl rfl ?_
      repeat (first | refine W.ite_t rfl ?_ | refine W.ite_f rfl ?_)
      exact W.ret (RetQ.pure rfl rfl)
end Go.Proofs.YtbjjimllnffcpaaDoor.Gr
