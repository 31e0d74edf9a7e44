import Derived.Test.YtcanicacdfkaeaaVA2
set_option maxRecDepth 100000
set_option linter.unusedVariables false
set_option linter.unusedSimpArgs false
namespace Go.Proofs.Ytcanicacdfkaeaa.Va
open Go Go.Am
def od5 : Ords := [(6, [0, 1, 2, 3, 5, 6, 7, 8, 9, 4, 1010, 11, 12]), (8, [0, 1, 2, 3, 4, 6, 5, 1007, 8])]
theorem code5 : codeB Try.f5.ntmps od5 (match Try.f5.body with | some c => c | none => .skip) = true := by kernel_rfl
set_option maxHeartbeats 8000000 in
theorem ok5 (lo mid hi n : Int) (t : ByteArray) (c : Int) : Go.Am.Pure Try.prog 5 [.d (nI lo), .d (nI mid), .d (nI hi), .d (nI n), .d (sD t), .d (nI c)] (bI true) := by
  refine CallOk.of tysOk mixed od5 Try.func5 rfl rfl code5 ?_
  iterate 6
    (refine W.ite (fun hh => ?_) (fun hh => ?_)
     · repeat (first | refine W.ite_t rfl ?_ | refine W.ite_f rfl ?_ | refine W.ite_t (by assumption) ?_ | refine W.ite_f (by assumption) ?_)
       exact W.pure ok11 rfl rfl (W.ret (RetQ.pure rfl rfl))
     repeat (first | refine W.ite_t rfl ?_ | refine W.ite_f rfl ?_ | refine W.ite_t (by assumption) ?_ | refine W.ite_f (by assumption) ?_))
  have k0 := ok15 t
  cases ht : strOk t with
  | false =>
    rw [ht] at k0
    refine W.pure k0 rfl rfl ?_
    repeat (first | refine W.ite_t rfl ?_ | refine W.ite_f rfl ?_ | refine W.ite_f (by assumption) ?_)
    exact W.pure ok11 rfl rfl (W.ret (RetQ.pure rfl rfl))
  | true =>
  rw [ht] at k0
  refine W.pure k0 rfl rfl ?_
  repeat (first | refine W.ite_t rfl ?_ | refine W.ite_f rfl ?_ | refine W.ite_f (by assumption) ?_)
  iterate 1
    (refine W.ite (fun hh => ?_) (fun hh => ?_)
     · repeat (first | refine W.ite_t rfl ?_ | refine W.ite_f rfl ?_ | refine W.ite_t (by assumption) ?_ | refine W.ite_f (by assumption) ?_)
       exact W.pure ok11 rfl rfl (W.ret (RetQ.pure rfl rfl))
     repeat (first | refine W.ite_t rfl ?_ | refine W.ite_f rfl ?_ | refine W.ite_t (by assumption) ?_ | refine W.ite_f (by assumption) ?_))
  refine W.ite (fun hh => ?_) (fun hh => ?_)
  · exact W.pure ok11 rfl rfl (W.ret (RetQ.pure rfl rfl))
  simp only [decide_eq_false_iff_not] at *
  have w1 : IntKind.i64.wrap (mid + 1) = mid + 1 := wrap64 (by omega) (by omega)
  have hcut : ∃ r, t.toList = (t.extract 0 c.toNat).toList ++ r := ⟨t.toList.drop c.toNat, by rw [toList_take, List.take_append_drop]⟩
  have htc : strOk (t.extract 0 c.toNat) = true := strOk_pref ht hcut
  have hne : sEq (t.extract 0 c.toNat) (txt []) = false := by
    unfold sEq
    rw [beq_eq_false_iff_ne]
    intro h
    have h1 := toList_len t
    have h2 : (t.extract 0 c.toNat).toList.length = 0 := by rw [h, ByteArray.toList_eq]; rfl
    rw [toList_take, List.length_take, h1] at h2
    omega
  have m1 := range_match (n := n) (lo := lo) (hi := hi) (t := t) (by omega) (by omega) ht (by omega) (by omega) (by omega)
  have m2 := range_match (n := n) (lo := lo) (hi := mid) (t := t) (by omega) (by omega) ht (by omega) (by omega) (by omega)
  have m3 := range_match (n := n) (lo := mid + 1) (hi := hi) (t := t) (by omega) (by omega) ht (by omega) (by omega) (by omega)
  have m4 := eq_match (n := n) (t := t) (u := t) (by omega) (by omega) ht ht
  have m5 := pre_match (n := n) (t := t) (u := t.extract 0 c.toNat) (by omega) (by omega) ht htc hne
  rw [sEq_refl] at m4
  rw [prefOk_iff.2 hcut] at m5
  obtain ⟨x, y, z, hx, hy, hz, hl⟩ : ∃ x y z : Bool, (decide (n ≥ lo) && decide (n ≤ hi)) = x ∧ (decide (n ≥ lo) && decide (n ≤ mid)) = y ∧ (decide (n ≥ mid + 1) && decide (n ≤ hi)) = z ∧ ((x = false ∧ y = false ∧ z = false) ∨ (x = true ∧ y = true ∧ z = false) ∨ (x = true ∧ y = false ∧ z = true)) := by
    refine ⟨_, _, _, rfl, rfl, rfl, ?_⟩
    by_cases h1 : n < lo
    · left; simp; omega
    · by_cases h2 : n ≤ mid
      · right; left; simp; omega
      · by_cases h3 : n ≤ hi
        · right; right; simp; omega
        · left; simp; omega
  rw [hx] at m1
  rw [hy] at m2
  rw [hz] at m3
  have k1 := ok17 sample (by decide) (evt2 n t) lo hi
  have k2 := ok17 sample (by decide) (evt2 n t) lo mid
  have k3 := ok17 sample (by decide) (evt2 n t) (mid + 1) hi
  have k4 := ok12 sample (by decide) [⟨tagT, 2, 0, 0, t⟩] (evt2 n t)
  have k5 := ok12 sample (by decide) [⟨tagT, 3, 0, 0, t.extract 0 c.toNat⟩] (evt2 n t)
  rw [m1] at k1
  rw [m2] at k2
  rw [m3, ← w1] at k3
  rw [m4] at k4
  rw [m5] at k5
  have hcn : (0 : Int) ≤ c ∧ c ≤ t.size := by omega
  refine W.pure ok16 rfl rfl ?_
  refine W.alt_l ?_
  refine W.pure k1 rfl rfl ?_
  refine W.pure k2 rfl rfl ?_
  refine W.pure k3 rfl rfl ?_
  refine W.alt_l ?_
  refine W.pure k4 rfl rfl ?_
  refine W.need hcn ?_
  refine W.alt_l ?_
  refine W.pure k5 rfl rfl ?_
  refine W.pure ok11 rfl rfl ?_
  rcases hl with ⟨rfl, rfl, rfl⟩ | ⟨rfl, rfl, rfl⟩ | ⟨rfl, rfl, rfl⟩
  all_goals
    repeat (first | refine W.ite_t rfl ?_ | refine W.ite_f rfl ?_)
    refine W.ret ?_
    exact RetQ.pure rfl rfl
end Go.Proofs.Ytcanicacdfkaeaa.Va
