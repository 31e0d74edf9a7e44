import Derived.Test.YtbjjimllnffcpaaGreatDoorRDn
import Derived.Test.YtbjjimllnffcpaaGreatDoorDD
set_option maxRecDepth 100000
set_option linter.unusedVariables false
set_option linter.unusedSimpArgs false
/- The reference's Read of any text. -/
namespace Go.Proofs.YtbjjimllnffcpaaGreatDoor.Gr
open Go Go.Am Va
def od19 : Ords := []
theorem code19 : codeB Tryz.f19.ntmps od19 (match Tryz.f19.body with | some c => c | none => .skip) = true := by kernel_rfl
theorem first_dot {x r l : List UInt8} {k : Nat} (hl : l = x ++ 46 :: r) (hx : 46 ∉ x) (h1 : ∀ j, j < k → l[j]? ≠ some 46) (h2 : k = l.length ∨ l[k]? = some 46) : l.take k = x := by
  subst hl
  have hk : k = x.length := by
    rcases Nat.lt_trichotomy k x.length with h | h | h
    · rcases h2 with h2 | h2
      · simp at h2; omega
      · rw [List.getElem?_append_left h] at h2
        exact absurd (List.mem_of_getElem? h2) hx
    · exact h
    · exact absurd (by simp) (h1 x.length h)
  subst hk
  simp
open Classical in
/-- What the reference answers. -/
noncomputable def rdV (s : ByteArray) (n : Int) : AV :=
  if h : ∃ p : ByteArray × Nat × Nat, RdOk s n p.1 p.2.1 p.2.2 then .tuple [.d (sD h.choose.1), Dy.iv h.choose.2.1 h.choose.2.2, bI true] else .tuple [.d (sD (txt [])), Dy.iv 0 0, bI false]
theorem rdV_some {s a : ByteArray} {n : Int} {l i : Nat} (h : RdOk s n a l i) : rdV s n = .tuple [.d (sD a), Dy.iv l i, bI true] := by
  have h' : ∃ p : ByteArray × Nat × Nat, RdOk s n p.1 p.2.1 p.2.2 := ⟨(a, l, i), h⟩
  unfold rdV
  rw [dif_pos h']
  obtain ⟨e1, e2, e3⟩ := h'.choose_spec.uniq h
  rw [e1, e2, e3]
theorem rdV_none {s : ByteArray} {n : Int} (h : ∀ a l i, ¬ RdOk s n a l i) : rdV s n = .tuple [.d (sD (txt [])), Dy.iv 0 0, bI false] := by
  unfold rdV
  rw [dif_neg fun ⟨p, hp⟩ => h _ _ _ hp]
theorem rdV_closed (s : ByteArray) (n : Int) : (rdV s n).closed = true := by
  unfold rdV
  split <;> rfl
theorem RdOk.at {s a : ByteArray} {n : Int} {l i k : Nat} (h : RdOk s n a l i) (h1 : ∀ j, j < k → s.data.toList[j]? ≠ some 46) (h2 : k = s.data.toList.length ∨ s.data.toList[k]? = some 46) : a = s.extract 0 k := by
  have hl := nameS_list a l i
  rw [h.2.2, dl, dl] at hl
  have hd := name_dot h.1
  rw [dl] at hd
  have := first_dot hl hd h1 h2
  apply ByteArray.ext
  apply Array.toList_inj.1
  rw [← this, ByteArray.data_extract]
  simp
set_option maxHeartbeats 8000000 in
theorem ok19 (s : ByteArray) (hs : s.size ≤ 1000) (n : Int) : Go.Am.Pure Tryz.prog 19 [.d (sD s), .d (nI n)] (rdV s n) := by
  refine CallOk.of tysOk mixed od19 Tryz.func19 rfl rfl code19 ?_
  have hsz : s.data.toList.length = s.size := by rw [Array.length_toList]; rfl
  refine W.loop (fun k fr σ => ∃ i : Nat, fr = [(0, .d (sD s)), (1, .d (nI n)), (5, .ptr 0 0), (7, .d (nI i))] ∧ σ = [.var [.d (nI 0), .d (nI 0)]] ∧ i ≤ s.size ∧ (∀ j, j < i → s.data.toList[j]? ≠ some 46) ∧ k = s.size - i) s.size
    (Start.of [0, 1, 5, 7] [] (by simp)) ⟨0, rfl, rfl, Nat.zero_le _, fun j hj => absurd hj (Nat.not_lt_zero _), rfl⟩ ?_
  rintro k fr σ ⟨i, rfl, rfl, hi, hb, rfl⟩
  by_cases hgo : i < s.size ∧ s.data.toList[i]? ≠ some 46
  · obtain ⟨hlt, hne⟩ := hgo
    have c1 : decide ((i : Int) < (s.size : Int)) = true := decide_eq_true (by omega)
    have c2 : (!(((s.data.getD (i : Int).toNat 0).toNat : Int) == 46)) = true := by
      rw [Bool.not_eq_true', beq_eq_false_iff_ne]
      intro h
      apply hne
      rw [get_lt hlt]
      rw [Int.toNat_natCast] at h
      congr 1
      exact UInt8.toNat_inj.1 (by show _ = 46; omega)
    have gi : IntKind.i64.wrap ((i : Int) + 1) = ((i + 1 : Nat) : Int) := by rw [wrap64 (by omega) (by omega)]; rfl
    repeat (first | refine W.ite_t c1 ?_ | refine W.ite_t c2 ?_ | refine W.ite_t rfl ?_ | refine W.ite_f rfl ?_ | refine W.need ⟨by omega, by omega⟩ ?_)
    refine W.ret ⟨_, _, _, ?_, Trim.of [0, 1, 5, 7] [0] (by decide) (by simp) (by simp), i + 1, ?_, rfl, by omega, ?_, rfl⟩
    · omega
    · rw [← gi]; rfl
    · intro j hj
      by_cases h : j = i
      · subst h; exact hne
      · exact hb j (by omega)
  · have hend : i = s.data.toList.length ∨ s.data.toList[i]? = some 46 := by
      by_cases h : i < s.size
      · right
        apply Classical.byContradiction
        exact fun k => hgo ⟨h, k⟩
      · left; omega
    have hpre : ∀ a l k, RdOk s n a l k → a = s.extract 0 i := fun a l k h => h.at hb hend
    have kN := ok47 (s.extract 0 i) (by rw [ByteArray.size_extract]; omega)
    have fin0 : (∀ a l k, ¬ RdOk s n a l k) → (.tuple [.d (sD (txt [])), Dy.iv 0 0, bI false] : AV) = rdV s n := fun h => (rdV_none h).symm
    rcases Nat.lt_or_ge i s.size with hlt | hge
    case' inl =>
      have c1 : decide ((i : Int) < (s.size : Int)) = true := decide_eq_true (by omega)
      have c2 : (!(((s.data.getD (i : Int).toNat 0).toNat : Int) == 46)) = false := by
        rw [Bool.not_eq_false', beq_iff_eq]
        rcases hend with h | h
        · omega
        · rw [get_lt hlt] at h
          rw [Int.toNat_natCast, Option.some.inj h]
          rfl
      repeat (first | refine W.ite_t c1 ?_ | refine W.ite_f c2 ?_ | refine W.ite_t rfl ?_ | refine W.ite_f rfl ?_ | refine W.need ⟨by omega, by omega⟩ ?_)
    case' inr =>
      have c1 : decide ((i : Int) < (s.size : Int)) = false := decide_eq_false (by omega)
      repeat (first | refine W.ite_f c1 ?_ | refine W.ite_t rfl ?_ | refine W.ite_f rfl ?_)
    all_goals
      refine W.ret ?_
      refine W.need ⟨by omega, by omega⟩ ?_
      cases hn : nameOk (s.extract 0 i) with
      | false =>
        rw [hn] at kN
        refine W.pure kN rfl rfl ?_
        repeat (first | refine W.ite_t rfl ?_ | refine W.ite_f rfl ?_)
        refine W.ret (RetQ.pure (rdV_closed s n) (fin0 fun a l k h => ?_))
        have := h.1
        rw [hpre a l k h, hn] at this
        cases this
      | true =>
        rw [hn] at kN
        refine W.pure kN rfl rfl ?_
        by_cases h0 : n < 0
        · have d0 : decide (n < 0) = true := decide_eq_true h0
          repeat (first | refine W.ite_t rfl ?_ | refine W.ite_f rfl ?_ | refine W.ite_t d0 ?_)
          refine W.ret (RetQ.pure (rdV_closed s n) (fin0 fun a l k h => ?_))
          have := (Dy.good_iff.1 h.2.1).1
          omega
        · have d0 : decide (n < 0) = false := decide_eq_false h0
          by_cases h8 : n > 8
          · have d8 : decide (n > 8) = true := decide_eq_true h8
            repeat (first | refine W.ite_t rfl ?_ | refine W.ite_f rfl ?_ | refine W.ite_f d0 ?_ | refine W.ite_t d8 ?_)
            refine W.ret (RetQ.pure (rdV_closed s n) (fin0 fun a l k h => ?_))
            have := (Dy.good_iff.1 h.2.1).2.1
            omega
          · have d8 : decide (n > 8) = false := decide_eq_false h8
            repeat (first | refine W.ite_t rfl ?_ | refine W.ite_f rfl ?_ | refine W.ite_f d0 ?_ | refine W.ite_f d8 ?_)
            obtain ⟨m, rfl⟩ := Int.eq_ofNat_of_zero_le (by omega : 0 ≤ n)
            have hm : m ≤ 8 := by omega
            have hz := name_size hn
            refine W.loop (fun k fr σ => ∃ L : Nat, fr = [(0, .d (sD s)), (1, .d (nI m)), (5, .ptr 0 0), (7, .d (nI i)), (8, .d (nI L))] ∧ σ = [.var [.d (nI 0), .d (nI 0)]] ∧ L ≤ m + 1 ∧ (∀ a l k, l < L → ¬ RdOk s m a l k) ∧ k = m + 1 - L) (m + 1)
              (Start.of [0, 1, 5, 7, 8] [] (by simp)) ⟨0, rfl, rfl, Nat.zero_le _, fun _ _ _ h => absurd h (Nat.not_lt_zero _), rfl⟩ ?_
            rintro k fr σ ⟨L, rfl, rfl, hL, hB, rfl⟩
            by_cases hLm : L ≤ m
            · have hp : (2 : Nat) ^ L ≤ 256 := Nat.le_trans (Nat.pow_le_pow_right (by decide) (by omega : L ≤ 8)) (by decide)
              have kP := Dy.ok48 L (by omega) (by omega)
              have eP : ((2 : Int) ^ (L : Int).toNat) = ((2 ^ L : Nat) : Int) := by rw [Int.toNat_natCast]; norm_cast
              rw [eP] at kP
              refine W.ite_t (decide_eq_true (by omega)) ?_
              refine W.loop (fun k fr σ => ∃ j : Nat, fr = [(0, .d (sD s)), (1, .d (nI m)), (5, .ptr 0 0), (7, .d (nI i)), (8, .d (nI L)), (9, .d (nI j))] ∧ σ = [.var [.d (nI 0), .d (nI 0)]] ∧ j ≤ 2 ^ L ∧ (∀ a k, k < j → ¬ RdOk s m a L k) ∧ k = 2 ^ L - j) (2 ^ L)
                (Start.of [0, 1, 5, 7, 8, 9] [] (by simp)) ⟨0, rfl, rfl, Nat.zero_le _, fun _ _ h => absurd h (Nat.not_lt_zero _), rfl⟩ ?_
              rintro k fr σ ⟨j, rfl, rfl, hj, hC, rfl⟩
              refine W.pure kP rfl rfl ?_
              by_cases hjp : j < 2 ^ L
              · have kQ := ok21 (s.extract 0 i) L j (by omega) (by omega) (by omega)
                refine W.ite_t (decide_eq_true (by omega)) ?_
                refine W.need ⟨by omega, by omega⟩ ?_
                refine W.pure kQ rfl rfl ?_
                have gj : IntKind.i64.wrap ((j : Int) + 1) = ((j + 1 : Nat) : Int) := by rw [wrap64 (by omega) (by omega)]; rfl
                cases hc : ((nameS (s.extract 0 i) L j).toList == s.toList) with
                | true =>
                  refine W.ite_t hc ?_
                  refine W.need ⟨by omega, by omega⟩ ?_
                  refine W.ret ?_
                  refine W.ret ?_
                  refine W.ret (RetQ.pure (rdV_closed s m) ?_)
                  have hok : RdOk s m (s.extract 0 i) L j := by
                    refine ⟨hn, ?_, ?_⟩
                    · refine Dy.good_iff.2 ⟨by omega, by omega, by omega, by omega, by omega, ?_⟩
                      rw [Int.toNat_natCast]
                      exact_mod_cast hjp
                    · have := eq_of_beq hc
                      rw [dl, dl] at this
                      exact ByteArray.ext (Array.toList_inj.1 this)
                  rw [rdV_some hok]
                  rfl
                | false =>
                  refine W.ite_f hc ?_
                  refine W.ret ⟨_, _, _, ?_, Trim.of [0, 1, 5, 7, 8, 9] [0] (by decide) (by simp) (by simp), j + 1, ?_, rfl, by omega, ?_, rfl⟩
                  · omega
                  · rw [← gj]; rfl
                  · intro a k hk hr
                    by_cases e : k = j
                    · subst e
                      have h1 := hr.2.2
                      rw [hpre a L k hr] at h1
                      rw [h1, beq_self_eq_true] at hc
                      cases hc
                    · exact hC a k (by omega) hr
              · have gL : IntKind.i64.wrap ((L : Int) + 1) = ((L + 1 : Nat) : Int) := by rw [wrap64 (by omega) (by omega)]; rfl
                refine W.ite_f (decide_eq_false (by omega)) ?_
                refine W.ret ?_
                refine W.ret ⟨_, _, _, ?_, Trim.of [0, 1, 5, 7, 8] [0] (by decide) (by simp) (by simp), L + 1, ?_, rfl, by omega, ?_, rfl⟩
                · omega
                · rw [← gL]; rfl
                · intro a l k hl hr
                  by_cases e : l = L
                  · subst e
                    have g6 := (Dy.good_iff.1 hr.2.1).2.2.2.2.2
                    rw [eP] at g6
                    exact hC a k (by omega) hr
                  · exact hB a l k (by omega) hr
            · refine W.ite_f (decide_eq_false (by omega)) ?_
              refine W.ret ?_
              refine W.ret (RetQ.pure (rdV_closed s m) (fin0 fun a l k hr => ?_))
              have g4 := (Dy.good_iff.1 hr.2.1).2.2.2.1
              exact hB a l k (by omega) hr
end Go.Proofs.YtbjjimllnffcpaaGreatDoor.Gr
