import Derived.Test.YtpemfjnjkjckoaaLL
import Derived.Test.YtpemfjnjkjckoaaCV0
set_option maxRecDepth 100000
set_option linter.unusedVariables false
set_option linter.unusedSimpArgs false
/- Layer 4: LinkWindow. -/
namespace Go.Proofs.Ytpemfjnjkjckoaa.Lk
open Go Go.Am Co
def od15 : Ords := []
theorem code15 : codeB Try.f15.ntmps od15 (match Try.f15.body with | some c => c | none => .skip) = true := by kernel_rfl
theorem pk_parts (n c : Int) (s : ByteArray) : bA (enc (zz n)) ++ bA (enc (zz c)) ++ bA (encT s) = pk n c s := by
  rw [bA_append, bA_append]; rfl
theorem ok15 (n c : Int) (s : ByteArray) (hn : -9223372036854775808 ≤ n ∧ n < 9223372036854775808) (hc : -9223372036854775808 ≤ c ∧ c < 9223372036854775808) (hs : s.size ≤ 1000000) :
    Go.Am.Pure Try.prog 15 [.d (nI n), .d (nI c), .d (sD s)] (.d (sD (pk n c s))) := by
  refine CallOk.of tysOk mixed od15 Try.func15 rfl rfl code15 ?_
  have l1 := enc_len10 (zz_lt hn.1 hn.2)
  have l2 := enc_len10 (zz_lt hc.1 hc.2)
  have l3 := enc_len10 (n := s.size) (by omega)
  have hl : s.data.toList.length = s.size := by simp
  refine W.pure (ok24 n hn.1 hn.2) rfl rfl ?_
  refine W.pure (ok24 c hc.1 hc.2) rfl rfl ?_
  refine W.need (by rw [bA_size, bA_size, maxI]; omega) ?_
  refine W.pure (ok25 s (by omega)) rfl rfl ?_
  refine W.need (by rw [bA_append, bA_size, bA_size, maxI]; simp only [encT, List.length_append, hl]; omega) ?_
  refine W.ret (RetQ.pure rfl ?_)
  show AV.d (sD (bA (enc (zz n)) ++ bA (enc (zz c)) ++ bA (encT s))) = _
  rw [pk_parts]
def byT (i : Nat) : ByteArray := bA [UInt8.ofNat i]
def byL (n : Nat) : List ByteArray := (List.range n).map byT
theorem byL_len (n : Nat) : (byL n).length = n := by simp [byL]
theorem byL_get {n i : Nat} (h : i < n) : (byL n)[i]? = some (byT i) := by simp [byL, h]
theorem byL_size (n : Nat) : ∀ s ∈ byL n, s.size ≤ 1 := fun s h => by
  obtain ⟨i, _, rfl⟩ := List.mem_map.1 h
  exact Nat.le_refl _
theorem byCell {i : Nat} (h : i < 64) : D.lit (.int .u8 (IntKind.u8.wrap (i : Int))) = bC (UInt8.ofNat i) := cellSmall (by omega)
theorem byBytes {i : Nat} (h : i < 64) : bytesOf [D.lit (.int .u8 (IntKind.u8.wrap (i : Int)))] = byT i := by rw [byCell h]; exact oneByte _
theorem byNeed {i : Nat} (h : i < 64) : (1 : Nat) = 1 ∧ [D.lit (.int .u8 (IntKind.u8.wrap (i : Int)))].length = 1 ∧ ∀ c ∈ [D.lit (.int .u8 (IntKind.u8.wrap (i : Int)))], isByte c := by
  rw [byCell h]
  exact ⟨rfl, rfl, oneIs _⟩
def od6 : Ords := []
theorem code6 : codeB Try.f6.ntmps od6 (match Try.f6.body with | some c => c | none => .skip) = true := by kernel_rfl
set_option maxHeartbeats 8000000 in
theorem ok6 (n came : Int) (hn0 : -9223372036854775808 ≤ n ∧ n < 9223372036854775808) (hc0 : -9223372036854775808 ≤ came ∧ came < 9223372036854775808) : Go.Am.Pure Try.prog 6 [.d (nI n), .d (nI came)] (bI true) := by
  refine CallOk.of tysOk mixed od6 Try.func6 rfl rfl code6 ?_
  iterate 3
    (refine W.ite (fun c => ?_) (fun c => ?_)
     · repeat (first | refine W.ite_t rfl ?_ | refine W.ite_f rfl ?_ | refine W.ite_t (by assumption) ?_ | refine W.ite_f (by assumption) ?_)
       exact W.pure ok12 rfl rfl (W.ret (RetQ.pure rfl rfl))
     repeat (first | refine W.ite_t rfl ?_ | refine W.ite_f rfl ?_ | refine W.ite_t (by assumption) ?_ | refine W.ite_f (by assumption) ?_))
  refine W.ite (fun c => ?_) (fun c => ?_)
  · exact W.pure ok12 rfl rfl (W.ret (RetQ.pure rfl rfl))
  simp only [decide_eq_false_iff_not] at *
  obtain ⟨N, rfl⟩ : ∃ N : Nat, n = (N : Int) := ⟨n.toNat, by omega⟩
  obtain ⟨C, rfl⟩ : ∃ C : Nat, came = (C : Int) := ⟨came.toNat, by omega⟩
  have hN : N ≤ 64 := by omega
  have hC : C ≤ N := by omega
  have hXl := byL_len N
  have hXs := byL_size N
  have hXg := fun i => @byL_get N i
  clear hn0 hc0
  refine W.loop (fun k fr σ => ∃ i : Nat, fr = [(0, .d (nI N)), (1, .d (nI C)), (5, .ptr 0 0), (6, .ptr 1 0), (7, .d (nI i))] ∧ σ = [.var (lkC ⟨(byL N).take i, 0, 0, false⟩), .var (lkC lk0)] ∧ i ≤ N ∧ k = N - i) N
    (Start.of [0, 1, 5, 6, 7] [] (by simp)) ⟨0, rfl, rfl, by omega, rfl⟩ ?_
  rintro k fr σ ⟨i, rfl, rfl, hi, rfl⟩
  refine W.ite (fun c1 => ?_) (fun c1 => ?_)
  · have hil : i < N := by have := of_decide_eq_true c1; omega
    refine W.alt_l ?_
    refine W.need (byNeed (by omega)) ?_
    have kp := pushOk ⟨(byL N).take i, 0, 0, false⟩ (lkOk (by simp; omega) (ok_take hXs) (by decide) (by decide) (by decide)) (byT i) (by show 1 ≤ _; decide) (by simp; omega)
    rw [← byBytes (by omega)] at kp
    refine W.lk 0 [.var (lkC ⟨(byL N).take i ++ [bytesOf [D.lit (.int .u8 (IntKind.u8.wrap (i : Int)))]], 0, 0, false⟩), .var (lkC lk0)] kp rfl rfl rfl rfl ?_
    repeat (first | refine W.ite_t rfl ?_ | refine W.ite_f rfl ?_)
    refine W.ret ⟨_, _, _, ?_, Trim.of [0, 1, 5, 6, 7] [0, 1] (by decide) (by simp) (tr2 rfl), i + 1, ?_, ?_, by omega, rfl⟩
    · omega
    · rw [← wrapS (by omega)]; rfl
    · rw [take_next (hXg i hil), ← byBytes (by omega)]; rfl
  have hiN : i = N := by have := of_decide_eq_false c1; omega
  subst hiN
  rw [List.take_of_length_le (by omega)]
  generalize hX : byL i = X at *
  have hXl' : X.length = i := by rw [← hX]; exact byL_len i
  refine W.ret ?_
  refine W.loop (fun k fr σ => ∃ m : Nat, fr = [(0, .d (nI i)), (1, .d (nI C)), (5, .ptr 0 0), (6, .ptr 1 0)] ∧ σ = [.var (lkC ⟨X.drop m, m, 0, false⟩), .var (lkC ⟨[], 0, m, false⟩)] ∧ m ≤ C ∧ k = C - m) C
    (Start.of [0, 1, 5, 6] [] (by simp)) ⟨0, rfl, rfl, by omega, rfl⟩ ?_
  rintro k fr σ ⟨m, rfl, rfl, hm, rfl⟩
  have hA : (⟨X.drop m, m, 0, false⟩ : Lk).ok := lkOk (by simp; omega) (ok_drop hXs) (by decide) (by omega) (by decide)
  have hB : (⟨[], 0, m, false⟩ : Lk).ok := .mk' (by decide) (by simp) (by decide) (by omega)
  have hpk : packets ⟨X.drop m, m, 0, false⟩ = pks 0 m ((X.drop m).take 8) := by
    by_cases h : X.drop m = []
    · rw [h]; rfl
    · exact packets_q h
  have hD : ((X.drop m).take 8).length = min 8 (X.length - m) := drop_len'
  have hDg : ∀ j, j < ((X.drop m).take 8).length → ((X.drop m).take 8)[j]? = some (byT (m + j)) := fun j hj => by
    rw [hD] at hj
    rw [List.getElem?_take_of_lt (by omega), List.getElem?_drop]
    exact hXg (m + j) (by omega)
  refine W.ite (fun c2 => ?_) (fun c2 => ?_)
  · have hml : m < C := by have : (m : Int) < (C : Int) := of_decide_eq_true c2; omega
    refine W.lk 0 [.var (lkC ⟨X.drop m, m, 0, false⟩), .var (lkC ⟨[], 0, m, false⟩)] (packetsOk ⟨X.drop m, m, 0, false⟩ hA hpk) rfl rfl rfl rfl ?_
    generalize (X.drop m).take 8 = D at hD hDg
    have hpl := pks_len 0 D m
    have f1 : (((pks 0 m D).length : Int) == 0) = false := by rw [hpl, beq_eq_false_iff_ne]; omega
    have f2 : decide (((pks 0 m D).length : Int) > 8) = false := by rw [hpl]; exact decide_eq_false (by omega)
    repeat (first | refine W.ite_f f1 ?_ | refine W.ite_f f2 ?_ | refine W.ite_t rfl ?_ | refine W.ite_f rfl ?_)
    have h0 := hDg 0 (by omega)
    have hps := pks_get 0 D m 0 _ h0
    refine W.need (ix_ok (i := 0) sC_len (by decide) (by rw [hpl]; omega)) ?_
    refine W.ld (sE hps) ?_
    have ht := takeOk (adv ⟨[], 0, m, false⟩ 0 0) hB (n := ((m + 0 : Nat) : Int)) (c := ((0 : Nat) : Int)) (s := byT (m + 0)) (by omega) (by decide) (by show 1 ≤ _; decide) (take_adv ⟨[], 0, m, false⟩ 0 0 (byT (m + 0)))
    refine W.lk 1 [.var (lkC ⟨X.drop m, m, 0, false⟩), .var (lkC (adv ⟨[], 0, m, false⟩ 0 1))] ht rfl rfl rfl rfl ?_
    have hadv := adv_ok hB (cc := 0) (k := 1) (by decide) (by show m + 1 ≤ _; omega)
    refine W.lk 1 [.var (lkC ⟨X.drop m, m, 0, false⟩), .var (lkC ⟨[], 0, m + 1, false⟩)] (packetsOk (adv ⟨[], 0, m, false⟩ 0 1) hadv (adv_note m 1)) rfl rfl rfl (by rw [adv_quiet]; rfl) ?_
    refine W.loop (fun k fr σ => ∃ (j : Nat), fr = [(0, .d (nI i)), (1, .d (nI C)), (5, .ptr 0 0), (6, .ptr 1 0), (58, slS (note m 1)), (59, .d (nI (note m 1).length)), (60, .d (nI j))] ∧ σ = [.var (lkC (if j = 0 then ⟨X.drop m, m, 0, false⟩ else ⟨X.drop (m + 1), m + 1, 0, false⟩)), .var (lkC ⟨[], 0, m + 1, false⟩)] ∧ j ≤ (note m 1).length ∧ k = (note m 1).length - j) (note m 1).length
      (Start.of [0, 1, 5, 6, 58, 59, 60] [] (by simp)) ⟨0, rfl, rfl, by omega, rfl⟩ ?_
    rintro k fr σ ⟨j, rfl, rfl, hj, rfl⟩
    refine W.ite (fun c3 => ?_) (fun c3 => ?_)
    · have hjl : j < (note m 1).length := by have := of_decide_eq_true c3; omega
      obtain ⟨hd0, rfl, hg⟩ := note_get hjl
      refine W.need (ix_ok sC_len (by decide) hjl) ?_
      refine W.ld (sE hg) ?_
      refine W.lk 0 [.var (lkC ⟨X.drop (m + 1), m + 1, 0, false⟩), .var (lkC ⟨[], 0, m + 1, false⟩)] (takeOk ⟨X.drop m, m, 0, false⟩ hA (n := -1) (c := ((m + 1 : Nat) : Int)) (s := mt) (by decide) (by omega) (by decide) (r := (mt, false, .lit .nilIface)) (l' := ⟨X.drop (m + 1), m + 1, 0, false⟩) ?_) rfl rfl rfl rfl ?_
      · rw [take_note _ (by omega), ack_all (by omega) (by simp; omega), List.drop_drop, show m + (m + 1 - m) = m + 1 from by omega]
      refine W.ret ⟨_, _, _, ?_, Trim.of [0, 1, 5, 6, 58, 59, 60] [0, 1] (by decide) (by simp) (tr2 rfl), 0 + 1, ?_, ?_, by omega, rfl⟩
      · omega
      · rfl
      · rfl
    · have hjl : j = (note m 1).length := by have := of_decide_eq_false c3; omega
      have hj0 : ¬ j = 0 := fun h => by have := (note_len m 1).2 (by omega); omega
      rw [if_neg hj0]
      refine W.ret ?_
      refine W.ret ⟨_, _, _, ?_, Trim.of [0, 1, 5, 6] [0, 1] (by decide) (by simp) (tr2 rfl), m + 1, rfl, rfl, by omega, rfl⟩
      omega
  · have hml : m = C := by have : ¬ (m : Int) < (C : Int) := of_decide_eq_false c2; omega
    subst hml
    refine W.ret ?_
    refine W.lk 0 [.var (lkC ⟨X.drop m, m, 0, false⟩), .var (lkC ⟨[], 0, m, false⟩)] (packetsOk ⟨X.drop m, m, 0, false⟩ hA hpk) rfl rfl rfl rfl ?_
    generalize (X.drop m).take 8 = D at hD hDg
    have hpl := pks_len 0 D m
    have wm : IntKind.i64.wrap ((i : Int) - (m : Int)) = ((i - m : Nat) : Int) := by rw [wrap64 (by omega) (by omega)]; omega
    have f1 : (((pks 0 m D).length : Int) != (if (8 : Int) < IntKind.i64.wrap ((i : Int) - (m : Int)) then (8 : Int) else IntKind.i64.wrap ((i : Int) - (m : Int)))) = false := by
      rw [hpl, wm]
      simp only [bne_eq_false_iff_eq]
      split <;> omega
    refine W.ite_f f1 ?_
    refine W.loop (fun k fr σ => ∃ (j : Nat), fr = [(1, .d (nI m)), (5, .ptr 0 0), (75, slS (pks 0 m D)), (76, .d (nI (pks 0 m D).length)), (77, .d (nI j))] ∧ σ = [.var (lkC ⟨X.drop m, m, 0, false⟩), .var (lkC ⟨[], 0, m, false⟩)] ∧ j ≤ D.length ∧ k = D.length - j) D.length
      (Start.of [1, 5, 75, 76, 77] [] (by simp)) ⟨0, rfl, rfl, by omega, rfl⟩ ?_
    rintro k fr σ ⟨j, rfl, rfl, hj, rfl⟩
    refine W.ite (fun c3 => ?_) (fun c3 => ?_)
    · have hjl : j < D.length := by have := of_decide_eq_true c3; omega
      have hps := pks_get 0 D m j _ (hDg j hjl)
      have wj : IntKind.i64.wrap ((m : Int) + (j : Int)) = ((m + j : Nat) : Int) := by rw [wrap64 (by omega) (by omega)]; omega
      refine W.need (ix_ok sC_len (by decide) (by rw [hpl]; exact hjl)) ?_
      refine W.ld (sE hps) ?_
      refine W.alt_l ?_
      have kn := byNeed (i := m + j) (by omega)
      have kb := byBytes (i := m + j) (by omega)
      have kf := ok15 ((m + j : Nat) : Int) 0 (byT (m + j)) (by omega) (by decide) (by show 1 ≤ _; decide)
      rw [← kb, ← wj] at kf
      rw [← wj] at kn
      refine W.need kn ?_
      refine W.pure kf rfl rfl ?_
      have f2 : (!((pk ((m + j : Nat) : Int) ((0 : Nat) : Int) (byT (m + j))).toList == (pk (IntKind.i64.wrap ((m : Int) + (j : Int))) 0 (bytesOf [Go.Am.D.lit (.int .u8 (IntKind.u8.wrap (IntKind.i64.wrap ((m : Int) + (j : Int)))))])).toList)) = false := by
        rw [wj, kb]
        exact toList_bne _
      refine W.ite_f f2 ?_
      refine W.ret ⟨_, _, _, ?_, Trim.of [1, 5, 75, 76, 77] [0, 1] (by decide) (by simp) (tr2 rfl), j + 1, ?_, rfl, by omega, rfl⟩
      · omega
      · rw [← wrapS (by omega)]; rfl
    · refine W.ret ?_
      refine W.pure ok12 rfl rfl ?_
      have f3 : (((m : Nat) : Int) == ((m : Nat) : Int)) = true := by simp
      repeat (first | refine W.ite_t f3 ?_ | refine W.ite_t rfl ?_ | refine W.ite_f rfl ?_)
      exact W.ret (RetQ.pure rfl (ret_bI f3))
end Go.Proofs.Ytpemfjnjkjckoaa.Lk
