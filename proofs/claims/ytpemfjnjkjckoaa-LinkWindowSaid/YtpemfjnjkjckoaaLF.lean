import Derived.Test.YtpemfjnjkjckoaaLR
import Derived.Test.YtpemfjnjkjckoaaE
set_option maxRecDepth 100000
set_option linter.unusedVariables false
set_option linter.unusedSimpArgs false
/- Layer 4: LinkFull. -/
namespace Go.Proofs.Ytpemfjnjkjckoaa.Lk
open Go Go.Am Co
def od7 : Ords := []
theorem code7 : codeB Try.f7.ntmps od7 (match Try.f7.body with | some c => c | none => .skip) = true := by kernel_rfl
abbrev zC : D := .lit (.int .u8 0)
def zT (n : Nat) : ByteArray := bytesOf (List.replicate n zC)
theorem zT_size (n : Nat) : (zT n).size = n := by
  show ((List.replicate n zC).map fun x => UInt8.ofNat x.toI.toNat).toArray.size = n
  simp
theorem zNeed (n : Nat) : (1 : Nat) = 1 ∧ (List.replicate n zC).length = n ∧ ∀ c ∈ List.replicate n zC, isByte c := by
  refine ⟨rfl, by simp, fun c hc => ?_⟩
  rw [List.eq_of_mem_replicate hc]
  exact ⟨rfl, by decide, by decide⟩
abbrev tX : ByteArray := ⟨#[120]⟩
abbrev tY : ByteArray := ⟨#[121]⟩
theorem rep_size (n : Nat) : ∀ s ∈ List.replicate n tX, s.size ≤ 1 := fun s h => by rw [List.eq_of_mem_replicate h]; decide
theorem pushFull (l : Lk) (h : l.ok) (s : ByteArray) (h1 : s.size ≤ 1970) (h2 : l.q.length = 64) : CallOk Try.prog 9 (.ptr 0 0 :: [sD s].map .d) (lkS l) (fun v σ => v = .d (ftD linkW 0 4) ∧ σ = lkS l) := by
  have := ok9 l h s
  have e : push l s = (4, l) := by
    unfold push
    rw [if_neg (by omega), if_pos (by omega)]
  rw [e] at this
  exact this
theorem pushLong (l : Lk) (h : l.ok) (s : ByteArray) (h1 : s.size > 1970) : CallOk Try.prog 9 (.ptr 0 0 :: [sD s].map .d) (lkS l) (fun v σ => v = .d (ftD linkW 0 1) ∧ σ = lkS l) := by
  have := ok9 l h s
  have e : push l s = (1, l) := by
    unfold push
    rw [if_pos h1]
  rw [e] at this
  exact this
set_option maxHeartbeats 16000000 in
theorem ok7 (n : Int) (hn0 : -9223372036854775808 ≤ n ∧ n < 9223372036854775808) : Go.Am.Pure Try.prog 7 [.d (nI n)] (bI true) := by
  refine CallOk.of tysOk mixed od7 Try.func7 rfl rfl code7 ?_
  refine W.ite (fun c => ?_) (fun c => ?_)
  · repeat (first | refine W.ite_t rfl ?_ | refine W.ite_f rfl ?_ | refine W.ite_t (by assumption) ?_ | refine W.ite_f (by assumption) ?_)
    exact W.pure ok12 rfl rfl (W.ret (RetQ.pure rfl rfl))
  repeat (first | refine W.ite_t rfl ?_ | refine W.ite_f rfl ?_ | refine W.ite_t (by assumption) ?_ | refine W.ite_f (by assumption) ?_)
  refine W.ite (fun c' => ?_) (fun c' => ?_)
  · repeat (first | refine W.ite_t rfl ?_ | refine W.ite_f rfl ?_ | refine W.ite_t (by assumption) ?_ | refine W.ite_f (by assumption) ?_)
    exact W.pure ok12 rfl rfl (W.ret (RetQ.pure rfl rfl))
  simp only [decide_eq_false_iff_not] at *
  obtain ⟨N, rfl⟩ : ∃ N : Nat, n = (N : Int) := ⟨n.toNat, by omega⟩
  have hN : N ≤ 64 := by omega
  have o0 : lk0.ok := .mk' (by decide) (by simp) (by decide) (by decide)
  refine W.loop (fun k fr σ => ∃ i : Nat, fr = [(0, .d (nI N)), (3, .ptr 0 0), (4, .ptr 1 0), (5, .d (nI i))] ∧ σ = [.var (lkC ⟨List.replicate i tX, 0, 0, false⟩), .var (lkC lk0)] ∧ i ≤ 64 ∧ k = 64 - i) 64
    (Start.of [0, 3, 4, 5] [] (by simp)) ⟨0, rfl, rfl, by omega, rfl⟩ ?_
  rintro k fr σ ⟨i, rfl, rfl, hi, rfl⟩
  refine W.ite (fun c1 => ?_) (fun c1 => ?_)
  · have hil : i < 64 := by have := of_decide_eq_true c1; omega
    refine W.lk 0 [.var (lkC ⟨List.replicate i tX ++ [tX], 0, 0, false⟩), .var (lkC lk0)] (pushOk ⟨List.replicate i tX, 0, 0, false⟩ (lkOk (by simp; omega) (rep_size i) (by decide) (by decide) (by decide)) tX (by decide) (by simp; omega)) rfl rfl rfl rfl ?_
    repeat (first | refine W.ite_t rfl ?_ | refine W.ite_f rfl ?_)
    refine W.ret ⟨_, _, _, ?_, Trim.of [0, 3, 4, 5] [0, 1] (by decide) (by simp) (tr2 rfl), i + 1, ?_, ?_, by omega, rfl⟩
    · omega
    · rw [← wrapS (by omega)]; rfl
    · rw [List.replicate_succ']; rfl
  have hiN : i = 64 := by have := of_decide_eq_false c1; omega
  subst hiN
  have hUs := rep_size 64
  have hUl : (List.replicate 64 tX).length = 64 := by simp
  generalize List.replicate 64 tX = U at *
  have hUs' : ∀ s ∈ U, s.size ≤ 1970 := fun s hs => by have := hUs s hs; omega
  have o1 : (⟨U, 0, 0, false⟩ : Lk).ok := lkOk (by omega) hUs (by decide) (by decide) (by decide)
  refine W.ret ?_
  refine W.lk 0 [.var (lkC ⟨U, 0, 0, false⟩), .var (lkC lk0)] (pushFull ⟨U, 0, 0, false⟩ o1 tX (by decide) (by exact hUl)) rfl rfl rfl rfl ?_
  refine W.pure (Er.okIs linkW 0 4 4) rfl rfl ?_
  repeat (first | refine W.ite_t rfl ?_ | refine W.ite_f rfl ?_)
  refine W.need (by decide) ?_
  repeat (first | refine W.ite_t rfl ?_ | refine W.ite_f rfl ?_)
  refine W.need (zNeed 1971) ?_
  repeat (first | refine W.ite_t rfl ?_ | refine W.ite_f rfl ?_)
  have hz1 := zT_size 1971
  refine W.lk 1 [.var (lkC ⟨U, 0, 0, false⟩), .var (lkC lk0)] (pushLong lk0 o0 (zT 1971) (by omega)) rfl rfl rfl rfl ?_
  repeat (first | refine W.ite_t rfl ?_ | refine W.ite_f rfl ?_)
  refine W.pure (Er.okIs linkW 0 1 1) rfl rfl ?_
  repeat (first | refine W.ite_t rfl ?_ | refine W.ite_f rfl ?_)
  refine W.need (by decide) ?_
  repeat (first | refine W.ite_t rfl ?_ | refine W.ite_f rfl ?_)
  refine W.need (zNeed 1970) ?_
  repeat (first | refine W.ite_t rfl ?_ | refine W.ite_f rfl ?_)
  have hz2 := zT_size 1970
  refine W.lk 1 [.var (lkC ⟨U, 0, 0, false⟩), .var (lkC ⟨[zT 1970], 0, 0, false⟩)] (pushOk lk0 o0 (zT 1970) (by omega) (by decide)) rfl rfl rfl rfl ?_
  repeat (first | refine W.ite_t rfl ?_ | refine W.ite_f rfl ?_)
  generalize zT 1970 = Z at *
  have hVl : [Z].length = 1 := rfl
  have hVs : ∀ s ∈ [Z], s.size ≤ 1970 := fun s hs => by rw [List.mem_singleton.1 hs]; omega
  generalize hV : [Z] = V at *
  refine W.loop (fun k fr σ => ∃ (m cc w : Nat) (o : Bool), fr = [(0, .d (nI N)), (3, .ptr 0 0), (4, .ptr 1 0)] ∧ σ = [.var (lkC ⟨U.drop m, m, cc, o⟩), .var (lkC ⟨V.drop w, w, m, false⟩)] ∧ m ≤ N ∧ cc ≤ 1 ∧ w ≤ cc ∧ (w < cc → o = true) ∧ k = N - m) N
    (Start.of [0, 3, 4] [] (by simp)) ⟨0, 0, 0, false, rfl, by rw [← hV]; rfl, by omega, by omega, by omega, by omega, rfl⟩ ?_
  rintro k fr σ ⟨m, cc, w, o, rfl, rfl, hm, hcc, hw, ho, rfl⟩
  have hA : (⟨U.drop m, m, cc, o⟩ : Lk).ok := lkOk (by simp; omega) (ok_drop hUs) (by decide) (by omega) (by omega)
  have hB : (⟨V.drop w, w, m, false⟩ : Lk).ok := lkOk (by simp; omega) (ok_drop hVs) (by decide) (by omega) (by omega)
  refine W.ite (fun c2 => ?_) (fun c2 => ?_)
  · have hmN : m < N := by have : (m : Int) < (N : Int) := of_decide_eq_true c2; omega
    have hne : U.drop m ≠ [] := fun h => by have := congrArg List.length h; simp at this; omega
    have hD : ((U.drop m).take 8).length = min 8 (U.length - m) := drop_len'
    have hDs : ∀ s ∈ (U.drop m).take 8, s.size ≤ 1970 := fun s hs => hUs' s (List.mem_of_mem_drop (List.mem_of_mem_take hs))
    have hpk : packets ⟨U.drop m, m, cc, o⟩ = pks cc m ((U.drop m).take 8) := packets_q hne
    generalize (U.drop m).take 8 = D at hD hDs hpk
    have hpl := pks_len cc D m
    have hack : ack ⟨V.drop w, w, m, false⟩ (cc : Int) = ⟨V.drop cc, cc, m, false⟩ := by
      rw [ack_all hw (by simp; omega), List.drop_drop, show w + (cc - w) = cc from by omega]
    refine W.lk 0 [.var (lkC ⟨U.drop m, m, cc, false⟩), .var (lkC ⟨V.drop w, w, m, false⟩)] (packetsOk ⟨U.drop m, m, cc, o⟩ hA hpk) rfl rfl rfl rfl ?_
    refine W.loop (fun k fr σ => ∃ (j : Nat), fr = [(0, .d (nI N)), (3, .ptr 0 0), (4, .ptr 1 0), (6, .d (nI m)), (49, slS (pks cc m D)), (50, .d (nI (pks cc m D).length)), (51, .d (nI j))] ∧ σ = [.var (lkC ⟨U.drop m, m, cc, false⟩), .var (lkC (adv ⟨V.drop w, w, m, false⟩ cc (min j (N - m))))] ∧ j ≤ D.length ∧ k = D.length - j) D.length
      (Start.of [0, 3, 4, 6, 49, 50, 51] [] (by simp)) ⟨0, rfl, by rw [Nat.zero_min]; rfl, by omega, rfl⟩ ?_
    rintro k fr σ ⟨j, rfl, rfl, hj, rfl⟩
    refine W.ite (fun c3 => ?_) (fun c3 => ?_)
    · have hjl : j < D.length := by have := of_decide_eq_true c3; omega
      have hps := pks_get' (c := cc) (a := m) hjl
      have hsz := hDs (D.getD j mt) (by rw [List.getD_eq_getElem?_getD, List.getElem?_eq_getElem hjl]; simp)
      generalize D.getD j mt = s at hps hsz
      have hcv : (((adv ⟨V.drop w, w, m, false⟩ cc (min j (N - m))).c : Nat) : Int) = ((m + min j (N - m) : Nat) : Int) := by rw [adv_c]
      refine W.need (ix_ok sC_len (by decide) (by rw [hpl]; exact hjl)) ?_
      refine W.ld (sE hps) ?_
      refine W.ite (fun c4 => ?_) (fun c4 => ?_)
      · have c4 : decide (((adv ⟨V.drop w, w, m, false⟩ cc (min j (N - m))).c : Int) < (N : Int)) = true := c4
        rw [hcv] at c4
        have p4 := of_decide_eq_true c4
        have hmj : min j (N - m) = j := by omega
        have hmj' : min (j + 1) (N - m) = j + 1 := by omega
        rw [hmj]
        have ht := takeOk (adv ⟨V.drop w, w, m, false⟩ cc j) (adv_ok hB (by omega) (by show m + j ≤ _; omega)) (n := ((m + j : Nat) : Int)) (c := ((cc : Nat) : Int)) (s := s) (by omega) (by omega) (by omega) (take_adv ⟨V.drop w, w, m, false⟩ cc j s)
        refine W.lk 1 [.var (lkC ⟨U.drop m, m, cc, false⟩), .var (lkC (adv ⟨V.drop w, w, m, false⟩ cc (j + 1)))] ht rfl rfl rfl rfl ?_
        refine W.ret ⟨_, _, _, ?_, Trim.of [0, 3, 4, 6, 49, 50, 51] [0, 1] (by decide) (by simp) (tr2 rfl), j + 1, ?_, ?_, by omega, rfl⟩
        · omega
        · rw [← wrapS (by omega)]; rfl
        · rw [hmj']; rfl
      · have c4 : decide (((adv ⟨V.drop w, w, m, false⟩ cc (min j (N - m))).c : Int) < (N : Int)) = false := c4
        rw [hcv] at c4
        have p4 := of_decide_eq_false c4
        have hmj' : min (j + 1) (N - m) = min j (N - m) := by omega
        refine W.ret ⟨_, _, _, ?_, Trim.of [0, 3, 4, 6, 49, 50, 51] [0, 1] (by decide) (by simp) (tr2 rfl), j + 1, ?_, ?_, by omega, rfl⟩
        · omega
        · rw [← wrapS (by omega)]; rfl
        · rw [hmj']; rfl
    · have hjl : j = D.length := by have := of_decide_eq_false c3; omega
      subst hjl
      obtain ⟨d, hd⟩ : ∃ d, min D.length (N - m) = d := ⟨_, rfl⟩
      have hd1 : 1 ≤ d ∧ m + d ≤ N := by omega
      rw [hd]
      have hadv : adv ⟨V.drop w, w, m, false⟩ cc d = ⟨V.drop cc, cc, m + d, true⟩ := by
        unfold adv
        rw [if_neg (by omega), hack]
      rw [hadv]
      have f1 : (((m + d : Nat) : Int) == ((m : Nat) : Int)) = false := by rw [beq_eq_false_iff_ne]; omega
      refine W.ret ?_
      repeat (first | refine W.ite_f f1 ?_ | refine W.ite_t rfl ?_ | refine W.ite_f rfl ?_)
      have hQ : (⟨V.drop cc, cc, m + d, true⟩ : Lk).ok := lkOk (by simp; omega) (ok_drop hVs) (by decide) (by omega) (by omega)
      obtain ⟨K, Rs, n, s, t, b, Dl, T1, e1, e2⟩ := trans (U := V) (V := U) (a := cc) (c := m + d) (w := m) (o := true) (by omega) hVs (by omega) hUs' (by omega) (by omega) (by omega) (fun _ => .inr rfl)
      clear hd
      refine W.lk 1 [.var (lkC ⟨U.drop m, m, cc, false⟩), .var (lkC ⟨V.drop cc, cc, m + d, false⟩)] (packetsOk ⟨V.drop cc, cc, m + d, true⟩ hQ T1.pkt) rfl rfl rfl rfl ?_
      refine W.loop (fun k fr σ => ∃ (j : Nat), fr = [(0, .d (nI N)), (3, .ptr 0 0), (4, .ptr 1 0), (66, slS K), (67, .d (nI K.length)), (68, .d (nI j))] ∧ σ = [.var (lkC (Rs j)), .var (lkC ⟨V.drop cc, cc, m + d, false⟩)] ∧ j ≤ K.length ∧ k = K.length - j) K.length
        (Start.of [0, 3, 4, 66, 67, 68] [] (by simp)) ⟨0, rfl, by rw [T1.r0]; rfl, by omega, rfl⟩ ?_
      rintro k fr σ ⟨j, rfl, rfl, hj, rfl⟩
      have hK8 := T1.len
      refine W.ite (fun c5 => ?_) (fun c5 => ?_)
      · have hjl : j < K.length := by have := of_decide_eq_true c5; omega
        refine W.need (ix_ok sC_len (by decide) hjl) ?_
        refine W.ld (sE (T1.get j hjl)) ?_
        refine W.lk 0 [.var (lkC (Rs (j + 1))), .var (lkC ⟨V.drop cc, cc, m + d, false⟩)] (T1.take (by show m + d ≤ _; omega) hjl) rfl rfl rfl rfl ?_
        refine W.ret ⟨_, _, _, ?_, Trim.of [0, 3, 4, 66, 67, 68] [0, 1] (by decide) (by simp) (tr2 rfl), j + 1, ?_, rfl, by omega, rfl⟩
        · omega
        · rw [← wrapS (by omega)]; rfl
      · have hjl : j = K.length := by have := of_decide_eq_false c5; omega
        subst hjl
        rw [e1]
        refine W.ret ?_
        refine W.ret ⟨_, _, _, ?_, Trim.of [0, 3, 4] [0, 1] (by decide) (by simp) (tr2 rfl), m + d, cc + min 8 (V.length - cc), cc, decide (0 < min 8 (V.length - cc)), rfl, rfl, by omega, by omega, by omega, fun h => decide_eq_true (by omega), rfl⟩
        omega
  · have hmN : m = N := by have : ¬ (m : Int) < (N : Int) := of_decide_eq_false c2; omega
    subst hmN
    refine W.ret ?_
    refine W.loop (fun k fr σ => ∃ (i : Nat), fr = [(0, .d (nI m)), (3, .ptr 0 0), (11, .d (nI i))] ∧ σ = [.var (lkC ⟨U.drop m ++ List.replicate i tY, m, cc, o⟩), .var (lkC ⟨V.drop w, w, m, false⟩)] ∧ i ≤ m ∧ k = m - i) m
      (Start.of [0, 3, 11] [] (by simp)) ⟨0, rfl, by rw [List.replicate_zero, List.append_nil]; rfl, by omega, rfl⟩ ?_
    rintro k fr σ ⟨i, rfl, rfl, hi, rfl⟩
    have hq : (U.drop m ++ List.replicate i tY).length = 64 - m + i := by simp; omega
    have hqs : ∀ s ∈ U.drop m ++ List.replicate i tY, s.size ≤ 1 := fun s hs => by
      rcases List.mem_append.1 hs with hs | hs
      · exact hUs s (List.mem_of_mem_drop hs)
      · rw [List.eq_of_mem_replicate hs]; decide
    have hok : (⟨U.drop m ++ List.replicate i tY, m, cc, o⟩ : Lk).ok := lkOk (by omega) hqs (by decide) (by omega) (by omega)
    refine W.ite (fun c6 => ?_) (fun c6 => ?_)
    · have him : i < m := by have := of_decide_eq_true c6; omega
      refine W.lk 0 [.var (lkC ⟨(U.drop m ++ List.replicate i tY) ++ [tY], m, cc, o⟩), .var (lkC ⟨V.drop w, w, m, false⟩)] (pushOk ⟨U.drop m ++ List.replicate i tY, m, cc, o⟩ hok tY (by decide) (by show (U.drop m ++ List.replicate i tY).length < 64; omega)) rfl rfl rfl rfl ?_
      repeat (first | refine W.ite_t rfl ?_ | refine W.ite_f rfl ?_)
      refine W.ret ⟨_, _, _, ?_, Trim.of [0, 3, 11] [0, 1] (by decide) (by simp) (tr2 rfl), i + 1, ?_, ?_, by omega, rfl⟩
      · omega
      · rw [← wrapS (by omega)]; rfl
      · rw [List.replicate_succ', ← List.append_assoc]; rfl
    · have him : i = m := by have := of_decide_eq_false c6; omega
      subst him
      refine W.ret ?_
      refine W.pure ok12 rfl rfl ?_
      repeat (first | refine W.ite_t rfl ?_ | refine W.ite_f rfl ?_)
      refine W.lk 0 [.var (lkC ⟨U.drop i ++ List.replicate i tY, i, cc, o⟩), .var (lkC ⟨V.drop w, w, i, false⟩)] (pushFull ⟨U.drop i ++ List.replicate i tY, i, cc, o⟩ hok tY (by decide) (by show (U.drop i ++ List.replicate i tY).length = 64; omega)) rfl rfl rfl rfl ?_
      repeat (first | refine W.ite_t rfl ?_ | refine W.ite_f rfl ?_)
      refine W.pure (Er.okIs linkW 0 4 4) rfl rfl ?_
      repeat (first | refine W.ite_t rfl ?_ | refine W.ite_f rfl ?_)
      exact W.ret (RetQ.pure rfl rfl)
end Go.Proofs.Ytpemfjnjkjckoaa.Lk
