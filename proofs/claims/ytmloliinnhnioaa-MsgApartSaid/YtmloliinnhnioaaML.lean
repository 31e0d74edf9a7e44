import Derived.Test.YtmloliinnhnioaaMT
set_option maxRecDepth 100000
set_option linter.unusedVariables false
set_option linter.unusedSimpArgs false
/- Layer 15: the laws MsgBack, MsgCut, MsgKinds, MsgApart. -/
namespace Go.Proofs.Ytmloliinnhnioaa.Ms
open Go Go.Am Co
def od3 : Ords := [(5, [0, 1, 2, 3, 5, 4, 1006, 1007, 8, 9])]
theorem code3 : codeB Try.f3.ntmps od3 (match Try.f3.body with | some c => c | none => .skip) = true := by kernel_rfl
def od4 : Ords := []
theorem code4 : codeB Try.f4.ntmps od4 (match Try.f4.body with | some c => c | none => .skip) = true := by kernel_rfl
def od5 : Ords := []
theorem code5 : codeB Try.f5.ntmps od5 (match Try.f5.body with | some c => c | none => .skip) = true := by kernel_rfl
def od6 : Ords := []
theorem code6 : codeB Try.f6.ntmps od6 (match Try.f6.body with | some c => c | none => .skip) = true := by kernel_rfl
theorem bytes_cases (m : Mg) : (checkB m = 0 ∧ (bytesM m).length ≤ 1970 ∧ bytes m = (bA (bytesM m), 0)) ∨ ∃ c, (c = 1 ∨ c = 11 ∨ c = 4) ∧ bytes m = (mt, c) := by
  by_cases hc : checkB m = 0
  · by_cases hl : (bytesM m).length ≤ 1970
    · exact .inl ⟨hc, hl, bytes_ok hc hl⟩
    · exact .inr ⟨4, by omega, by unfold bytes; rw [if_neg (by omega), if_pos (by omega)]⟩
  · refine .inr ⟨checkB m, ?_, by unfold bytes; rw [if_pos hc]⟩
    rcases checkB_cases m with h | h | h <;> omega
theorem readM_cases (s : ByteArray) : (∃ m, readM s = (m, .lit .nilIface)) ∨ ∃ w a c, readM s = (zeroM, ftD w a c) := by
  by_cases hs : s.size > 1970
  · exact .inr ⟨_, _, _, readM_big hs⟩
  cases hr : rawM s with
  | none => exact .inr ⟨_, _, _, readM_none hs hr⟩
  | some x =>
    obtain ⟨m', a, e⟩ := x
    cases hE : doneE s a e with
    | some x => exact .inr ⟨_, _, _, readM_bad hs hr hE⟩
    | none =>
      by_cases hc : checkB m' = 0
      · exact .inl ⟨_, readM_good hs hr hE hc⟩
      · refine .inr ⟨msgW, 0, checkB m', ?_⟩
        rw [readM_check hs hr hE rfl hc, errC, if_neg hc]
theorem rdV_r (s : ByteArray) : ∀ (n a : Nat) (e : Err), ∀ x ∈ (rdV s n a e).1, R64 x.1
  | 0, _, _, x, h => by simp [rdV] at h
  | n + 1, a, e, x, h => by
    rw [rdV] at h
    simp only [List.mem_append, List.mem_singleton] at h
    rcases h with h | h
    · exact rdV_r s n a e x h
    · subst h
      exact readI_r s _ _
theorem rawM_v {s : ByteArray} {m : Mg} {a : Nat} {e : Err} (h : rawM s = some (m, a, e)) : ∀ x ∈ m.v, R64 x.1 := by
  unfold rawM rawB raw1 raw5 raw34 at h
  dsimp only at h
  split at h
  · split at h
    · simp at h
    · simp only [Option.some.injEq, Prod.mk.injEq] at h
      rw [← h.1]; simp
  · split at h
    · simp only [Option.some.injEq, Prod.mk.injEq] at h
      rw [← h.1]; simp
    · split at h
      · simp only [Option.some.injEq, Prod.mk.injEq] at h
        rw [← h.1]; exact rdV_r s _ _ _
      · simp only [Option.some.injEq, Prod.mk.injEq] at h
        rw [← h.1]; simp
theorem good_ok34 {m : Mg} (hg : Good m) (hv : ∀ x ∈ m.v, R64 x.1) (hl : (bytesM m).length ≤ 1970) (h : m.k = 3 ∨ m.k = 4) : m.ok := by
  have hgs := hg.g.2
  have hk := hg.k345 (by omega)
  have hn := (hg.n1 (by omega)).2
  rw [bytesM_k34 h] at hl
  simp only [List.length_append] at hl
  refine ⟨⟨by omega, by omega⟩, by omega, by rw [hn]; simp, fun x hx => by rw [hn] at hx; simp at hx, ⟨by omega, by omega⟩, ⟨by omega, by omega⟩, ⟨by omega, by omega⟩, by omega, fun x hx => ⟨hv x hx, ?_⟩, ?_⟩
  · have w1 := flat_mem (c := encV) hx
    have w2 := encT_size x.2
    rw [encV, List.length_append] at w1
    omega
  · have := encT_size m.t
    omega
theorem good_ok {m : Mg} (hg : Good m) (hv : ∀ x ∈ m.v, R64 x.1) (hl : (bytesM m).length ≤ 1970) : m.ok := by
  have hgs := hg.g.2
  rcases hg.k with h | h | h | h | h
  · obtain ⟨p, q, hh, v, ht⟩ := plain_of (hg.k12 (.inl h))
    have hf := (hg.k1 h).2
    rw [bytesM_k1 h] at hl
    simp only [List.length_append] at hl
    refine ⟨⟨by omega, by omega⟩, by omega, by omega, fun x hx => ?_, ⟨by omega, by omega⟩, ⟨by omega, by omega⟩, ⟨by omega, by omega⟩, by rw [v]; simp, fun x hx => by rw [v] at hx; simp at hx, by rw [tEq ht]; decide⟩
    have := flat_mem (c := encT) hx
    have := encT_size x
    omega
  · obtain ⟨p, q, hh, v, ht⟩ := plain_of (hg.k12 (.inr h))
    have hn := (hg.n1 (by omega)).2
    exact ⟨⟨by omega, by omega⟩, by omega, by rw [hn]; simp, fun x hx => by rw [hn] at hx; simp at hx, ⟨by omega, by omega⟩, ⟨by omega, by omega⟩, ⟨by omega, by omega⟩, by rw [v]; simp, fun x hx => by rw [v] at hx; simp at hx, by rw [tEq ht]; decide⟩
  · exact good_ok34 hg hv hl (.inl h)
  · exact good_ok34 hg hv hl (.inr h)
  · have hk := hg.k345 (by omega)
    obtain ⟨v, ht⟩ := hg.k5 h
    have hn := (hg.n1 (by omega)).2
    exact ⟨⟨by omega, by omega⟩, by omega, by rw [hn]; simp, fun x hx => by rw [hn] at hx; simp at hx, ⟨by omega, by omega⟩, ⟨by omega, by omega⟩, ⟨by omega, by omega⟩, by rw [v]; simp, fun x hx => by rw [v] at hx; simp at hx, by rw [tEq ht]; decide⟩
theorem rd_ok {s : ByteArray} {m : Mg} (h : readM s = (m, .lit .nilIface)) : s.size ≤ 1970 ∧ checkB m = 0 ∧ s = bA (bytesM m) ∧ m.ok ∧ (bytesM m).length ≤ 1970 := by
  obtain ⟨h1, h2, h3⟩ := readM_inv h
  have hl : (bytesM m).length ≤ 1970 := by have : (bA (bytesM m)).size = (bytesM m).length := rfl; rw [← this, ← h3]; exact h1
  refine ⟨h1, h2, h3, good_ok (good_of h2) ?_ hl, hl⟩
  cases hr : rawM s with
  | none => rw [readM_none (by omega) hr] at h; simp at h
  | some x =>
    obtain ⟨m', a, e⟩ := x
    cases hE : doneE s a e with
    | some x => rw [readM_bad (by omega) hr hE] at h; simp [errD] at h
    | none =>
      by_cases hc : checkB m' = 0
      · rw [readM_good (by omega) hr hE hc] at h
        simp only [Prod.mk.injEq, and_true] at h
        subst h
        exact rawM_v hr
      · rw [readM_check (by omega) hr hE rfl hc] at h
        simp [errC, hc] at h
/-- No message's bytes begin another's. -/
theorem prefix_eq {m m' : Mg} (hc : checkB m = 0) (hc' : checkB m' = 0) (ho : m.ok) (ho' : m'.ok) (hl : (bytesM m).length ≤ 1970) (hl' : (bytesM m').length ≤ 1970) {rest : List UInt8} (h : bytesM m = bytesM m' ++ rest) : m = m' ∧ rest = [] := by
  have h1 := rawM_enc (rest := []) (good_of hc) ho hl (s := bA (bytesM m)) (by rw [dr_mk, List.append_nil])
  have h2 := rawM_enc (rest := rest) (good_of hc') ho' hl' (s := bA (bytesM m)) (by rw [dr_mk, h])
  rw [h1] at h2
  simp only [Option.some.injEq, Prod.mk.injEq, and_true] at h2
  refine ⟨h2.1, ?_⟩
  have h3 := h2.2
  rw [h, List.length_append] at h3
  exact List.eq_nil_of_length_eq_zero (by omega)
theorem cut_bad {m : Mg} (hc : checkB m = 0) (ho : m.ok) (hl : (bytesM m).length ≤ 1970) {n : Nat} (hn : n < (bytesM m).length) : ∃ w a c, readM ((bA (bytesM m)).extract 0 n) = (zeroM, ftD w a c) := by
  rcases readM_cases ((bA (bytesM m)).extract 0 n) with ⟨m', h⟩ | h
  · obtain ⟨h1, h2, h3, h4, h5⟩ := rd_ok h
    have he : bytesM m' = (bytesM m).take n := by
      have := congrArg (fun x => x.data.toList) h3
      simpa [ByteArray.data_extract] using this.symm
    have h6 := prefix_eq hc h2 ho h4 hl h5 (rest := (bytesM m).drop n) (by rw [he, List.take_append_drop])
    have := congrArg List.length h6.2
    simp at this
    omega
  · exact h
theorem add_bad {m : Mg} (hc : checkB m = 0) (ho : m.ok) (hl : (bytesM m).length ≤ 1970) (b : List UInt8) (hb : b ≠ []) : ∃ w a c, readM (bA (bytesM m) ++ bA b) = (zeroM, ftD w a c) := by
  rcases readM_cases (bA (bytesM m) ++ bA b) with ⟨m', h⟩ | h
  · obtain ⟨h1, h2, h3, h4, h5⟩ := rd_ok h
    have he : bytesM m' = bytesM m ++ b := by
      have := congrArg (fun x => x.data.toList) h3
      simpa using this.symm
    exact absurd (prefix_eq h2 hc h4 ho h5 hl he).2 hb
  · exact h
theorem mk_true {b : Bool} (h : b = true) : mkRet [AV.d (.lit (.bool b))] = bI true := by subst h; rfl
/-- Numbers that fit, in a message as it's handed in. -/
structure Mg.num (m : Mg) : Prop where
  k : R64 m.k
  p : R64 m.p
  q : R64 m.q
  h : R64 m.h
  v : ∀ x ∈ m.v, R64 x.1
theorem cutM_ok {m : Mg} (h : m.num) : (cutM m).ok := by
  have c1 := cut_size m.g 50
  have c2 := cut_size m.t 2100
  refine ⟨h.k, by show (cut m.g 50).size ≤ _; omega, by simp [cutM]; omega, fun s hs => ?_, h.p, h.q, h.h, by simp [cutM, vals6]; omega, fun x hx => ?_, by show (cut m.t 2100).size ≤ _; omega⟩
  · simp only [cutM, List.mem_map] at hs
    obtain ⟨y, _, rfl⟩ := hs
    have := cut_size y 400
    omega
  · simp only [cutM, vals6, List.mem_map] at hx
    obtain ⟨y, hy, rfl⟩ := hx
    have := cut_size y.2 50
    exact ⟨h.v y (List.mem_of_mem_take hy), by show (cut y.2 50).size ≤ _; omega⟩
set_option maxHeartbeats 16000000 in
theorem ok3 (m : Mg) (hm : m.num) (t : ByteArray) : Go.Am.Pure Try.prog 3 [mgG m, .d (sD t)] (bI true) := by
  have kc := ok7 m
  have ho := cutM_ok hm
  generalize cutM m = m at kc ho
  rename_i m0
  refine CallOk.of tysOk mixed od3 Try.func3 rfl rfl code3 ?_
  refine W.pure kc rfl rfl ?_
  have kb := ok8 m ho
  have kt := ok12 t 2000
  have ht := cut_size t 2000
  generalize cut t 2000 = s2 at *
  have rest : True := trivial
  have kr := ok9 s2 (by omega)
  rcases bytes_cases m with ⟨hc, hl, hb⟩ | ⟨c, hc, hb⟩
  · rw [hb] at kb
    have k1 := ok9 (bA (bytesM m)) (by show (bytesM m).length ≤ _; omega)
    rw [readM_ok hc ho hl] at k1
    have k2 := ok11 m
    have hof := ho.f
    have hov := ho.v
    have k3 := ok10 (toldM m) (by show m.f.length ≤ _; omega) (by simp [toldM, vals6]; omega)
    generalize bA (bytesM m) = b1 at *
    generalize toldM m = m1 at *
    refine W.pure kb rfl rfl ?_
    repeat (first | refine W.ite_t rfl ?_ | refine W.ite_f rfl ?_)
    refine W.pure k1 rfl rfl ?_
    repeat (first | refine W.ite_t rfl ?_ | refine W.ite_f rfl ?_)
    refine W.pure k2 rfl rfl ?_
    repeat (first | refine W.ite_t rfl ?_ | refine W.ite_f rfl ?_)
    refine W.pure k2 rfl rfl ?_
    repeat (first | refine W.ite_t rfl ?_ | refine W.ite_f rfl ?_)
    refine W.pure k3 rfl rfl ?_
    repeat (first | refine W.ite_t rfl ?_ | refine W.ite_f rfl ?_)
    refine W.pure kt rfl rfl ?_
    rcases readM_cases s2 with ⟨r, hr⟩ | ⟨w, a, c, hr⟩
    · obtain ⟨r1, r2, r3, r4, r5⟩ := rd_ok hr
      rw [hr] at kr
      have k5 := ok8 r r4
      rw [bytes_ok r2 r5, ← r3] at k5
      refine W.pure kr rfl rfl ?_
      repeat (first | refine W.ite_t rfl ?_ | refine W.ite_f rfl ?_)
      refine W.pure k5 rfl rfl ?_
      refine W.pure ok13 rfl rfl ?_
      repeat (first | refine W.ite_t rfl ?_ | refine W.ite_f rfl ?_)
      exact W.ret (RetQ.pure rfl (mk_true (toList_beq s2)))
    · rw [hr] at kr
      refine W.pure kr rfl rfl ?_
      repeat (first | refine W.ite_t rfl ?_ | refine W.ite_f rfl ?_)
      refine W.pure ok13 rfl rfl ?_
      exact W.ret (RetQ.pure rfl rfl)
  · rw [hb] at kb
    rcases hc with rfl | rfl | rfl
    all_goals
      refine W.pure kb rfl rfl ?_
      repeat (first | refine W.ite_t rfl ?_ | refine W.ite_f rfl ?_)
      refine W.pure kt rfl rfl ?_
      rcases readM_cases s2 with ⟨r, hr⟩ | ⟨w, a, c, hr⟩
      · obtain ⟨r1, r2, r3, r4, r5⟩ := rd_ok hr
        rw [hr] at kr
        have k5 := ok8 r r4
        rw [bytes_ok r2 r5, ← r3] at k5
        refine W.pure kr rfl rfl ?_
        repeat (first | refine W.ite_t rfl ?_ | refine W.ite_f rfl ?_)
        refine W.pure k5 rfl rfl ?_
        refine W.pure ok13 rfl rfl ?_
        repeat (first | refine W.ite_t rfl ?_ | refine W.ite_f rfl ?_)
        exact W.ret (RetQ.pure rfl (mk_true (toList_beq s2)))
      · rw [hr] at kr
        refine W.pure kr rfl rfl ?_
        repeat (first | refine W.ite_t rfl ?_ | refine W.ite_f rfl ?_)
        refine W.pure ok13 rfl rfl ?_
        exact W.ret (RetQ.pure rfl rfl)
set_option maxHeartbeats 16000000 in
theorem ok4 (m : Mg) (hm : m.num) (at_ : Int) (b : Int) (hb0 : 0 ≤ b) (hb1 : b < 256) : Go.Am.Pure Try.prog 4 [mgG m, .d (nI at_), .d (.lit (.int .u8 b))] (bI true) := by
  have kc := ok7 m
  have ho := cutM_ok hm
  generalize cutM m = m at kc ho
  rename_i m0
  refine CallOk.of tysOk mixed od4 Try.func4 rfl rfl code4 ?_
  refine W.pure kc rfl rfl ?_
  have kb := ok8 m ho
  rcases bytes_cases m with ⟨hc, hl, hb⟩ | ⟨c, hc, hb⟩
  · rw [hb] at kb
    dsimp only at kb
    refine W.pure kb rfl rfl ?_
    repeat (first | refine W.ite_t rfl ?_ | refine W.ite_f rfl ?_)
    refine W.ite (fun c1 => ?_) (fun c1 => ?_)
    · repeat (first | refine W.ite_t c1 ?_ | refine W.ite_t rfl ?_ | refine W.ite_f rfl ?_)
      refine W.pure ok13 rfl rfl ?_
      exact W.ret (RetQ.pure rfl rfl)
    have h0 := of_decide_eq_false c1
    repeat (first | refine W.ite_f c1 ?_ | refine W.ite_t rfl ?_ | refine W.ite_f rfl ?_)
    refine W.ite (fun c2 => ?_) (fun c2 => ?_)
    · repeat (first | refine W.ite_t c2 ?_ | refine W.ite_t rfl ?_ | refine W.ite_f rfl ?_)
      refine W.pure ok13 rfl rfl ?_
      exact W.ret (RetQ.pure rfl rfl)
    have h1 : at_ < ((bytesM m).length : Nat) := by have := of_decide_eq_false c2; have hsz : (bA (bytesM m)).size = (bytesM m).length := rfl; omega
    repeat (first | refine W.ite_f c2 ?_ | refine W.ite_t rfl ?_ | refine W.ite_f rfl ?_)
    have hsz : (bA (bytesM m)).size = (bytesM m).length := rfl
    refine W.need ⟨by omega, by omega⟩ ?_
    obtain ⟨n, rfl⟩ : ∃ n : Nat, at_ = (n : Int) := ⟨at_.toNat, by omega⟩
    obtain ⟨w, a, c, hr⟩ := cut_bad hc ho hl (n := n) (by omega)
    have kr := ok9 ((bA (bytesM m)).extract 0 n) (by simp; omega)
    rw [hr] at kr
    refine W.pure kr rfl rfl ?_
    refine W.alt_l ?_
    refine W.need ⟨rfl, rfl, by intro x hx; rw [List.mem_singleton] at hx; subst hx; exact ⟨rfl, hb0, hb1⟩⟩ ?_
    have hsb : (bytesOf [D.lit (.int .u8 b)]).size = 1 := rfl
    refine W.need (by rw [maxI]; omega) ?_
    obtain ⟨w', a', c', hr'⟩ := add_bad hc ho hl [UInt8.ofNat b.toNat] (by simp)
    have kr' := ok9 (bA (bytesM m) ++ bA [UInt8.ofNat b.toNat]) (by rw [ByteArray.size_append]; show _ + 1 ≤ _; omega)
    rw [hr'] at kr'
    refine W.pure kr' rfl rfl ?_
    refine W.pure ok13 rfl rfl ?_
    repeat (first | refine W.ite_t rfl ?_ | refine W.ite_f rfl ?_)
    exact W.ret (RetQ.pure rfl rfl)
  · rw [hb] at kb
    rcases hc with rfl | rfl | rfl
    all_goals
      refine W.pure kb rfl rfl ?_
      repeat (first | refine W.ite_t rfl ?_ | refine W.ite_f rfl ?_)
      refine W.pure ok13 rfl rfl ?_
      exact W.ret (RetQ.pure rfl rfl)
def kind0 (m : Mg) : Mg := { m with h := if m.k = 3 then 66 else 1 }
theorem bad {n : Mg} (h : ¬ Good n) : ∃ c, (c = 1 ∨ c = 11) ∧ checkB n = c := by
  rcases checkB_cases n with hc | hc | hc
  · exact absurd (good_of hc) h
  · exact ⟨1, .inl rfl, hc⟩
  · exact ⟨11, .inr rfl, hc⟩
theorem k_plain {m : Mg} (hg : Good m) (n : Mg) (hk : n.k = m.k) (hq : n.q = -1) : ¬ Good n := fun h => by
  rcases hg.k with e | e | e | e | e
  · have := (plain_of (h.k12 (.inl (by omega)))).2.1; omega
  · have := (plain_of (h.k12 (.inr (by omega)))).2.1; omega
  all_goals
    have := (h.k345 (by omega)).1; omega
set_option maxHeartbeats 16000000 in
theorem ok5 (m : Mg) (hm : m.num) (how : Int) : Go.Am.Pure Try.prog 5 [mgG m, .d (nI how)] (bI true) := by
  have kc := ok7 m
  have ho := cutM_ok hm
  generalize cutM m = m at kc ho
  rename_i m0
  refine CallOk.of tysOk mixed od5 Try.func5 rfl rfl code5 ?_
  refine W.pure kc rfl rfl ?_
  have kk := ok14 m
  rcases checkB_cases m with hc | hc | hc
  · have hg := good_of hc
    have fin : ∀ n : Mg, ¬ Good n → True := fun _ _ => trivial
    rw [hc] at kk
    refine W.pure kk rfl rfl ?_
    repeat (first | refine W.ite_t rfl ?_ | refine W.ite_f rfl ?_)
    by_cases h0 : how = 0
    · subst h0
      repeat (first | refine W.ite_t rfl ?_ | refine W.ite_f rfl ?_)
      cases k3 : (m.k == 3) with
      | true =>
        repeat (first | refine W.ite_t k3 ?_ | refine W.ite_t rfl ?_ | refine W.ite_f rfl ?_)
        have kn := ok14 ({ m with h := 66 })
        obtain ⟨c, hcc, hcn⟩ := bad (n := { m with h := 66 }) (fun h => by have h1 : m.k = 3 := eq_of_beq k3; have h2 : (66 : Int) ≤ 65 := (h.k345 (.inl h1)).1.2.2.2.2.2; omega)
        rw [hcn] at kn
        refine W.pure ok13 rfl rfl ?_
        repeat (first | refine W.ite_t rfl ?_ | refine W.ite_f rfl ?_)
        rcases hcc with rfl | rfl
        all_goals
          refine W.pure kn rfl rfl ?_
          repeat (first | refine W.ite_t rfl ?_ | refine W.ite_f rfl ?_)
          exact W.ret (RetQ.pure rfl rfl)
      | false =>
        repeat (first | refine W.ite_f k3 ?_ | refine W.ite_t rfl ?_ | refine W.ite_f rfl ?_)
        have kn := ok14 ({ m with h := 1 })
        obtain ⟨c, hcc, hcn⟩ := bad (n := { m with h := 1 }) (fun h => by have h1 : m.k ≠ 3 := (by simpa using k3); have h2 : (1 : Int) = 0 := h.n3 h1; omega)
        rw [hcn] at kn
        refine W.pure ok13 rfl rfl ?_
        repeat (first | refine W.ite_t rfl ?_ | refine W.ite_f rfl ?_)
        rcases hcc with rfl | rfl
        all_goals
          refine W.pure kn rfl rfl ?_
          repeat (first | refine W.ite_t rfl ?_ | refine W.ite_f rfl ?_)
          exact W.ret (RetQ.pure rfl rfl)
    have e0 : (how == 0) = false := by simpa using h0
    by_cases h1 : how = 1
    · subst h1
      repeat (first | refine W.ite_t rfl ?_ | refine W.ite_f rfl ?_)
      cases k1 : (m.k == 1) with
      | true =>
        repeat (first | refine W.ite_t k1 ?_ | refine W.ite_t rfl ?_ | refine W.ite_f rfl ?_)
        cases k2 : ((m.f.length : Int) == 0) with
        | true =>
          repeat (first | refine W.ite_t k1 ?_ | refine W.ite_t k2 ?_ | refine W.ite_t rfl ?_ | refine W.ite_f rfl ?_)
          refine W.pure ok13 rfl rfl ?_
          exact W.ret (RetQ.pure rfl rfl)
        | false =>
          repeat (first | refine W.ite_t k1 ?_ | refine W.ite_f k2 ?_ | refine W.ite_t rfl ?_ | refine W.ite_f rfl ?_)
          have kn := ok14 ({ m with any := true })
          obtain ⟨c, hcc, hcn⟩ := bad (n := { m with any := true }) (fun h => by have h1 : m.k = 1 := eq_of_beq k1; have h2 : m.f = [] := (h.k1 h1).1 rfl; rw [h2] at k2; simp at k2)
          rw [hcn] at kn
          refine W.pure ok13 rfl rfl ?_
          repeat (first | refine W.ite_t rfl ?_ | refine W.ite_f rfl ?_)
          rcases hcc with rfl | rfl
          all_goals
            refine W.pure kn rfl rfl ?_
            repeat (first | refine W.ite_t rfl ?_ | refine W.ite_f rfl ?_)
            exact W.ret (RetQ.pure rfl rfl)
      | false =>
        repeat (first | refine W.ite_f k1 ?_ | refine W.ite_t rfl ?_ | refine W.ite_f rfl ?_)
        have kn := ok14 ({ m with any := true })
        obtain ⟨c, hcc, hcn⟩ := bad (n := { m with any := true }) (fun h => by have h1 : m.k ≠ 1 := (by simpa using k1); have h2 : true = false := (h.n1 h1).1; simp at h2)
        rw [hcn] at kn
        refine W.pure ok13 rfl rfl ?_
        repeat (first | refine W.ite_t rfl ?_ | refine W.ite_f rfl ?_)
        rcases hcc with rfl | rfl
        all_goals
          refine W.pure kn rfl rfl ?_
          repeat (first | refine W.ite_t rfl ?_ | refine W.ite_f rfl ?_)
          exact W.ret (RetQ.pure rfl rfl)
    have e1 : (how == 1) = false := by simpa using h1
    by_cases h2 : how = 2
    · subst h2
      repeat (first | refine W.ite_t rfl ?_ | refine W.ite_f rfl ?_)
      have kn := ok14 ({ m with g := mt })
      obtain ⟨c, hcc, hcn⟩ := bad (n := { m with g := mt }) (fun h => by have h1 := h.g.1; rw [toList_beq] at h1; simp at h1)
      rw [hcn] at kn
      refine W.pure ok13 rfl rfl ?_
      repeat (first | refine W.ite_t rfl ?_ | refine W.ite_f rfl ?_)
      rcases hcc with rfl | rfl
      all_goals
        refine W.pure kn rfl rfl ?_
        repeat (first | refine W.ite_t rfl ?_ | refine W.ite_f rfl ?_)
        exact W.ret (RetQ.pure rfl rfl)
    have e2 : (how == 2) = false := by simpa using h2
    by_cases h3 : how = 3
    · subst h3
      repeat (first | refine W.ite_t rfl ?_ | refine W.ite_f rfl ?_)
      have kn := ok14 ({ m with k := 6 })
      obtain ⟨c, hcc, hcn⟩ := bad (n := { m with k := 6 }) (fun h => by have h1 := h.k; dsimp only at h1; omega)
      rw [hcn] at kn
      refine W.pure ok13 rfl rfl ?_
      repeat (first | refine W.ite_t rfl ?_ | refine W.ite_f rfl ?_)
      rcases hcc with rfl | rfl
      all_goals
        refine W.pure kn rfl rfl ?_
        repeat (first | refine W.ite_t rfl ?_ | refine W.ite_f rfl ?_)
        exact W.ret (RetQ.pure rfl rfl)
    have e3 : (how == 3) = false := by simpa using h3
    by_cases h4 : how = 4
    · subst h4
      repeat (first | refine W.ite_t rfl ?_ | refine W.ite_f rfl ?_)
      have kn := ok14 ({ m with q := -1 })
      obtain ⟨c, hcc, hcn⟩ := bad (n := { m with q := -1 }) (k_plain hg _ rfl rfl)
      rw [hcn] at kn
      refine W.pure ok13 rfl rfl ?_
      repeat (first | refine W.ite_t rfl ?_ | refine W.ite_f rfl ?_)
      rcases hcc with rfl | rfl
      all_goals
        refine W.pure kn rfl rfl ?_
        repeat (first | refine W.ite_t rfl ?_ | refine W.ite_f rfl ?_)
        exact W.ret (RetQ.pure rfl rfl)
    have e4 : (how == 4) = false := by simpa using h4
    repeat (first | refine W.ite_f e0 ?_ | refine W.ite_f e1 ?_ | refine W.ite_f e2 ?_ | refine W.ite_f e3 ?_ | refine W.ite_f e4 ?_ | refine W.ite_t rfl ?_ | refine W.ite_f rfl ?_)
    refine W.pure ok13 rfl rfl ?_
    exact W.ret (RetQ.pure rfl rfl)
  all_goals
    rw [hc] at kk
    refine W.pure kk rfl rfl ?_
    repeat (first | refine W.ite_t rfl ?_ | refine W.ite_f rfl ?_)
    refine W.pure ok13 rfl rfl ?_
    exact W.ret (RetQ.pure rfl rfl)
/-- An ack of a group. -/
def ackM (g : ByteArray) (p q : Int) : Mg := ⟨5, g, false, [], p, q, 0, [], mt⟩
theorem r0 : R64 0 := ⟨by decide, by decide⟩
theorem r2 : R64 2 := ⟨by decide, by decide⟩
theorem r5 : R64 5 := ⟨by decide, by decide⟩
theorem mt_small : mt.size ≤ 1000000 := by decide
theorem ackM_ok {g : ByteArray} {p q : Int} (hg : g.size ≤ 40) (hp : R64 p) (hq : R64 q) : (ackM g p q).ok :=
  ⟨r5, by show g.size ≤ _; omega, Nat.zero_le _, by simp [ackM], hp, hq, r0, Nat.zero_le _, by simp [ackM], mt_small⟩
def leaveM (g : ByteArray) : Mg := ⟨2, g, false, [], 0, 0, 0, [], mt⟩
theorem leaveM_ok {g : ByteArray} (hg : g.size ≤ 40) : (leaveM g).ok :=
  ⟨r2, by show g.size ≤ _; omega, Nat.zero_le _, by simp [leaveM], r0, r0, r0, Nat.zero_le _, by simp [leaveM], mt_small⟩
theorem leaveM_c {g : ByteArray} (h : (g.toList == mt.toList) = false) (hs : g.size ≤ 40) : checkB (leaveM g) = 0 := by
  have h2 : decide ((g.size : Int) > 40) = false := by simp; omega
  unfold checkB plainB leaveM
  simp only [h, h2, toList_beq]
  rfl
theorem leaveM_l {g : ByteArray} (hs : g.size ≤ 40) : (bytesM (leaveM g)).length ≤ 1970 := by
  rw [bytesM_k2 (by show (2 : Int) ≠ 1; decide) (by show ¬ ((2 : Int) = 3 ∨ (2 : Int) = 4 ∨ (2 : Int) = 5); decide)]
  have h1 := enc_len10 (n := zz 2) (by decide)
  have h2 := enc_len10 (n := g.size) (by omega)
  have h3 : g.data.toList.length = g.size := by simp
  show (enc (zz 2) ++ (encT g ++ [])).length ≤ 1970
  simp only [encT, List.length_append, List.length_nil, h3]
  omega
theorem bA_ne {m m' : Mg} (hc : checkB m = 0) (hc' : checkB m' = 0) (ho : m.ok) (ho' : m'.ok) (hl : (bytesM m).length ≤ 1970) (hl' : (bytesM m').length ≤ 1970) (h : m ≠ m') : ((bA (bytesM m)).toList == (bA (bytesM m')).toList) = false := by
  rw [Bool.eq_false_iff]
  intro e
  have e := congrArg (fun x => x.data.toList) (tEq e)
  exact h (prefix_eq hc hc' ho ho' hl hl' (rest := []) (by simpa using e)).1
set_option maxHeartbeats 16000000 in
theorem ok6 (a b : ByteArray) (p1 p2 q1 q2 : Int) (r1 : R64 p1) (r2 : R64 p2) (r3 : R64 q1) (r4 : R64 q2) : Go.Am.Pure Try.prog 6 [.d (sD a), .d (sD b), .d (nI p1), .d (nI p2), .d (nI q1), .d (nI q2)] (bI true) := by
  refine CallOk.of tysOk mixed od6 Try.func6 rfl rfl code6 ?_
  have c1 := ok12 a 40
  have c2 := ok12 b 40
  have s1 := cut_size a 40
  have s2 := cut_size b 40
  generalize cut a 40 = g1 at *
  generalize cut b 40 = g2 at *
  refine W.pure c1 rfl rfl ?_
  refine W.pure c2 rfl rfl ?_
  have o1 := ackM_ok s1 r1 r3
  have o2 := ackM_ok s2 r2 r4
  have k1 := ok8 _ o1
  have k2 := ok8 _ o2
  have o3 := leaveM_ok s1
  have k3 := ok8 _ o3
  rcases bytes_cases (ackM g1 p1 q1) with ⟨hc1, hl1, hb1⟩ | ⟨c, hc1, hb1⟩
  · rw [hb1] at k1
    rcases bytes_cases (ackM g2 p2 q2) with ⟨hc2, hl2, hb2⟩ | ⟨c, hc2, hb2⟩
    · rw [hb2] at k2
      have g1e : (g1.toList == mt.toList) = false := (good_of hc1).g.1
      have hc3 := leaveM_c g1e s1
      have hl3 := leaveM_l s1
      rw [bytes_ok hc3 hl3] at k3
      have n31 := bA_ne hc3 hc1 o3 o1 hl3 hl1 (fun h => by have h := congrArg Mg.k h; have h : (2 : Int) = 5 := h; omega)
      have n12 : ackM g1 p1 q1 ≠ ackM g2 p2 q2 → ((bA (bytesM (ackM g1 p1 q1))).toList == (bA (bytesM (ackM g2 p2 q2))).toList) = false := fun h => bA_ne hc1 hc2 o1 o2 hl1 hl2 h
      have e12 : ackM g1 p1 q1 = ackM g2 p2 q2 → ((bA (bytesM (ackM g1 p1 q1))).toList == (bA (bytesM (ackM g2 p2 q2))).toList) = true := fun h => by rw [h]; exact toList_beq _
      dsimp only at k1 k2 k3
      generalize bA (bytesM (ackM g1 p1 q1)) = b1 at *
      generalize bA (bytesM (ackM g2 p2 q2)) = b2 at *
      generalize bA (bytesM (leaveM g1)) = b3 at *
      refine W.pure (CallOk.softA (args := [.d (.agg [nI 5, sD g1, .lit (.bool false), nilD, nI p1, nI q1, nI 0, nilD, sD mt])]) k1) rfl rfl ?_
      refine W.pure (CallOk.softA (args := [.d (.agg [nI 5, sD g2, .lit (.bool false), nilD, nI p2, nI q2, nI 0, nilD, sD mt])]) k2) rfl rfl ?_
      repeat (first | refine W.ite_t rfl ?_ | refine W.ite_f rfl ?_)
      refine W.pure (CallOk.softA (args := [.d (.agg [nI 2, sD g1, .lit (.bool false), nilD, nI 0, nI 0, nI 0, nilD, sD mt])]) k3) rfl rfl ?_
      refine W.pure ok13 rfl rfl ?_
      repeat (first | refine W.ite_t rfl ?_ | refine W.ite_f rfl ?_ | refine W.ite_t (nf_of n31) ?_)
      cases e1 : (g1.toList == g2.toList) with
      | false =>
        have hX := n12 (fun h => tNe e1 (congrArg Mg.g h))
        repeat (first | refine W.ite_t (nf_of n31) ?_ | refine W.ite_t rfl ?_ | refine W.ite_f rfl ?_ | refine W.ite_f e1 ?_)
        refine W.ret ?_; refine RetQ.pure rfl ?_; refine mk_true ?_; rw [hX]; rfl
      | true =>
      repeat (first | refine W.ite_t (nf_of n31) ?_ | refine W.ite_t rfl ?_ | refine W.ite_f rfl ?_ | refine W.ite_t e1 ?_)
      cases e2 : (p1 == p2) with
      | false =>
        have hX := n12 (fun h => by have h : p1 = p2 := congrArg Mg.p h; simp [h] at e2)
        repeat (first | refine W.ite_t (nf_of n31) ?_ | refine W.ite_t rfl ?_ | refine W.ite_f rfl ?_ | refine W.ite_f e2 ?_ | refine W.ite_t e1 ?_)
        refine W.ret ?_; refine RetQ.pure rfl ?_; refine mk_true ?_; rw [hX]; rfl
      | true =>
      repeat (first | refine W.ite_t (nf_of n31) ?_ | refine W.ite_t rfl ?_ | refine W.ite_f rfl ?_ | refine W.ite_t e2 ?_ | refine W.ite_t e1 ?_)
      cases e3 : (q1 == q2) with
      | false =>
        have hX := n12 (fun h => by have h : q1 = q2 := congrArg Mg.q h; simp [h] at e3)
        repeat (first | refine W.ite_t (nf_of n31) ?_ | refine W.ite_t rfl ?_ | refine W.ite_f rfl ?_)
        refine W.ret ?_; refine RetQ.pure rfl ?_; refine mk_true ?_; rw [hX]; rfl
      | true =>
        have hX := e12 (by rw [tEq e1, eq_of_beq e2, eq_of_beq e3])
        repeat (first | refine W.ite_t (nf_of n31) ?_ | refine W.ite_t rfl ?_ | refine W.ite_f rfl ?_)
        refine W.ret ?_; refine RetQ.pure rfl ?_; refine mk_true ?_; rw [hX]; rfl
    · rw [hb2] at k2
      rcases hc2 with rfl | rfl | rfl
      all_goals
        refine W.pure (CallOk.softA (args := [.d (.agg [nI 5, sD g1, .lit (.bool false), nilD, nI p1, nI q1, nI 0, nilD, sD mt])]) k1) rfl rfl ?_
        refine W.pure (CallOk.softA (args := [.d (.agg [nI 5, sD g2, .lit (.bool false), nilD, nI p2, nI q2, nI 0, nilD, sD mt])]) k2) rfl rfl ?_
        repeat (first | refine W.ite_t rfl ?_ | refine W.ite_f rfl ?_)
        refine W.pure ok13 rfl rfl ?_
        exact W.ret (RetQ.pure rfl rfl)
  · rw [hb1] at k1
    rcases bytes_cases (ackM g2 p2 q2) with ⟨hc2, hl2, hb2⟩ | ⟨c, hc2, hb2⟩
    · rw [hb2] at k2
      rcases hc1 with rfl | rfl | rfl
      all_goals
        refine W.pure (CallOk.softA (args := [.d (.agg [nI 5, sD g1, .lit (.bool false), nilD, nI p1, nI q1, nI 0, nilD, sD mt])]) k1) rfl rfl ?_
        refine W.pure (CallOk.softA (args := [.d (.agg [nI 5, sD g2, .lit (.bool false), nilD, nI p2, nI q2, nI 0, nilD, sD mt])]) k2) rfl rfl ?_
        repeat (first | refine W.ite_t rfl ?_ | refine W.ite_f rfl ?_)
        refine W.pure ok13 rfl rfl ?_
        exact W.ret (RetQ.pure rfl rfl)
    · rw [hb2] at k2
      rcases hc1 with rfl | rfl | rfl <;> rcases hc2 with rfl | rfl | rfl
      all_goals
        refine W.pure (CallOk.softA (args := [.d (.agg [nI 5, sD g1, .lit (.bool false), nilD, nI p1, nI q1, nI 0, nilD, sD mt])]) k1) rfl rfl ?_
        refine W.pure (CallOk.softA (args := [.d (.agg [nI 5, sD g2, .lit (.bool false), nilD, nI p2, nI q2, nI 0, nilD, sD mt])]) k2) rfl rfl ?_
        repeat (first | refine W.ite_t rfl ?_ | refine W.ite_f rfl ?_)
        refine W.pure ok13 rfl rfl ?_
        exact W.ret (RetQ.pure rfl rfl)
end Go.Proofs.Ytmloliinnhnioaa.Ms
