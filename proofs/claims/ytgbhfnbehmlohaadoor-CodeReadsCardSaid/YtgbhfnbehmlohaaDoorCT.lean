import Derived.Test.YtgbhfnbehmlohaaDoorCA
set_option maxRecDepth 100000
set_option linter.unusedVariables false
set_option linter.unusedSimpArgs false
namespace Go.Proofs.YtgbhfnbehmlohaaDoor.Co
open Go Go.Am
def od7 : Ords := []
theorem code7 : codeB Tryd.f7.ntmps od7 (match Tryd.f7.body with | some c => c | none => .skip) = true := by kernel_rfl
def od8 : Ords := []
theorem code8 : codeB Tryd.f8.ntmps od8 (match Tryd.f8.body with | some c => c | none => .skip) = true := by kernel_rfl
/-- A thing: its kind, and what it may be. -/
structure Th where
  k : Int
  n : Int
  u : Nat
  s : ByteArray
def Th.ok (t : Th) : Prop := -9223372036854775808 ≤ t.n ∧ t.n < 9223372036854775808 ∧ t.u < 18446744073709551616
def thC (t : Th) : List D := [nI t.k, nI t.n, uI t.u, sD t.s]
theorem thC_len (t : Th) : (thC t).length = 4 := rfl
theorem thC_one (t : Th) : ∀ d ∈ thC t, d.one = true := fun d h => by
  simp only [thC, List.mem_cons, List.not_mem_nil, or_false] at h
  rcases h with rfl | rfl | rfl | rfl <;> rfl
theorem thE {l : List Th} {i : Nat} {t : Th} (h : l[i]? = some t) : Elem (flat thC l) [.int .i64, .int .i64, .int .u64, .str] (i * 4) 4 (thC t) :=
  Elem.all thC_len h _ rfl ⟨rfl, rfl, rfl, rfl, True.intro⟩ rfl
/-- A thing's bytes. -/
def encTh (t : Th) : List UInt8 := if t.k = 1 then enc t.u else if t.k = 2 ∨ t.k = 4 then enc (zz t.n) else if t.k = 3 then encT t.s else []
theorem encTh_len {t : Th} (ho : t.ok) (hs : t.s.size ≤ 200) : (encTh t).length ≤ 210 := by
  unfold encTh
  have h1 := enc_len10 ho.2.2
  have h2 := enc_len10 (zz_lt ho.1 ho.2.1)
  split
  · omega
  · split
    · omega
    · split
      · unfold encT
        have := enc_len10 (n := t.s.size) (by omega)
        have : t.s.data.toList.length = t.s.size := by simp
        simp only [List.length_append]
        omega
      · simp
def cutTh (t : Th) : Th := { t with s := cut t.s 200 }
set_option maxHeartbeats 4000000 in
theorem ok8 (bs : List UInt8) (t : Th) (ho : t.ok) (hb : bs.length + 10 + t.s.size ≤ 140737488355328) :
    CallOk Tryd.prog 8 [.ptr 0 0, .d (.agg (thC t))] (wS bs) (fun v σ => v = .tuple [] ∧ σ = wS (bs ++ encTh t)) := by
  refine CallOk.of tysOk mixed od8 Tryd.func8 rfl rfl code8 ?_
  have k1 := ok28 bs t.u ho.2.2 (by omega)
  have k2 := ok29 bs t.n ho.1 ho.2.1 (by omega)
  have k3 := ok17 bs t.s hb
  have n1 : bs ++ enc t.u ≠ [] := by have := enc_ne t.u; simp_all
  have n2 : bs ++ enc (zz t.n) ≠ [] := by have := enc_ne (zz t.n); simp_all
  have n3 : bs ++ encT t.s ≠ [] := by have := enc_ne t.s.size; unfold encT; simp_all
  rw [wS_ne n1] at k1
  rw [wS_ne n2] at k2
  rw [wS_ne n3] at k3
  unfold encTh
  cases h1 : (t.k == 1) with
  | true =>
    rw [if_pos (by simpa using h1), wS_ne n1]
    cases bs with
    | nil =>
      refine W.ite_t h1 ?_
      refine W.callF [0] [.var [.vec 2 _], .var [.d (nI t.k), .d (nI t.n), .d (uI t.u), .d (sD t.s)], .vec 1 _ _] (x2 := .tuple []) k1 (by decide) rfl rfl rfl rfl rfl rfl ?_
      exact W.ret (RetQ.part [0, 2] (by decide) (by simp) (by intro i hi; have : i = 0 := (by simp [wS] at hi; omega); subst this; rfl) ⟨rfl, rfl⟩)
    | cons b r =>
      refine W.ite_t h1 ?_
      refine W.callF [0, 1] [.var [.vec 1 _], .vec 1 _ _, .var [.d (nI t.k), .d (nI t.n), .d (uI t.u), .d (sD t.s)]] (x2 := .tuple []) k1 (by decide) rfl rfl rfl rfl rfl rfl ?_
      exact W.ret (RetQ.part [0, 1] (by decide) (by simp) (wS_len _) ⟨rfl, rfl⟩)
  | false =>
    rw [if_neg (by simpa using h1)]
    cases h2 : (t.k == 2) with
    | true =>
      rw [if_pos (.inl (by simpa using h2)), wS_ne n2]
      cases bs with
      | nil =>
        repeat (first | refine W.ite_f h1 ?_ | refine W.ite_t h2 ?_)
        refine W.callF [0] [.var [.vec 2 _], .var [.d (nI t.k), .d (nI t.n), .d (uI t.u), .d (sD t.s)], .vec 1 _ _] (x2 := .tuple []) k2 (by decide) rfl rfl rfl rfl rfl rfl ?_
        exact W.ret (RetQ.part [0, 2] (by decide) (by simp) (by intro i hi; have : i = 0 := (by simp [wS] at hi; omega); subst this; rfl) ⟨rfl, rfl⟩)
      | cons b r =>
        repeat (first | refine W.ite_f h1 ?_ | refine W.ite_t h2 ?_)
        refine W.callF [0, 1] [.var [.vec 1 _], .vec 1 _ _, .var [.d (nI t.k), .d (nI t.n), .d (uI t.u), .d (sD t.s)]] (x2 := .tuple []) k2 (by decide) rfl rfl rfl rfl rfl rfl ?_
        exact W.ret (RetQ.part [0, 1] (by decide) (by simp) (wS_len _) ⟨rfl, rfl⟩)
    | false =>
      cases h4 : (t.k == 4) with
      | true =>
        rw [if_pos (.inr (by simpa using h4)), wS_ne n2]
        cases bs with
        | nil =>
          repeat (first | refine W.ite_f h1 ?_ | refine W.ite_f h2 ?_ | refine W.ite_t h4 ?_)
          refine W.callF [0] [.var [.vec 2 _], .var [.d (nI t.k), .d (nI t.n), .d (uI t.u), .d (sD t.s)], .vec 1 _ _] (x2 := .tuple []) k2 (by decide) rfl rfl rfl rfl rfl rfl ?_
          exact W.ret (RetQ.part [0, 2] (by decide) (by simp) (by intro i hi; have : i = 0 := (by simp [wS] at hi; omega); subst this; rfl) ⟨rfl, rfl⟩)
        | cons b r =>
          repeat (first | refine W.ite_f h1 ?_ | refine W.ite_f h2 ?_ | refine W.ite_t h4 ?_)
          refine W.callF [0, 1] [.var [.vec 1 _], .vec 1 _ _, .var [.d (nI t.k), .d (nI t.n), .d (uI t.u), .d (sD t.s)]] (x2 := .tuple []) k2 (by decide) rfl rfl rfl rfl rfl rfl ?_
          exact W.ret (RetQ.part [0, 1] (by decide) (by simp) (wS_len _) ⟨rfl, rfl⟩)
      | false =>
        rw [if_neg (by rintro (h | h) <;> simp_all)]
        cases h3 : (t.k == 3) with
        | true =>
          rw [if_pos (by simpa using h3), wS_ne n3]
          cases bs with
          | nil =>
            repeat (first | refine W.ite_f h1 ?_ | refine W.ite_f h2 ?_ | refine W.ite_f h4 ?_ | refine W.ite_t h3 ?_)
            refine W.callF [0] [.var [.vec 2 _], .var [.d (nI t.k), .d (nI t.n), .d (uI t.u), .d (sD t.s)], .vec 1 _ _] (x2 := .tuple []) k3 (by decide) rfl rfl rfl rfl rfl rfl ?_
            exact W.ret (RetQ.part [0, 2] (by decide) (by simp) (by intro i hi; have : i = 0 := (by simp [wS] at hi; omega); subst this; rfl) ⟨rfl, rfl⟩)
          | cons b r =>
            repeat (first | refine W.ite_f h1 ?_ | refine W.ite_f h2 ?_ | refine W.ite_f h4 ?_ | refine W.ite_t h3 ?_)
            refine W.callF [0, 1] [.var [.vec 1 _], .vec 1 _ _, .var [.d (nI t.k), .d (nI t.n), .d (uI t.u), .d (sD t.s)]] (x2 := .tuple []) k3 (by decide) rfl rfl rfl rfl rfl rfl ?_
            exact W.ret (RetQ.part [0, 1] (by decide) (by simp) (wS_len _) ⟨rfl, rfl⟩)
        | false =>
          rw [if_neg (by simpa using h3), List.append_nil]
          cases bs with
          | nil =>
            repeat (first | refine W.ite_f h1 ?_ | refine W.ite_f h2 ?_ | refine W.ite_f h4 ?_ | refine W.ite_f h3 ?_)
            exact W.ret (RetQ.part [0] (by decide) (by simp) (by intro i hi; have : i = 0 := (by simp [wS] at hi; omega); subst this; rfl) ⟨rfl, rfl⟩)
          | cons b r =>
            repeat (first | refine W.ite_f h1 ?_ | refine W.ite_f h2 ?_ | refine W.ite_f h4 ?_ | refine W.ite_f h3 ?_)
            exact W.ret (RetQ.part [0, 1] (by decide) (by simp) (wS_len _) ⟨rfl, rfl⟩)
/-- The first things, their texts cut. -/
def fewTh (l : List Th) (m : Nat) : List Th := (l.take m).map cutTh
set_option maxHeartbeats 4000000 in
theorem ok7 (l : List Th) (m : Nat) (hm : m ≤ 1000) : Go.Am.Pure Tryd.prog 7 [slF thC l, .d (nI (m : Nat))] (slF thC (fewTh l m)) := by
  refine CallOk.soft (CallOk.of tysOk mixed od7 Tryd.func7 rfl rfl code7 ?_)
  have fin : ∀ {i : Nat}, l.take i = l.take m → i ≤ l.length → AV.d (.sl i ((flat thC ((l.take i).map cutTh)).take (i * 4))) = slF thC (fewTh l m) := fun {i} h hi => by
    have hl : ((l.take i).map cutTh).length = i := by simp; omega
    unfold slF fewTh
    rw [← h, hl]
    congr 2
    have := flat_all thC_len ((l.take i).map cutTh)
    rw [hl] at this
    exact this
  refine W.loop (fun k fr σ => ∃ i : Nat, fr = [(0, slF thC l), (1, .d (nI m)), (5, .vec 0 i), (6, .d (nI i))] ∧ σ = [.vec 4 i (flat thC ((l.take i).map cutTh))] ∧ i ≤ l.length ∧ i ≤ m ∧ k = m - i) m
    (Start.of [0, 1, 5, 6] [] (by simp)) ⟨0, rfl, rfl, by omega, by omega, rfl⟩ ?_
  rintro k fr σ ⟨i, rfl, rfl, hi, him, rfl⟩
  cases c1 : decide ((i : Int) < (l.length : Int)) with
  | false =>
    have hil : i = l.length := by have := of_decide_eq_false c1; omega
    repeat (first | refine W.ite_f c1 ?_ | refine W.ite_t rfl ?_ | refine W.ite_f rfl ?_)
    refine W.ret (W.ret (RetQ.row rfl (fin ?_ hi)))
    rw [List.take_of_length_le (by omega), List.take_of_length_le (by omega)]
  | true =>
    have hil : i < l.length := by have := of_decide_eq_true c1; omega
    cases c2 : decide ((i : Int) < (m : Int)) with
    | false =>
      have him' : i = m := by have := of_decide_eq_false c2; omega
      repeat (first | refine W.ite_t c1 ?_ | refine W.ite_f c2 ?_ | refine W.ite_t rfl ?_ | refine W.ite_f rfl ?_)
      refine W.ret (W.ret (RetQ.row rfl (fin (by rw [him']) hi)))
    | true =>
      have him' : i < m := by have := of_decide_eq_true c2; omega
      obtain ⟨t, ht⟩ : ∃ t, l[i]? = some t := ⟨_, List.getElem?_eq_getElem hil⟩
      repeat (first | refine W.ite_t c1 ?_ | refine W.ite_t c2 ?_ | refine W.ite_t rfl ?_ | refine W.ite_f rfl ?_)
      refine W.need (ix_ok thC_len (by decide) hil) ?_
      refine W.ld (thE ht) ?_
      refine W.pure (ok16 t.s 200) rfl rfl ?_
      refine W.alt_l ?_
      refine W.need ⟨rfl, rfl, rfl, by omega, by omega, by intro c hc; simp only [List.mem_cons, List.not_mem_nil, or_false] at hc; rcases hc with rfl | rfl | rfl | rfl <;> rfl⟩ ?_
      have g1 : IntKind.i64.wrap ((i : Int) + 1) = ((i + 1 : Nat) : Int) := by rw [wrap64 (by omega) (by omega)]; rfl
      refine W.ret ⟨_, _, _, ?_, Trim.of [0, 1, 5, 6] [0] (by decide) (by simp) (by simp), i + 1, ?_, ?_, by omega, by omega, rfl⟩
      · omega
      · rw [← g1]; rfl
      · have : l.take (i + 1) = l.take i ++ [t] := by rw [List.take_add_one, ht]; rfl
        rw [this, List.map_append, flat_append]
        rfl
/-! ### thing by thing -/
theorem readI_enc' {s : ByteArray} {a : Nat} {n : Int} {rest : List UInt8} (hd : s.data.toList.drop a = enc (zz n) ++ rest) (h1 : -9223372036854775808 ≤ n) (h2 : n < 9223372036854775808) : readI s a none = (n, a + (enc (zz n)).length, none) := by
  unfold readI
  rw [readN_enc hd (zz_lt h1 h2)]
  simp only [unzz_zz]
theorem readB_enc {s : ByteArray} {a : Nat} {n most : Int} {rest : List UInt8} (hd : s.data.toList.drop a = enc (zz n) ++ rest) (h1 : 0 ≤ n) (h2 : n < 9223372036854775808) (h3 : n < most) : readB s a none most = (n, a + (enc (zz n)).length, none) := by
  unfold readB
  rw [readI_enc' hd (by omega) h2]
  simp only
  rw [if_neg (by omega)]
theorem drop_len {s : ByteArray} {a : Nat} {l rest : List UInt8} (hd : s.data.toList.drop a = l ++ rest) (hl : l ≠ []) : a + l.length ≤ s.size ∧ s.data.toList.drop (a + l.length) = rest := by
  have h1 := congrArg List.length hd
  have h2 : s.data.toList.length = s.size := by simp
  have h3 := List.length_pos_iff.2 hl
  simp only [List.length_drop, List.length_append, h2] at h1
  refine ⟨by omega, ?_⟩
  rw [← List.drop_drop, hd, List.drop_left]
theorem readT_enc {s t : ByteArray} {a : Nat} {most : Int} {rest : List UInt8} (hd : s.data.toList.drop a = encT t ++ rest) (h1 : (t.size : Int) ≤ (if 0 > most then 0 else most)) (h2 : t.size < 18446744073709551616) : readT s a none most = (t, a + (encT t).length, none) := by
  unfold encT at hd ⊢
  rw [List.append_assoc] at hd
  obtain ⟨k1, k2⟩ := drop_len hd (enc_ne _)
  have hl : t.data.toList.length = t.size := by simp
  have hs : s.data.toList.length = s.size := by simp
  have k3 := congrArg List.length k2
  simp only [List.length_drop, List.length_append, hl, hs] at k3
  unfold readT
  rw [readN_enc hd h2]
  simp only
  rw [if_neg (by omega), if_neg (by omega)]
  have he : s.extract (a + (enc t.size).length) (a + (enc t.size).length + t.size) = t := by
    apply ByteArray.ext
    apply Array.toList_inj.1
    rw [ByteArray.data_extract, Array.toList_extract, List.extract_eq_take_drop, k2, show a + (enc t.size).length + t.size - (a + (enc t.size).length) = t.data.toList.length from by omega, List.take_left]
  rw [he]
  simp only [List.length_append, hl, Prod.mk.injEq, and_true, true_and]
  omega
theorem readT_big {s t : ByteArray} {a : Nat} {most : Int} {rest : List UInt8} (hd : s.data.toList.drop a = encT t ++ rest) (h1 : ¬ (t.size : Int) ≤ (if 0 > most then 0 else most)) (h2 : t.size < 18446744073709551616) : readT s a none most = (⟨#[]⟩, a, some (a, 1)) := by
  unfold encT at hd
  rw [List.append_assoc] at hd
  unfold readT
  rw [readN_enc hd h2]
  simp only
  rw [if_pos (by omega)]
/-- What things are as bytes. -/
def encL (l : List Th) : List UInt8 := l.flatMap encTh
theorem encL_take {l : List Th} {i : Nat} {t : Th} (h : l[i]? = some t) : encL (l.take (i + 1)) = encL (l.take i) ++ encTh t := by
  have : l.take (i + 1) = l.take i ++ [t] := by rw [List.take_add_one, h]; rfl
  rw [this]
  simp [encL]
theorem encL_drop {l : List Th} {i : Nat} {t : Th} (h : l[i]? = some t) : (encL l).drop (encL (l.take i)).length = encTh t ++ encL (l.drop (i + 1)) := by
  have h1 : l = l.take i ++ (t :: l.drop (i + 1)) := by
    have := List.take_append_drop i l
    rw [List.drop_eq_getElem_cons (List.getElem?_eq_some_iff.1 h).1, (List.getElem?_eq_some_iff.1 h).2] at this
    exact this.symm
  have h2 : encL l = encL (l.take i) ++ (encTh t ++ encL (l.drop (i + 1))) := by
    conv => lhs; rw [h1]
    simp [encL]
  rw [h2, List.drop_left]
theorem encL_len {l : List Th} (h : ∀ t ∈ l, t.ok ∧ t.s.size ≤ 200) : (encL l).length ≤ 210 * l.length := by
  induction l with
  | nil => simp [encL]
  | cons t r ih =>
    have h1 := h t (by simp)
    have := encTh_len h1.1 h1.2
    have := ih fun x hx => h x (by simp [hx])
    unfold encL at *
    simp only [List.flatMap_cons, List.length_append, List.length_cons]
    omega
theorem fewTh_ok {l : List Th} {m : Nat} (h : ∀ t ∈ l, t.ok) : ∀ t ∈ fewTh l m, t.ok ∧ t.s.size ≤ 200 := fun t ht => by
  obtain ⟨x, hx, rfl⟩ := List.mem_map.1 ht
  exact ⟨h x (List.mem_of_mem_take hx), cut_size _ _⟩
theorem fewTh_len (l : List Th) (m : Nat) : (fewTh l m).length ≤ m := by
  simp [fewTh]; omega
end Go.Proofs.YtgbhfnbehmlohaaDoor.Co
