import Derived.Test.YtkdibdlbigmkcaaDoorMR
set_option maxRecDepth 100000
set_option linter.unusedVariables false
set_option linter.unusedSimpArgs false
/- Layer 15: what is written is read, what is read was written. -/
namespace Go.Proofs.YtkdibdlbigmkcaaDoor.Ms
open Go Go.Am Co
abbrev dr (s : ByteArray) (a : Nat) : List UInt8 := s.data.toList.drop a
theorem tEq {a b : ByteArray} (h : (a.toList == b.toList) = true) : a = b := by
  have := eq_of_beq h
  rw [ByteArray.toList_eq, ByteArray.toList_eq] at this
  exact ByteArray.ext (Array.ext' this)
theorem tNe {a b : ByteArray} (h : (a.toList == b.toList) = false) : a ≠ b := fun e => by
  subst e; simp at h
theorem dr_len {s : ByteArray} {a : Nat} {l rest : List UInt8} (h : dr s a = l ++ rest) (hl : l ≠ []) : dr s (a + l.length) = rest := (drop_len h hl).2
theorem bytes_len {s : ByteArray} : s.data.toList.length = s.size := by simp
/-! ### what is written is read -/
theorem rdF_enc {s : ByteArray} {a : Nat} {l : List ByteArray} {rest : List UInt8} (hd : dr s a = l.flatMap encT ++ rest) (hl : ∀ x ∈ l, x.size ≤ 1970) : ∀ n, n ≤ l.length →
    rdF s n a none = (l.take n, a + ((l.take n).flatMap encT).length, none) ∧ dr s (a + ((l.take n).flatMap encT).length) = (l.drop n).flatMap encT ++ rest
  | 0, _ => ⟨rfl, by simpa using hd⟩
  | n + 1, h => by
    obtain ⟨h1, h2⟩ := rdF_enc hd hl n (by omega)
    obtain ⟨x, hx⟩ : ∃ x, l[n]? = some x := ⟨_, List.getElem?_eq_getElem (by omega)⟩
    have hxs := hl x (List.mem_of_getElem? hx)
    rw [show l.drop n = x :: l.drop (n + 1) from by rw [List.drop_eq_getElem_cons (by omega)]; rw [List.getElem?_eq_getElem (by omega)] at hx; rw [Option.some.inj hx], List.flatMap_cons, List.append_assoc] at h2
    rw [flat_next hx, List.length_append, ← Nat.add_assoc]
    refine ⟨?_, dr_len h2 (encT_ne x)⟩
    rw [rdF, h1]
    dsimp only
    rw [readT_enc h2 (by omega) (by omega), take_next hx]
theorem rdV_enc {s : ByteArray} {a : Nat} {l : List Vl} {rest : List UInt8} (hd : dr s a = l.flatMap encV ++ rest) (hl : ∀ x ∈ l, R64 x.1 ∧ x.2.size ≤ 1970) : ∀ n, n ≤ l.length →
    rdV s n a none = (l.take n, a + ((l.take n).flatMap encV).length, none) ∧ dr s (a + ((l.take n).flatMap encV).length) = (l.drop n).flatMap encV ++ rest
  | 0, _ => ⟨rfl, by simpa using hd⟩
  | n + 1, h => by
    obtain ⟨h1, h2⟩ := rdV_enc hd hl n (by omega)
    obtain ⟨x, hx⟩ : ∃ x, l[n]? = some x := ⟨_, List.getElem?_eq_getElem (by omega)⟩
    have hxs := hl x (List.mem_of_getElem? hx)
    rw [show l.drop n = x :: l.drop (n + 1) from by rw [List.drop_eq_getElem_cons (by omega)]; rw [List.getElem?_eq_getElem (by omega)] at hx; rw [Option.some.inj hx], List.flatMap_cons, encV, List.append_assoc, List.append_assoc] at h2
    rw [flat_next hx, List.length_append, ← Nat.add_assoc, encV, List.length_append]
    have h3 := dr_len h2 (enc_ne _)
    rw [← Nat.add_assoc]
    refine ⟨?_, dr_len h3 (encT_ne x.2)⟩
    rw [rdV, h1]
    dsimp only
    rw [readI_enc' h2 hxs.1.1 hxs.1.2]
    dsimp only
    rw [readT_enc h3 (by omega) (by omega), take_next hx]
structure Sm (m : Mg) : Prop where
  f : ∀ x ∈ m.f, x.size ≤ 1970
  v : ∀ x ∈ m.v, R64 x.1 ∧ x.2.size ≤ 1970
  t : m.t.size ≤ 1970
theorem encT_size (x : ByteArray) : x.size ≤ (encT x).length := by simp [encT]
theorem flat_mem {α : Type} {c : α → List UInt8} {l : List α} {x : α} (h : x ∈ l) : (c x).length ≤ (l.flatMap c).length := by
  obtain ⟨a, b, rfl⟩ := List.append_of_mem h
  simp only [List.flatMap_append, List.flatMap_cons, List.length_append]; omega
theorem bytesM_k1 {m : Mg} (h : m.k = 1) : bytesM m = enc (zz m.k) ++ (encT m.g ++ (enc (zz (nF m)) ++ m.f.flatMap encT)) := by
  unfold bytesM; rw [if_pos h]; simp only [List.append_assoc]
theorem bytesM_k2 {m : Mg} (h1 : m.k ≠ 1) (h2 : ¬ (m.k = 3 ∨ m.k = 4 ∨ m.k = 5)) : bytesM m = enc (zz m.k) ++ (encT m.g ++ []) := by
  unfold bytesM; rw [if_neg h1, if_neg h2]; simp only [List.append_assoc]
theorem bytesM_k5 {m : Mg} (h : m.k = 5) : bytesM m = enc (zz m.k) ++ (encT m.g ++ (enc (zz m.p) ++ enc (zz m.q))) := by
  unfold bytesM; rw [if_neg (by omega), if_pos (by omega), if_pos h]; simp only [List.append_assoc, List.append_nil]
theorem bytesM_k34 {m : Mg} (h : m.k = 3 ∨ m.k = 4) : bytesM m = enc (zz m.k) ++ (encT m.g ++ (enc (zz m.p) ++ (enc (zz m.q) ++ (enc (zz m.h) ++ (enc (zz m.v.length) ++ (m.v.flatMap encV ++ encT m.t)))))) := by
  unfold bytesM; rw [if_neg (by omega), if_pos (by omega), if_neg (by omega)]; simp only [List.append_assoc]
theorem mt_size : mt.size = 0 := rfl
theorem small {m : Mg} (hg : Good m) (ho : m.ok) (hl : (bytesM m).length ≤ 1970) : Sm m := by
  rcases hg.k with h | h | h | h | h
  · obtain ⟨_, _, _, hv, ht⟩ := plain_of (hg.k12 (.inl h))
    rw [bytesM_k1 h] at hl
    simp only [List.length_append] at hl
    refine ⟨fun x hx => ?_, fun x hx => by rw [hv] at hx; simp at hx, by rw [tEq ht]; decide⟩
    have := flat_mem (c := encT) hx
    have := encT_size x
    omega
  · obtain ⟨_, _, _, hv, ht⟩ := plain_of (hg.k12 (.inr h))
    exact ⟨fun x hx => by rw [(hg.n1 (by omega)).2] at hx; simp at hx, fun x hx => by rw [hv] at hx; simp at hx, by rw [tEq ht]; decide⟩
  · rw [bytesM_k34 (.inl h)] at hl
    simp only [List.length_append] at hl
    refine ⟨fun x hx => by rw [(hg.n1 (by omega)).2] at hx; simp at hx, fun x hx => ⟨(ho.vs x hx).1, ?_⟩, ?_⟩
    · have w1 := flat_mem (c := encV) hx
      have w2 := encT_size x.2
      rw [encV, List.length_append] at w1
      omega
    · have := encT_size m.t
      omega
  · rw [bytesM_k34 (.inr h)] at hl
    simp only [List.length_append] at hl
    refine ⟨fun x hx => by rw [(hg.n1 (by omega)).2] at hx; simp at hx, fun x hx => ⟨(ho.vs x hx).1, ?_⟩, ?_⟩
    · have w1 := flat_mem (c := encV) hx
      have w2 := encT_size x.2
      rw [encV, List.length_append] at w1
      omega
    · have := encT_size m.t
      omega
  · obtain ⟨hv, ht⟩ := hg.k5 h
    exact ⟨fun x hx => by rw [(hg.n1 (by omega)).2] at hx; simp at hx, fun x hx => by rw [hv] at hx; simp at hx, by rw [tEq ht]; decide⟩
theorem rawM_34 {m : Mg} (hg : Good m) (ho : m.ok) (sm : Sm m) {s : ByteArray} {rest : List UInt8} (hd : dr s 0 = bytesM m ++ rest) (h : m.k = 3 ∨ m.k = 4) : rawB s (readI s 0 none).1 (readT s (readI s 0 none).2.1 (readI s 0 none).2.2 40).1 (readT s (readI s 0 none).2.1 (readI s 0 none).2.2 40).2.1 (readT s (readI s 0 none).2.1 (readI s 0 none).2.2 40).2.2 = some (m, (bytesM m).length, none) := by
  have hgs := hg.g.2
  have hn := hg.n1 (by omega)
  have hv := hg.k345 (by omega)
  rw [bytesM_k34 h] at hd ⊢
  simp only [List.append_assoc] at hd
  have d1 := dr_len hd (enc_ne _)
  have d2 := dr_len d1 (encT_ne _)
  have d3 := dr_len d2 (enc_ne _)
  have d4 := dr_len d3 (enc_ne _)
  have d5 := dr_len d4 (enc_ne _)
  have d6 := dr_len d5 (enc_ne _)
  have d7 := rdV_enc d6 sm.v _ (Nat.le_refl _)
  rw [List.take_length, List.drop_length, List.flatMap_nil, List.nil_append] at d7
  have smt := sm.t
  rw [readI_enc' hd ho.k.1 ho.k.2]
  dsimp only
  rw [readT_enc d1 (by omega) (by omega)]
  dsimp only
  unfold rawB
  rw [if_neg (by omega), if_neg (by omega), if_pos h]
  unfold raw34
  rw [readI_enc' d2 ho.p.1 ho.p.2]
  dsimp only
  rw [readI_enc' d3 ho.q.1 ho.q.2]
  dsimp only
  rw [readI_enc' d4 ho.h.1 ho.h.2]
  dsimp only
  rw [readB_enc d5 (by omega) (by omega) (by omega)]
  dsimp only
  rw [Int.toNat_natCast, d7.1]
  dsimp only
  rw [readT_enc d7.2 (by omega) (by omega)]
  obtain ⟨k, g, any, f, p, q, h, v, t⟩ := m
  obtain ⟨rfl, rfl⟩ := hn
  simp only [List.length_append, List.length_nil, Option.some.injEq, Prod.mk.injEq, and_true, true_and]
  omega
theorem rawM_enc {m : Mg} (hg : Good m) (ho : m.ok) (hl : (bytesM m).length ≤ 1970) {s : ByteArray} {rest : List UInt8} (hd : dr s 0 = bytesM m ++ rest) : rawM s = some (m, (bytesM m).length, none) := by
  have sm := small hg ho hl
  have hgs := hg.g.2
  unfold rawM
  dsimp only
  rcases hg.k with h | h | h | h | h
  · have hp := plain_of (hg.k12 (.inl h))
    have hk1 := hg.k1 h
    rw [bytesM_k1 h] at hd ⊢
    simp only [List.append_assoc] at hd
    have d1 := dr_len hd (enc_ne _)
    have d2 := dr_len d1 (encT_ne _)
    have d3 := dr_len d2 (enc_ne _)
    have hn : R64 (nF m) := by unfold nF R64; split <;> omega
    rw [readI_enc' hd ho.k.1 ho.k.2]
    dsimp only
    rw [readT_enc d1 (by omega) (by omega)]
    dsimp only
    unfold rawB
    rw [if_pos h]
    unfold raw1
    rw [readI_enc' d2 hn.1 hn.2]
    dsimp only
    have hnn : (nF m).toNat = m.f.length ∧ (nF m == -1) = m.any ∧ ¬ (nF m < -1 ∨ nF m > 16) := by
      unfold nF
      cases ha : m.any with
      | true => rw [if_pos rfl, hk1.1 ha]; decide
      | false => rw [if_neg (by decide)]; refine ⟨by omega, ?_, by omega⟩; simp <;> omega
    rw [if_neg (fun x => hnn.2.2 x.2), hnn.1, hnn.2.1, (rdF_enc d3 sm.f _ (Nat.le_refl _)).1, List.take_length]
    obtain ⟨k, g, any, f, p, q, h, v, t⟩ := m
    obtain ⟨rfl, rfl, rfl, rfl, ht⟩ := hp
    have ht := tEq ht
    subst ht
    simp only [List.length_append, Option.some.injEq, Prod.mk.injEq, and_true, true_and]
    omega
  · have hp := plain_of (hg.k12 (.inr h))
    have hn := hg.n1 (by omega)
    rw [bytesM_k2 (by omega) (by omega)] at hd ⊢
    simp only [List.append_assoc] at hd
    have d1 := dr_len hd (enc_ne _)
    rw [readI_enc' hd ho.k.1 ho.k.2]
    dsimp only
    rw [readT_enc d1 (by omega) (by omega)]
    dsimp only
    unfold rawB
    rw [if_neg (by omega), if_neg (by omega), if_neg (by omega)]
    obtain ⟨k, g, any, f, p, q, h, v, t⟩ := m
    obtain ⟨rfl, rfl, rfl, rfl, ht⟩ := hp
    obtain ⟨rfl, rfl⟩ := hn
    have ht := tEq ht
    subst ht
    simp only [List.length_append, List.length_nil, Option.some.injEq, Prod.mk.injEq, and_true, true_and]
    omega
  · exact rawM_34 hg ho sm hd (.inl h)
  · exact rawM_34 hg ho sm hd (.inr h)
  · have hp := hg.k5 h
    have hn := hg.n1 (by omega)
    have h3 := hg.n3 (by omega)
    rw [bytesM_k5 h] at hd ⊢
    simp only [List.append_assoc] at hd
    have d1 := dr_len hd (enc_ne _)
    have d2 := dr_len d1 (encT_ne _)
    have d3 := dr_len d2 (enc_ne _)
    rw [readI_enc' hd ho.k.1 ho.k.2]
    dsimp only
    rw [readT_enc d1 (by omega) (by omega)]
    dsimp only
    unfold rawB
    rw [if_neg (by omega), if_pos h]
    unfold raw5
    rw [readI_enc' d2 ho.p.1 ho.p.2]
    dsimp only
    rw [readI_enc' d3 ho.q.1 ho.q.2]
    dsimp only
    obtain ⟨k, g, any, f, p, q, h, v, t⟩ := m
    obtain ⟨rfl, ht⟩ := hp
    obtain ⟨rfl, rfl⟩ := hn
    have ht := tEq ht
    subst ht
    dsimp only at h3
    subst h3
    simp only [List.length_append, List.length_nil, Option.some.injEq, Prod.mk.injEq, and_true, true_and]
    omega
theorem rdF_len (s : ByteArray) : ∀ (n a : Nat) (e : Err), (rdF s n a e).1.length = n
  | 0, _, _ => rfl
  | n + 1, a, e => by simp [rdF, rdF_len s n a e]
theorem rdV_len (s : ByteArray) : ∀ (n a : Nat) (e : Err), (rdV s n a e).1.length = n
  | 0, _, _ => rfl
  | n + 1, a, e => by simp [rdV, rdV_len s n a e]
/-! ### what is read was written -/
theorem zz_unzz (n : Nat) : zz (unzz n) = n := by
  unfold unzz zz
  split <;> split <;> omega
theorem readN_dec {s : ByteArray} {a : Nat} {e : Err} {n a' : Nat} (h : readN s a e = (n, a', none)) : e = none ∧ dr s a = enc n ++ dr s a' := by
  cases e with
  | some x => simp [readN] at h
  | none =>
    obtain ⟨m, h1, h2, _⟩ := num_dec s 10 0 a 0 n a' rfl (by omega) (by simpa [readN] using h)
    have : n = m := by simpa using h1
    subst this
    exact ⟨rfl, h2⟩
theorem readI_dec {s : ByteArray} {a : Nat} {e : Err} {n : Int} {a' : Nat} (h : readI s a e = (n, a', none)) : e = none ∧ dr s a = enc (zz n) ++ dr s a' := by
  unfold readI at h
  generalize hN : readN s a e = N at h
  obtain ⟨m, b, e'⟩ := N
  simp only [Prod.mk.injEq] at h
  obtain ⟨rfl, rfl, rfl⟩ := h
  rw [zz_unzz]
  exact readN_dec hN
theorem readT_dec {s : ByteArray} {a : Nat} {e : Err} {most : Int} {t : ByteArray} {a' : Nat} (h : readT s a e most = (t, a', none)) : e = none ∧ dr s a = encT t ++ dr s a' := by
  unfold readT at h
  generalize hN : readN s a e = N at h
  obtain ⟨n, b, e'⟩ := N
  cases e' with
  | some x => simp at h
  | none =>
    dsimp only at h
    generalize (if 0 > most then 0 else most) = M at h
    split at h
    · simp at h
    · split at h
      · simp at h
      · rename_i h2
        simp only [Prod.mk.injEq, and_true] at h
        obtain ⟨rfl, rfl⟩ := h
        obtain ⟨k1, k2⟩ := readN_dec hN
        refine ⟨k1, ?_⟩
        have hsz : (s.extract b (b + n)).size = n := by simp; omega
        rw [k2, encT, hsz, List.append_assoc]
        congr 1
        rw [dr, dr, ← List.drop_drop]
        have : (s.extract b (b + n)).data.toList = (s.data.toList.drop b).take n := by simp [ByteArray.data_extract]
        rw [this, List.take_append_drop]
theorem readB_dec {s : ByteArray} {a : Nat} {e : Err} {most : Int} {n : Int} {a' : Nat} (h : readB s a e most = (n, a', none)) : e = none ∧ dr s a = enc (zz n) ++ dr s a' := by
  unfold readB at h
  generalize hN : readI s a e = N at h
  obtain ⟨m, b, e'⟩ := N
  cases e' with
  | some x => simp at h
  | none =>
    dsimp only at h
    split at h
    · simp at h
    · simp only [Prod.mk.injEq, and_true] at h
      obtain ⟨rfl, rfl⟩ := h
      exact readI_dec hN
theorem rdF_dec {s : ByteArray} {a : Nat} {e : Err} : ∀ (n : Nat) {l : List ByteArray} {a' : Nat}, rdF s n a e = (l, a', none) → e = none ∧ dr s a = l.flatMap encT ++ dr s a'
  | 0, l, a', h => by
    simp only [rdF, Prod.mk.injEq] at h
    obtain ⟨rfl, rfl, rfl⟩ := h
    exact ⟨rfl, rfl⟩
  | n + 1, l, a', h => by
    rw [rdF] at h
    generalize hX : rdF s n a e = X at h
    obtain ⟨l1, a1, e1⟩ := X
    dsimp only at h
    generalize hT : readT s a1 e1 1970 = T at h
    obtain ⟨t, a2, e2⟩ := T
    simp only [Prod.mk.injEq] at h
    obtain ⟨rfl, rfl, rfl⟩ := h
    obtain ⟨rfl, k1⟩ := readT_dec hT
    obtain ⟨rfl, k2⟩ := rdF_dec n hX
    refine ⟨rfl, ?_⟩
    rw [k2, k1, List.flatMap_append, List.append_assoc]
    simp
theorem rdV_dec {s : ByteArray} {a : Nat} {e : Err} : ∀ (n : Nat) {l : List Vl} {a' : Nat}, rdV s n a e = (l, a', none) → e = none ∧ dr s a = l.flatMap encV ++ dr s a'
  | 0, l, a', h => by
    simp only [rdV, Prod.mk.injEq] at h
    obtain ⟨rfl, rfl, rfl⟩ := h
    exact ⟨rfl, rfl⟩
  | n + 1, l, a', h => by
    rw [rdV] at h
    generalize hX : rdV s n a e = X at h
    obtain ⟨l1, a1, e1⟩ := X
    dsimp only at h
    generalize hI : readI s a1 e1 = I at h
    obtain ⟨i, a3, e3⟩ := I
    dsimp only at h
    generalize hT : readT s a3 e3 1970 = T at h
    obtain ⟨t, a2, e2⟩ := T
    simp only [Prod.mk.injEq] at h
    obtain ⟨rfl, rfl, rfl⟩ := h
    obtain ⟨rfl, k1⟩ := readT_dec hT
    obtain ⟨rfl, k3⟩ := readI_dec hI
    obtain ⟨rfl, k2⟩ := rdV_dec n hX
    refine ⟨rfl, ?_⟩
    rw [k2, k3, k1, List.flatMap_append, List.append_assoc]
    simp [encV]
theorem rawM_dec {s : ByteArray} {m : Mg} {a : Nat} (h : rawM s = some (m, a, none)) : dr s 0 = bytesM m ++ dr s a := by
  unfold rawM at h
  dsimp only at h
  generalize hK : readI s 0 none = K at h
  obtain ⟨k, a1, e1⟩ := K
  dsimp only at h
  generalize hG : readT s a1 e1 40 = G at h
  obtain ⟨g, a2, e2⟩ := G
  dsimp only at h
  unfold rawB at h
  have pre : e2 = none → dr s 0 = enc (zz k) ++ (encT g ++ dr s a2) := fun he => by
    subst he
    obtain ⟨rfl, k2⟩ := readT_dec hG
    obtain ⟨_, k1⟩ := readI_dec hK
    rw [k1, k2]
  by_cases hk1 : k = 1
  · rw [if_pos hk1] at h
    unfold raw1 at h
    generalize hN : readI s a2 e2 = N at h
    obtain ⟨n, a3, e3⟩ := N
    dsimp only at h
    split at h
    · simp at h
    · rename_i hc
      generalize hX : rdF s n.toNat a3 e3 = X at h
      obtain ⟨l, a4, e4⟩ := X
      simp only [Option.some.injEq, Prod.mk.injEq] at h
      obtain ⟨rfl, rfl, rfl⟩ := h
      have hlen : l.length = n.toNat := by have := rdF_len s n.toNat a3 e3; rw [hX] at this; exact this
      obtain ⟨rfl, k4⟩ := rdF_dec _ hX
      obtain ⟨rfl, k3⟩ := readI_dec hN
      rw [bytesM_k1 hk1, pre rfl, k3, k4]
      have hnF : nF ⟨k, g, n == -1, l, 0, 0, 0, [], mt⟩ = n := by
        unfold nF
        dsimp only
        have : ¬ (n < -1 ∨ n > 16) := fun hx => hc ⟨rfl, hx⟩
        by_cases hm : n = -1
        · subst hm; rfl
        · rw [if_neg (by simpa using hm)]; omega
      rw [hnF]
      simp only [List.append_assoc]
  rw [if_neg hk1] at h
  by_cases hk5 : k = 5
  · rw [if_pos hk5] at h
    unfold raw5 at h
    generalize hP : readI s a2 e2 = N at h
    obtain ⟨p, a3, e3⟩ := N
    dsimp only at h
    generalize hQ : readI s a3 e3 = N at h
    obtain ⟨q, a4, e4⟩ := N
    simp only [Option.some.injEq, Prod.mk.injEq] at h
    obtain ⟨rfl, rfl, rfl⟩ := h
    obtain ⟨rfl, k4⟩ := readI_dec hQ
    obtain ⟨rfl, k3⟩ := readI_dec hP
    rw [bytesM_k5 hk5, pre rfl, k3, k4]
    simp only [List.append_assoc]
  rw [if_neg hk5] at h
  by_cases hk34 : k = 3 ∨ k = 4
  · rw [if_pos hk34] at h
    unfold raw34 at h
    dsimp only at h
    generalize hP : readI s a2 e2 = N at h
    obtain ⟨p, a3, e3⟩ := N
    dsimp only at h
    generalize hQ : readI s a3 e3 = N at h
    obtain ⟨q, a4, e4⟩ := N
    dsimp only at h
    generalize hH : readI s a4 e4 = N at h
    obtain ⟨hh, a5, e5⟩ := N
    dsimp only at h
    have hnr := @readB_r s a5 e5
    generalize hB : readB s a5 e5 5 = N at h hnr
    obtain ⟨n, a6, e6⟩ := N
    dsimp only at h hnr
    generalize hV : rdV s n.toNat a6 e6 = N at h
    obtain ⟨v, a7, e7⟩ := N
    dsimp only at h
    generalize hT : readT s a7 e7 1970 = N at h
    obtain ⟨t, a8, e8⟩ := N
    simp only [Option.some.injEq, Prod.mk.injEq] at h
    obtain ⟨rfl, rfl, rfl⟩ := h
    have hlen : v.length = n.toNat := by have := rdV_len s n.toNat a6 e6; rw [hV] at this; exact this
    obtain ⟨rfl, k8⟩ := readT_dec hT
    obtain ⟨rfl, k7⟩ := rdV_dec _ hV
    obtain ⟨rfl, k6⟩ := readB_dec hB
    obtain ⟨rfl, k5⟩ := readI_dec hH
    obtain ⟨rfl, k4⟩ := readI_dec hQ
    obtain ⟨rfl, k3⟩ := readI_dec hP
    rw [bytesM_k34 hk34, pre rfl, k3, k4, k5, k6, k7, k8]
    dsimp only
    rw [show ((v.length : Nat) : Int) = n from by omega]
    simp only [List.append_assoc]
  rw [if_neg hk34] at h
  simp only [Option.some.injEq, Prod.mk.injEq] at h
  obtain ⟨rfl, rfl, rfl⟩ := h
  rw [bytesM_k2 hk1 (by dsimp only; omega), pre rfl]
  simp only [List.append_assoc, List.nil_append]
/-! ### both -/
theorem dr_mk (l : List UInt8) : dr (bA l) 0 = l := by simp
theorem doneE_end {s : ByteArray} {a : Nat} (h : s.size ≤ a) : doneE s a none = none := if_neg (by omega)
theorem doneE_none {s : ByteArray} {a : Nat} {e : Err} (h : doneE s a e = none) : e = none ∧ s.size ≤ a := by
  unfold doneE at h
  split at h
  · cases e <;> simp [failE] at h
  · exact ⟨h, by omega⟩
theorem readM_ok {m : Mg} (hc : checkB m = 0) (ho : m.ok) (hl : (bytesM m).length ≤ 1970) : readM (bA (bytesM m)) = (m, .lit .nilIface) := by
  have hsz : (bA (bytesM m)).size = (bytesM m).length := rfl
  exact readM_good (by omega) (rawM_enc (rest := []) (good_of hc) ho hl (by rw [dr_mk, List.append_nil])) (doneE_end (by omega)) hc
/-- What was read and found right is the bytes of a message. -/
theorem readM_inv {s : ByteArray} {m : Mg} (h : readM s = (m, .lit .nilIface)) : s.size ≤ 1970 ∧ checkB m = 0 ∧ s = bA (bytesM m) := by
  by_cases hs : s.size > 1970
  · rw [readM_big hs] at h; simp at h
  cases hr : rawM s with
  | none => rw [readM_none hs hr] at h; simp at h
  | some x =>
    obtain ⟨m', a, e⟩ := x
    cases hE : doneE s a e with
    | some x => rw [readM_bad hs hr hE] at h; simp [errD] at h
    | none =>
      obtain ⟨rfl, ha⟩ := doneE_none hE
      by_cases hc : checkB m' = 0
      · rw [readM_good hs hr hE hc] at h
        simp only [Prod.mk.injEq, and_true] at h
        subst h
        refine ⟨by omega, hc, ?_⟩
        have h1 := rawM_dec hr
        rw [dr, dr, List.drop_zero, List.drop_eq_nil_of_le (by rw [bytes_len]; exact ha), List.append_nil] at h1
        exact ByteArray.ext (Array.ext' (by rw [h1]))
      · rw [readM_check hs hr hE rfl hc] at h
        simp [errC, hc] at h
end Go.Proofs.YtkdibdlbigmkcaaDoor.Ms
