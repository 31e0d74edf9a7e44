import Derived.Test.YtbjjimllnffcpaaDoorG5
set_option maxRecDepth 100000
set_option linter.unusedVariables false
set_option linter.unusedSimpArgs false
/- An event's groups, each once; those of a filter among them. -/
namespace Go.Proofs.YtbjjimllnffcpaaDoor.Gr
open Go Go.Am Va
/-! ### what is in form -/
theorem cell_good {a : Att} {v : Val} {n : Int} (ha : Dy.goodA a) (h0 : 0 ≤ n) (h8 : n ≤ 8) (hf : fitV a v = true) : Dy.good n (Dy.cellA a v n) n = true := by
  have hp := pow2_le (k := n.toNat) (by omega)
  unfold fitV at hf
  rcases ha with ⟨hk, h1, h2, h3⟩ | ⟨hk, _, _⟩
  · rw [if_pos hk] at hf
    simp only [Bool.and_eq_true, decide_eq_true_eq] at hf
    rw [Dy.cellA_num hk h0 h8 h1 h2 (by omega) (by omega)]
    obtain ⟨q1, q2⟩ := Dy.quo_bound (a := v.num - a.mn) (p := 2 ^ n.toNat) (d := a.mx - a.mn + 1) (by omega) (by omega) (by omega) (by omega)
    exact Dy.good_iff.2 ⟨h0, h8, h0, Int.le_refl _, q1, q2⟩
  · rw [Dy.cellA_txt (by omega) h0 h8]
    obtain ⟨q1, q2⟩ := Dy.preI_le2 v.str 2
    obtain ⟨q3, q4⟩ := Dy.txt_range (n := n) h0 h8 q1 q2
    exact Dy.good_iff.2 ⟨h0, h8, h0, Int.le_refl _, q3, q4⟩
theorem fits_none : ∀ {s : List Att} {vs : List Val} {i : Nat}, fitsFrom s vs i = none → ∀ (k : Nat) (a : Att) (v : Val), s[k]? = some a → vs[k]? = some v → fitV a v = true
  | [], _, _, _, k, a, v, ha, _ => by simp at ha
  | _ :: _, [], _, _, k, a, v, _, hv => by simp at hv
  | b :: r, w :: t, i, h, k, a, v, ha, hv => by
    unfold fitsFrom at h
    split at h
    · rename_i hf
      cases k with
      | zero =>
        obtain rfl : b = a := by simpa using ha
        obtain rfl : w = v := by simpa using hv
        exact hf
      | succ k => exact fits_none h k a v (by simpa using ha) (by simpa using hv)
    · cases h
theorem chkFrom_at (s : List Att) : ∀ (r : List Att) (i : Nat), chkFrom s r i = none → ∀ (k : Nat) (a : Att), r[k]? = some a → attBad s (i + k) a = false
  | [], _, _, k, a, h => by simp at h
  | b :: r, i, h, k, a, ha => by
    unfold chkFrom at h
    split at h
    · cases h
    · rename_i hb
      cases k with
      | zero =>
        obtain rfl : b = a := by simpa using ha
        simpa using hb
      | succ k =>
        have := chkFrom_at s r (i + 1) h k a (by simpa using ha)
        rw [show i + (k + 1) = i + 1 + k from by omega]
        exact this
theorem chk_at {s : List Att} (h : chkErr s = none) {k : Nat} {a : Att} (ha : s[k]? = some a) : nameOk a.nm = true ∧ ∀ (j : Nat) (b : Att), j < k → s[j]? = some b → b.nm.toList ≠ a.nm.toList := by
  unfold chkErr at h
  split at h
  · cases h
  · have hb := chkFrom_at s s 0 h k a ha
    rw [Nat.zero_add] at hb
    unfold attBad at hb
    simp only [Bool.or_eq_false_iff, Bool.not_eq_false'] at hb
    refine ⟨hb.1, fun j b hj hbj e => ?_⟩
    have := List.any_eq_false.1 hb.2.1 b (List.mem_of_getElem? (i := j) (by rw [List.getElem?_take_of_lt hj, hbj]))
    unfold sEq at this
    rw [e] at this
    simp at this
theorem chk_len {s : List Att} (h : chkErr s = none) : s.length ≤ 4 := by
  unfold chkErr at h
  split at h
  · cases h
  · omega
/-! ### counts -/
def cntS (x : ByteArray) : List ByteArray → Nat
  | [] => 0
  | y :: r => (if x.toList = y.toList then 1 else 0) + cntS x r
def cntS2 : List ByteArray → List ByteArray → Nat
  | [], _ => 0
  | x :: r, Y => cntS x Y + cntS2 r Y
theorem cntS_append (x : ByteArray) : ∀ Y Z, cntS x (Y ++ Z) = cntS x Y + cntS x Z
  | [], Z => by simp [cntS]
  | y :: r, Z => by simp only [List.cons_append, cntS, cntS_append x r Z]; omega
theorem cntS2_right (Y Z : List ByteArray) : ∀ X, cntS2 X (Y ++ Z) = cntS2 X Y + cntS2 X Z
  | [] => by simp [cntS2]
  | x :: r => by simp only [cntS2, cntS2_right Y Z r, cntS_append]; omega
theorem cntS2_left (Y : List ByteArray) : ∀ X Z, cntS2 (X ++ Z) Y = cntS2 X Y + cntS2 Z Y
  | [], Z => by simp [cntS2]
  | x :: r, Z => by simp only [List.cons_append, cntS2, cntS2_left Y r Z]; omega
theorem cntS_le (x : ByteArray) : ∀ Y, cntS x Y ≤ Y.length
  | [] => by simp [cntS]
  | y :: r => by
    have := cntS_le x r
    simp only [cntS, List.length_cons]
    split <;> omega
theorem cntS2_le (Y : List ByteArray) : ∀ X, cntS2 X Y ≤ X.length * Y.length
  | [] => by simp [cntS2]
  | x :: r => by
    have h1 := cntS2_le Y r
    have h2 := cntS_le x Y
    simp only [cntS2, List.length_cons, Nat.succ_mul]
    omega
theorem Small.tail {p : Int × Int} {C : List (Int × Int)} (h : Small (p :: C)) : Small C := fun q hq => h q (List.mem_cons_of_mem _ hq)
theorem cntS_names {a b : ByteArray} (ha : 46 ∉ a.toList) (hb : 46 ∉ b.toList) {p : Int × Int} (hp : 0 ≤ p.1 ∧ p.1 < 1000 ∧ 0 ≤ p.2 ∧ p.2 < 1000) : ∀ {C : List (Int × Int)}, Small C →
    cntS (nameS a p.1.toNat p.2.toNat) (names b C) = if a.toList = b.toList then Dy.cnt p C else 0
  | [], _ => by simp [names, cntS, Dy.cnt]
  | q :: r, h => by
    have hq := h q (by simp)
    have ih := cntS_names ha hb hp (C := r) h.tail
    have key := nameS_inj ha hb (l := p.1.toNat) (i := p.2.toNat) (k := q.1.toNat) (j := q.2.toNat) (by omega) (by omega) (by omega) (by omega)
    show (if (nameS a p.1.toNat p.2.toNat).toList = (nameS b q.1.toNat q.2.toNat).toList then 1 else 0) + cntS _ (names b r) = _
    rw [ih]
    by_cases hab : a.toList = b.toList
    · simp only [hab, if_true, Dy.cnt]
      congr 1
      by_cases e : p.1 = q.1 ∧ p.2 = q.2
      · rw [if_pos (key.2 ⟨hab, by omega, by omega⟩), if_pos e]
      · rw [if_neg (fun h => e (by have := (key.1 h).2; omega)), if_neg e]
    · rw [if_neg hab, if_neg hab, if_neg (fun h => hab (key.1 h).1)]
theorem cnt2_nil : ∀ c, Dy.cnt2 [] c = 0
  | [] => rfl
  | p :: r => by simp [Dy.cnt2, Dy.cnt, cnt2_nil r]
theorem cntS2_names {a b : ByteArray} (ha : 46 ∉ a.toList) (hb : 46 ∉ b.toList) {C' : List (Int × Int)} (hC' : Small C') : ∀ {C : List (Int × Int)}, Small C →
    cntS2 (names a C) (names b C') = if a.toList = b.toList then Dy.cnt2 C C' else 0
  | [], _ => by simp [names, cntS2, cnt2_nil]
  | p :: r, h => by
    have ih := cntS2_names ha hb hC' (C := r) h.tail
    show cntS (nameS a p.1.toNat p.2.toNat) (names b C') + cntS2 (names a r) (names b C') = _
    rw [ih, cntS_names ha hb (h p (by simp)) hC', Dy.cnt2_cons]
    split <;> omega
theorem attAt_some {s : List Att} {i : Nat} {a : Att} (h : s[i]? = some a) : attAt s i = a := by unfold attAt; rw [h]; rfl
theorem chainAt_small (s : List Att) (e : Evt) (n : Int) (i : Nat) : Small (chainAt s e n i) := chain_small _ _
/-- The groups of one attribute's intervals that an event has. -/
theorem cnt_reach {s : List Att} (hc : chkErr s = none) (e : Evt) (n : Int) {a : ByteArray} {k0 : Nat} {a0 : Att} (hk : s[k0]? = some a0) (ha : a.toList = a0.nm.toList) {C : List (Int × Int)} (hC : Small C) :
    ∀ i, i ≤ s.length → cntS2 (names a C) (reachN s e n i) = if k0 < i then Dy.cnt2 C (chainAt s e n k0) else 0
  | 0, _ => by
    have : ∀ X, cntS2 X [] = 0 := fun X => by
      induction X with
      | nil => rfl
      | cons x r ih => simp [cntS2, cntS, ih]
    simp [reachN, this]
  | i + 1, hi => by
    have ih := cnt_reach hc e n hk ha hC i (by omega)
    obtain ⟨b, hb⟩ : ∃ x, s[i]? = some x := ⟨_, List.getElem?_eq_getElem (by omega)⟩
    have hd0 := name_dot (chk_at hc hk).1
    have hdb := name_dot (chk_at hc hb).1
    rw [reachN, cntS2_right, ih, attAt_some hb, cntS2_names (by rw [ha]; exact hd0) hdb (chainAt_small s e n i) hC]
    rcases Nat.lt_trichotomy k0 i with h | h | h
    · have : a.toList ≠ b.nm.toList := by rw [ha]; exact (chk_at hc hb).2 k0 a0 h hk
      rw [if_pos h, if_neg this, if_pos (by omega)]
      rfl
    · subst h
      rw [hk] at hb
      obtain rfl := Option.some.inj hb
      rw [if_neg (by omega), if_pos ha, if_pos (by omega)]
      omega
    · have : a.toList ≠ b.nm.toList := by rw [ha]; exact fun e' => (chk_at hc hk).2 i b h hb e'.symm
      rw [if_neg (by omega), if_neg this, if_neg (by omega)]
/-! ### each once -/
def Differ (l : List ByteArray) : Prop := l.Pairwise fun x y => x.toList ≠ y.toList
theorem chain_pair (cell n : Int) : (Dy.chain cell n).Pairwise fun p q => p.1 < q.1 := by
  unfold Dy.chain
  split
  · unfold Dy.chainI
    rw [List.pairwise_map]
    exact List.pairwise_lt_range.imp fun h => by simpa using h
  · exact List.Pairwise.nil
theorem names_differ {a : ByteArray} (ha : 46 ∉ a.toList) : ∀ {C : List (Int × Int)}, Small C → C.Pairwise (fun p q => p.1 < q.1) → Differ (names a C)
  | [], _, _ => List.Pairwise.nil
  | p :: r, h, k => by
    obtain ⟨k1, k2⟩ := List.pairwise_cons.1 k
    refine List.pairwise_cons.2 ⟨fun y hy => ?_, names_differ ha h.tail k2⟩
    obtain ⟨q, hq, rfl⟩ := List.mem_map.1 hy
    have h1 := h p (by simp)
    have h2 := h q (by simp [hq])
    intro e
    have := ((nameS_inj ha ha (l := p.1.toNat) (i := p.2.toNat) (k := q.1.toNat) (j := q.2.toNat) (by omega) (by omega) (by omega) (by omega)).1 e).2.1
    have := k1 q hq
    omega
theorem reach_mem {s : List Att} {e : Evt} {n : Int} : ∀ {i : Nat} {x : ByteArray}, x ∈ reachN s e n i → ∃ k p, k < i ∧ x = nameS (attAt s k).nm p.1.toNat p.2.toNat ∧ p ∈ chainAt s e n k
  | 0, _, h => by simp [reachN] at h
  | i + 1, x, h => by
    rw [reachN] at h
    rcases List.mem_append.1 h with h | h
    · obtain ⟨k, p, h1, h2⟩ := reach_mem h
      exact ⟨k, p, by omega, h2⟩
    · obtain ⟨p, hp, rfl⟩ := List.mem_map.1 h
      exact ⟨i, p, by omega, rfl, hp⟩
theorem reach_differ {s : List Att} (hc : chkErr s = none) (e : Evt) (n : Int) : ∀ i, i ≤ s.length → Differ (reachN s e n i)
  | 0, _ => List.Pairwise.nil
  | i + 1, hi => by
    obtain ⟨b, hb⟩ : ∃ x, s[i]? = some x := ⟨_, List.getElem?_eq_getElem (by omega)⟩
    have hdb := name_dot (chk_at hc hb).1
    rw [reachN, attAt_some hb]
    refine List.pairwise_append.2 ⟨reach_differ hc e n i (by omega), names_differ hdb (chainAt_small s e n i) (chain_pair _ _), fun x hx y hy => ?_⟩
    obtain ⟨k, p, hk, rfl, hp⟩ := reach_mem hx
    obtain ⟨q, hq, rfl⟩ := List.mem_map.1 hy
    obtain ⟨c, hcx⟩ : ∃ x, s[k]? = some x := ⟨_, List.getElem?_eq_getElem (by omega)⟩
    have hdc := name_dot (chk_at hc hcx).1
    rw [attAt_some hcx]
    have h1 := chainAt_small s e n k p hp
    have h2 := chainAt_small s e n i q hq
    intro e'
    have := ((nameS_inj hdc hdb (l := p.1.toNat) (i := p.2.toNat) (k := q.1.toNat) (j := q.2.toNat) (by omega) (by omega) (by omega) (by omega)).1 e').1
    exact (chk_at hc hb).2 k c hk hcx this
theorem chain_length {cell n : Int} (h : Dy.good n cell n = true) : (Dy.chain cell n).length = n.toNat + 1 := by
  obtain ⟨h1, _⟩ := Dy.good_iff.1 h
  unfold Dy.chain
  rw [if_pos h]
  simp [Dy.chainI]
  omega
/-- What an event in form has in a schema in form. -/
theorem FineE.cell {s : List Att} {e : Evt} {n : Int} (h : FineE s e n) {k : Nat} (hk : k < s.length) : Dy.good n (Dy.cellA (attAt s k) (valAt e k) n) n = true := by
  have hl := evtErr_none h.evt
  obtain ⟨a, ha⟩ : ∃ x, s[k]? = some x := ⟨_, List.getElem?_eq_getElem hk⟩
  obtain ⟨v, hv⟩ : ∃ x, e.vals[k]? = some x := ⟨_, List.getElem?_eq_getElem (by omega)⟩
  rw [attAt_some ha, show valAt e k = v from by unfold valAt; rw [hv]; rfl]
  have hev := h.evt
  unfold evtErr at hev
  split at hev
  · cases hev
  · exact cell_good (Dy.chk_good h.chk a (List.mem_of_getElem? ha)) h.n0 h.n8 (fits_none hev k a v ha hv)
theorem FineE.len {s : List Att} {e : Evt} {n : Int} (h : FineE s e n) : ∀ i, i ≤ s.length → (reachN s e n i).length = i * (n.toNat + 1)
  | 0, _ => by simp [reachN]
  | i + 1, hi => by
    rw [reachN, List.length_append, names_len, h.len i (by omega), Nat.succ_mul]
    unfold chainAt
    rw [chain_length (h.cell (by omega))]
/-- An event and a filter meet in one group, just if the cell lies in the range. -/
theorem meet_count {s : List Att} {f : List Prd} {e : Evt} {n : Int} (hf : Fine s f n) (he : FineE s e n) {q : Prd} {k : Nat} {a : Att} (hq : q ∈ f) (hk : findA s q.nm = k) (ha : s[k]? = some a) :
    cntS2 (names q.nm (Dy.cover (rgQ s q n).1 (rgQ s q n).2 n)) (reachN s e n s.length) = if (rgQ s q n).1 ≤ Dy.cellA a (valAt e k) n ∧ Dy.cellA a (valAt e k) n ≤ (rgQ s q n).2 then 1 else 0 := by
  have hkl := (List.getElem?_eq_some_iff.1 ha).1
  have hnm : q.nm.toList = a.nm.toList := by
    rcases ixF_spec (fun x => sEq x.nm q.nm) s 0 with h | ⟨k', a', h1, h2, h3⟩
    · unfold findA at hk; omega
    · have : k' = k := by unfold findA at hk; omega
      subst this
      rw [ha] at h2
      obtain rfl := Option.some.inj h2
      exact (sEq_iff.1 h3).symm
  have hg : Dy.good n (Dy.cellA a (valAt e k) n) n = true := by rw [← attAt_some ha]; exact he.cell hkl
  have hrg := hf.rg hq
  have hn0 := hf.n0
  have hn8 := hf.n8
  rw [cnt_reach he.chk e n ha hnm (cover_small _ _ _) s.length (Nat.le_refl _), if_pos hkl]
  have hne : Dy.cover (rgQ s q n).1 (rgQ s q n).2 n ≠ [] := fun h0 => by
    refine Dy.cover_nil h0 ⟨hrg.2.1, Dy.good_iff.2 ⟨hn0, hn8, hn0, Int.le_refl _, hrg.1, ?_⟩, Dy.good_iff.2 ⟨hn0, hn8, hn0, Int.le_refl _, ?_, hrg.2.2⟩⟩
    · omega
    · omega
  have ht := (Dy.cnt2_tiles hg _ _ _ (Dy.tiles_of_cover hne)).1
  rw [show chainAt s e n k = Dy.chain (Dy.cellA a (valAt e k) n) n from by unfold chainAt; rw [attAt_some ha], ht]
  by_cases h : (rgQ s q n).1 ≤ Dy.cellA a (valAt e k) n ∧ Dy.cellA a (valAt e k) n ≤ (rgQ s q n).2
  · rw [if_pos h, if_pos (by omega)]
  · rw [if_neg h, if_neg (by omega)]
theorem cover_few {lo hi n : Int} (h : Dy.cover lo hi n ≠ []) : ((Dy.cover lo hi n).length : Int) ≤ max 1 (2 * n - 2) := by
  obtain ⟨N, H, X, rfl, rfl, rfl, h1, h2, h3, h4⟩ := Dy.cover_of_good (Dy.cover_good h)
  have := Dy.few h2 (H + 1 - X) X h3
  rw [h4]
  omega
end Go.Proofs.YtbjjimllnffcpaaDoor.Gr
