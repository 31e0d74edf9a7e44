import Derived.Test.YtpemfjnjkjckoaaLL
set_option maxRecDepth 100000
set_option linter.unusedVariables false
set_option linter.unusedSimpArgs false
/- Layer 4: what one side sends, taken by the other one. -/
namespace Go.Proofs.Ytpemfjnjkjckoaa.Lk
open Go Go.Am Co
theorem pks_get' {c a j : Nat} {l : List ByteArray} (h : j < l.length) : (pks c a l)[j]? = some (pk ((a + j : Nat) : Int) c (l.getD j mt)) := by
  have : l[j]? = some (l.getD j mt) := by simp [List.getD_eq_getElem?_getD, List.getElem?_eq_getElem h]
  exact pks_get c l a j _ this
/-- All that is sent, taken: the states and what came. -/
structure Trans (S R : Lk) (K : List ByteArray) (Rs : Nat → Lk) (n : Nat → Int) (s t : Nat → ByteArray) (b : Nat → Bool) (Dl : Nat → List ByteArray) : Prop where
  pkt : packets S = K
  len : K.length ≤ 8
  r0 : Rs 0 = R
  get : ∀ j, j < K.length → K[j]? = some (pk (n j) (S.c : Int) (s j))
  rn : ∀ j, j < K.length → -9223372036854775808 ≤ n j ∧ n j < 9223372036854775808
  sz : ∀ j, j < K.length → (s j).size ≤ 2000
  step : ∀ j, j < K.length → takeV (Rs j) (n j) (S.c : Int) (s j) = ((t j, b j, .lit .nilIface), Rs (j + 1))
  ok : ∀ j, j ≤ K.length → (Rs j).ok
  d0 : Dl 0 = []
  dn : ∀ j, j < K.length → Dl (j + 1) = Dl j ++ (if b j = true then [t j] else [])
  dl : ∀ j, (Dl j).length ≤ j
theorem trans {U V : List ByteArray} {a c w : Nat} {o : Bool} (hU : U.length ≤ 64) (hUs : ∀ s ∈ U, s.size ≤ 1970) (hV : V.length ≤ 64) (hVs : ∀ s ∈ V, s.size ≤ 1970) (ha : a ≤ U.length) (hc : c ≤ V.length) (hw : w ≤ c) (ho : w < c → U.drop a ≠ [] ∨ o = true) :
    ∃ K Rs n s t b Dl, Trans ⟨U.drop a, a, c, o⟩ ⟨V.drop w, w, a, false⟩ K Rs n s t b Dl ∧ Rs K.length = ⟨V.drop c, c, a + min 8 (U.length - a), decide (0 < min 8 (U.length - a))⟩ ∧ Dl K.length = (U.drop a).take 8 := by
  have hR : (⟨V.drop w, w, a, false⟩ : Lk).ok := ⟨by simp; omega, fun s hs => hVs s (List.mem_of_mem_drop hs), by show w ≤ _; omega, by show a ≤ _; omega⟩
  have hack : ack ⟨V.drop w, w, a, false⟩ (c : Int) = ⟨V.drop c, c, a, false⟩ := by
    rw [ack_all hw (by simp; omega), List.drop_drop, show w + (c - w) = c from by omega]
  by_cases hne : U.drop a = []
  · have hlen : U.length ≤ a := by simpa using hne
    have hmin : min 8 (U.length - a) = 0 := by omega
    cases o with
    | true =>
      refine ⟨[pk (-1) c mt], fun j => if j = 0 then ⟨V.drop w, w, a, false⟩ else ack ⟨V.drop w, w, a, false⟩ (c : Int), fun _ => -1, fun _ => mt, fun _ => mt, fun _ => false, fun _ => [], ⟨?_, by simp, rfl, ?_, fun j hj => by decide, fun j hj => by decide, ?_, ?_, rfl, fun j hj => rfl, fun j => by simp⟩, ?_, ?_⟩
      · rw [hne]; rfl
      · intro j hj
        have : j = 0 := by simpa using hj
        subst this; rfl
      · intro j hj
        have : j = 0 := by simpa using hj
        subst this
        exact take_note _ (by omega)
      · intro j hj
        split
        · exact hR
        · exact ack_ok hR (by omega)
      · show ack ⟨V.drop w, w, a, false⟩ (c : Int) = _
        rw [hack, hmin]; rfl
      · rw [hne]; rfl
    | false =>
      have hwc : w = c := by
        rcases Nat.lt_or_ge w c with h | h
        · rcases ho h with h | h
          · exact absurd hne h
          · cases h
        · omega
      subst hwc
      refine ⟨[], fun _ => ⟨V.drop w, w, a, false⟩, fun _ => 0, fun _ => mt, fun _ => mt, fun _ => false, fun _ => [], ⟨?_, by simp, rfl, fun j hj => by simp at hj, fun j hj => by simp at hj, fun j hj => by simp at hj, fun j hj => by simp at hj, fun j hj => hR, rfl, fun j hj => rfl, fun j => by simp⟩, ?_, ?_⟩
      · rw [hne]; rfl
      · rw [hmin]; rfl
      · rw [hne]; rfl
  · have hlen : a < U.length := by
      rcases Nat.lt_or_ge a U.length with h | h
      · exact h
      · exact absurd (List.drop_eq_nil_of_le h) hne
    have hD : ((U.drop a).take 8).length = min 8 (U.length - a) := drop_len'
    have hDs : ∀ s ∈ (U.drop a).take 8, s.size ≤ 1970 := fun s hs => hUs s (List.mem_of_mem_drop (List.mem_of_mem_take hs))
    have hpk : packets ⟨U.drop a, a, c, o⟩ = pks c a ((U.drop a).take 8) := packets_q hne
    generalize (U.drop a).take 8 = D at *
    have hpl := pks_len c D a
    refine ⟨pks c a D, fun j => adv ⟨V.drop w, w, a, false⟩ c j, fun j => ((a + j : Nat) : Int), fun j => D.getD j mt, fun j => D.getD j mt, fun _ => true, fun j => D.take j, ⟨?_, by omega, rfl, ?_, ?_, ?_, ?_, ?_, rfl, ?_, fun j => by simp; omega⟩, ?_, ?_⟩
    · exact hpk
    · intro j hj
      rw [hpl] at hj
      exact pks_get' hj
    · intro j hj; omega
    · intro j hj
      rw [hpl] at hj
      have := hDs (D.getD j mt) (by rw [List.getD_eq_getElem?_getD, List.getElem?_eq_getElem hj]; simp)
      omega
    · intro j hj
      exact take_adv ⟨V.drop w, w, a, false⟩ c j _
    · intro j hj
      exact adv_ok hR (by omega) (by show a + j ≤ _; omega)
    · intro j hj
      rw [hpl] at hj
      show D.take (j + 1) = D.take j ++ [D.getD j mt]
      exact take_next (by rw [List.getD_eq_getElem?_getD, List.getElem?_eq_getElem hj]; simp)
    · rw [hpl]
      have : ¬ D.length = 0 := by omega
      show adv _ c D.length = _
      unfold adv
      rw [if_neg this, hack, hD]
      simp only [Lk.mk.injEq, true_and]
      exact (decide_eq_true (by omega)).symm
    · show D.take (pks c a D).length = D
      rw [hpl, List.take_length]
end Go.Proofs.Ytpemfjnjkjckoaa.Lk
