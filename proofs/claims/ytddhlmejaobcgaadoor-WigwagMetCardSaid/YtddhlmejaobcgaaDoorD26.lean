import Derived.Test.YtddhlmejaobcgaaDoorD24
set_option maxRecDepth 100000
set_option linter.unusedVariables false
set_option linter.unusedSimpArgs false
namespace Go.Proofs.YtddhlmejaobcgaaDoor.Dy
open Go Go.Am Va
theorem lb_cons0 (c : UInt8) (z : List UInt8) : lb (c :: z) 0 = (c.toNat : Int) := by simp [lb]
theorem lb_cons1 (c : UInt8) (z : List UInt8) : lb (c :: z) 1 = lb z 0 := by simp [lb]
theorem pref_pre {t r : List UInt8} (h : t ≠ []) : 256 * lb t 0 + lb t 1 ≤ 256 * lb (t ++ r) 0 + lb (t ++ r) 1 ∧ 256 * lb (t ++ r) 0 + lb (t ++ r) 1 ≤ 256 * lb (t ++ [255, 255]) 0 + lb (t ++ [255, 255]) 1 := by
  match t, h with
  | [a], _ =>
    have := lb_le r 0
    have e : lb ([] : List UInt8) 0 = 0 := rfl
    simp only [List.cons_append, List.nil_append, lb_cons0, lb_cons1, e]
    have : ((255 : UInt8).toNat : Int) = 255 := rfl
    omega
  | a :: b :: t, _ =>
    simp only [List.cons_append, lb_cons0, lb_cons1]
    omega
theorem toList_append (s t : ByteArray) : (s ++ t).toList = s.toList ++ t.toList := by
  rw [ByteArray.toList_eq, ByteArray.toList_eq, ByteArray.toList_eq, ByteArray.data_append, Array.toList_append]
theorem toList_take (s : ByteArray) (n : Nat) : (s.extract 0 n).toList = s.toList.take n := by
  rw [ByteArray.toList_eq, ByteArray.toList_eq, ByteArray.data_extract]
  simp
theorem pref_list {s t : ByteArray} (h : prefOk s t = true) : ∃ r, s.toList = t.toList ++ r := by
  unfold prefOk at h
  simp only [Bool.and_eq_true, beq_iff_eq] at h
  refine ⟨s.toList.drop t.size, ?_⟩
  rw [← h.2, toList_take, List.take_append_drop]
theorem pref_cells {s t : ByteArray} (h : prefOk s t = true) (h0 : sEq t (txt []) = false) : preI t 2 ≤ preI s 2 ∧ preI s 2 ≤ preI (t ++ ffS) 2 := by
  obtain ⟨r, hr⟩ := pref_list h
  have hne : t.toList ≠ [] := fun e => by
    unfold sEq at h0
    rw [e] at h0
    rw [ByteArray.toList_eq] at h0
    simp [txt] at h0
  have := pref_pre (r := r) hne
  rw [preI_lb, preI_lb, preI_lb, hr, toList_append]
  have e : ffS.toList = [255, 255] := by rw [ByteArray.toList_eq]; rfl
  rw [e]
  exact this
theorem seq_pre {s t : ByteArray} (h : sEq s t = true) : preI s 2 = preI t 2 := by
  unfold sEq at h
  rw [preI_lb, preI_lb, eq_of_beq h]
/-- A value that a predicate takes has a cell within its range. -/
theorem in_range {a : Att} {q : Prd} {v : Val} {n : Int} (h0 : 0 ≤ n) (h8 : n ≤ 8) (hga : goodA a) (ho : prdOk a q = true) (ht : takeV q v = true) :
    0 ≤ (rangeV a.k a.mn a.mx q.o q.lo q.hi q.str n).1 ∧ (rangeV a.k a.mn a.mx q.o q.lo q.hi q.str n).1 ≤ cellA a v n ∧ cellA a v n ≤ (rangeV a.k a.mn a.mx q.o q.lo q.hi q.str n).2 ∧ (rangeV a.k a.mn a.mx q.o q.lo q.hi q.str n).2 < 2 ^ n.toNat := by
  unfold prdOk at ho
  unfold takeV at ht
  unfold rangeV
  by_cases h1 : q.o = 1
  · rw [if_pos h1] at ho ht ⊢
    unfold numOk at ho
    simp only [Bool.and_eq_true, beq_iff_eq, decide_eq_true_eq] at ho ht
    obtain ⟨⟨⟨⟨k1, k2⟩, k3⟩, k4⟩, _⟩ := ho
    have r1 := rises (a := a) (v := ⟨q.lo, txt []⟩) (w := v) hga h0 h8 (fun _ => ⟨by show a.mn ≤ q.lo; omega, by omega, by show q.lo ≤ v.num; omega⟩) (fun h => by omega)
    have r2 := rises (a := a) (v := v) (w := ⟨q.hi, txt []⟩) hga h0 h8 (fun _ => ⟨by omega, by show q.hi ≤ a.mx; omega, by show v.num ≤ q.hi; omega⟩) (fun h => by omega)
    exact ⟨r1.1, r1.2.1, r2.2.1, r2.2.2⟩
  · rw [if_neg h1] at ho ht ⊢
    have hk : textOk a q = true → a.k ≠ 1 := fun h => by
      unfold textOk at h
      simp only [Bool.and_eq_true, beq_iff_eq] at h
      omega
    by_cases h2 : q.o = 2
    · rw [if_neg (by omega), if_pos h2] at ho
      rw [if_pos h2] at ht
      have hk := hk ho
      have hs := seq_pre ht
      have b := preI_le2 q.str 2
      have e : cellV a.k a.mn a.mx 0 q.str n = preI q.str 2 / 2 ^ (16 - n).toNat := cellA_txt (a := a) (v := ⟨0, q.str⟩) hk h0 h8
      rw [if_pos h2, e, cellA_txt hk h0 h8, hs]
      have := txt_range (n := n) h0 h8 b.1 b.2
      exact ⟨this.1, Int.le_refl _, Int.le_refl _, this.2⟩
    · rw [if_neg h2] at ht
      by_cases h3 : q.o = 3
      · rw [if_pos h3] at ho
        cases hz : sEq q.str (txt []) with
        | true => rw [hz] at ho; cases ho
        | false =>
          rw [hz] at ho
          have hk := hk ho
          obtain ⟨p1, p2⟩ := pref_cells ht hz
          have b := preI_le2 q.str 2
          have b' := preI_le2 (q.str ++ ffS) 2
          have e : cellV a.k a.mn a.mx 0 q.str n = preI q.str 2 / 2 ^ (16 - n).toNat := cellA_txt (a := a) (v := ⟨0, q.str⟩) hk h0 h8
          have e' : cellV a.k a.mn a.mx 0 (q.str ++ ffS) n = preI (q.str ++ ffS) 2 / 2 ^ (16 - n).toNat := cellA_txt (a := a) (v := ⟨0, q.str ++ ffS⟩) hk h0 h8
          have hpp : (0 : Int) < 2 ^ (16 - n).toNat := Int.pow_pos (by omega)
          rw [if_neg h2, e, e', cellA_txt hk h0 h8]
          exact ⟨(txt_range (n := n) h0 h8 b.1 b.2).1, mono_div p1 hpp, mono_div p2 hpp, (txt_range (n := n) h0 h8 b'.1 b'.2).2⟩
      · rw [if_neg h3, if_neg h2] at ho
        cases ho
theorem prd_small {a : Att} {q : Prd} (ho : prdOk a q = true) : q.str.size ≤ 60 := by
  have ht : textOk a q = true → q.str.size ≤ 60 := fun h => by
    unfold textOk strOk at h
    simp only [Bool.and_eq_true, decide_eq_true_eq] at h
    omega
  unfold prdOk at ho
  split at ho
  · unfold numOk sEq at ho
    simp only [Bool.and_eq_true, beq_iff_eq] at ho
    have := ho.2
    rw [ByteArray.toList_eq, ByteArray.toList_eq] at this
    have h2 : q.str.data.toList.length = 0 := by rw [this]; rfl
    have h3 : q.str.size = q.str.data.toList.length := by simp
    omega
  · split at ho
    · split at ho
      · cases ho
      · exact ht ho
    · split at ho
      · exact ht ho
      · cases ho
theorem ok13' (a : Att) (q : Prd) (n : Int) (hs : q.str.size ≤ 60) : Go.Am.Pure Tryd.prog 13 [.d (.agg (atC a)), .d (.agg (prC q)), .d (Dy.nI n)] (pairI (rangeV a.k a.mn a.mx q.o q.lo q.hi q.str n)) := ok13 a.nm a.k a.mn a.mx q.nm q.o q.lo q.hi q.str n hs
end Go.Proofs.YtddhlmejaobcgaaDoor.Dy
