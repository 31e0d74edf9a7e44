import Derived.Test.YtllcjdijkmancaaD25
set_option maxRecDepth 100000
set_option linter.unusedVariables false
set_option linter.unusedSimpArgs false
namespace Go.Proofs.Ytllcjdijkmancaa.Dy
open Go Go.Am Va
theorem lb_cons0 (c : UInt8) (z : List UInt8) : lb (c :: z) 0 = (c.toNat : Int) := by simp [lb]
theorem lb_cons1 (c : UInt8) (z : List UInt8) : lb (c :: z) 1 = lb z 0 := by simp [lb]
theorem pref_pre {t r : List UInt8} (h : t ≠ []) : 256 * lb t 0 + lb t 1 ≤ 256 * lb (t ++ r) 0 + lb (t ++ r) 1 ∧ 256 * lb (t ++ r) 0 + lb (t ++ r) 1 ≤ 256 * lb (t ++ [255, 255]) 0 + lb (t ++ [255, 255]) 1 := by
  match t, h with
  | [a], _ =>
    have := lb_le r 0
    have e : lb ([] : List UInt8) 0 = 0 := rfl
    simp only [List.cons_append, List.nil_append, lb_cons0, lb_cons1, e]
    have : ((255 : UInt8).toNat : Int) = 255 := rfl
    omega
  | a :: b :: t, _ =>
    simp only [List.cons_append, lb_cons0, lb_cons1]
    omega
theorem toList_append (s t : ByteArray) : (s ++ t).toList = s.toList ++ t.toList := by
  rw [ByteArray.toList_eq, ByteArray.toList_eq, ByteArray.toList_eq, ByteArray.data_append, Array.toList_append]
theorem toList_take (s : ByteArray) (n : Nat) : (s.extract 0 n).toList = s.toList.take n := by
  rw [ByteArray.toList_eq, ByteArray.toList_eq, ByteArray.data_extract]
  simp
theorem pref_list {s t : ByteArray} (h : prefOk s t = true) : ∃ r, s.toList = t.toList ++ r := by
  unfold prefOk at h
  simp only [Bool.and_eq_true, beq_iff_eq] at h
  refine ⟨s.toList.drop t.size, ?_⟩
  rw [← h.2, toList_take, List.take_append_drop]
theorem pref_cells {s t : ByteArray} (h : prefOk s t = true) (h0 : sEq t (txt []) = false) : preI t 2 ≤ preI s 2 ∧ preI s 2 ≤ preI (t ++ ffS) 2 := by
  obtain ⟨r, hr⟩ := pref_list h
  have hne : t.toList ≠ [] := fun e => by
    unfold sEq at h0
    rw [e] at h0
    rw [ByteArray.toList_eq] at h0
    simp [txt] at h0
  have := pref_pre (r := r) hne
  rw [preI_lb, preI_lb, preI_lb, hr, toList_append]
  have e : ffS.toList = [255, 255] := by rw [ByteArray.toList_eq]; rfl
  rw [e]
  exact this
theorem seq_pre {s t : ByteArray} (h : sEq s t = true) : preI s 2 = preI t 2 := by
  unfold sEq at h
  rw [preI_lb, preI_lb, eq_of_beq h]
/-- A value that a predicate takes has a cell within its range. -/
theorem in_range {a : Att} {q : Prd} {v : Val} {n : Int} (h0 : 0 ≤ n) (h8 : n ≤ 8) (hga : goodA a) (ho : prdOk a q = true) (ht : takeV q v = true) :
    0 ≤ (rangeV a.k a.mn a.mx q.o q.lo q.hi q.str n).1 ∧ (rangeV a.k a.mn a.mx q.o q.lo q.hi q.str n).1 ≤ cellA a v n ∧ cellA a v n ≤ (rangeV a.k a.mn a.mx q.o q.lo q.hi q.str n).2 ∧ (rangeV a.k a.mn a.mx q.o q.lo q.hi q.str n).2 < 2 ^ n.toNat := by
  unfold prdOk at ho
  unfold takeV at ht
  unfold rangeV
  by_cases h1 : q.o = 1
  · rw [if_pos h1] at ho ht ⊢
    unfold numOk at ho
    simp only [Bool.and_eq_true, beq_iff_eq, decide_eq_true_eq] at ho ht
    obtain ⟨⟨⟨⟨k1, k2⟩, k3⟩, k4⟩, _⟩ := ho
    have r1 := rises (a := a) (v := ⟨q.lo, txt []⟩) (w := v) hga h0 h8 (fun _ => ⟨by show a.mn ≤ q.lo; omega, by omega, by show q.lo ≤ v.num; omega⟩) (fun h => by omega)
    have r2 := rises (a := a) (v := v) (w := ⟨q.hi, txt []⟩) hga h0 h8 (fun _ => ⟨by omega, by show q.hi ≤ a.mx; omega, by show v.num ≤ q.hi; omega⟩) (fun h => by omega)
    exact ⟨r1.1, r1.2.1, r2.2.1, r2.2.2⟩
  · rw [if_neg h1] at ho ht ⊢
    have hk : textOk a q = true → a.k ≠ 1 := fun h => by
      unfold textOk at h
      simp only [Bool.and_eq_true, beq_iff_eq] at h
      omega
    by_cases h2 : q.o = 2
    · rw [if_neg (by omega), if_pos h2] at ho
      rw [if_pos h2] at ht
      have hk := hk ho
      have hs := seq_pre ht
      have b := preI_le2 q.str 2
      have e : cellV a.k a.mn a.mx 0 q.str n = preI q.str 2 / 2 ^ (16 - n).toNat := cellA_txt (a := a) (v := ⟨0, q.str⟩) hk h0 h8
      rw [if_pos h2, e, cellA_txt hk h0 h8, hs]
      have := txt_range (n := n) h0 h8 b.1 b.2
      exact ⟨this.1, Int.le_refl _, Int.le_refl _, this.2⟩
    · rw [if_neg h2] at ht
      by_cases h3 : q.o = 3
      · rw [if_pos h3] at ho
        cases hz : sEq q.str (txt []) with
        | true => rw [hz] at ho; cases ho
        | false =>
          rw [hz] at ho
          have hk := hk ho
          obtain ⟨p1, p2⟩ := pref_cells ht hz
          have b := preI_le2 q.str 2
          have b' := preI_le2 (q.str ++ ffS) 2
          have e : cellV a.k a.mn a.mx 0 q.str n = preI q.str 2 / 2 ^ (16 - n).toNat := cellA_txt (a := a) (v := ⟨0, q.str⟩) hk h0 h8
          have e' : cellV a.k a.mn a.mx 0 (q.str ++ ffS) n = preI (q.str ++ ffS) 2 / 2 ^ (16 - n).toNat := cellA_txt (a := a) (v := ⟨0, q.str ++ ffS⟩) hk h0 h8
          have hpp : (0 : Int) < 2 ^ (16 - n).toNat := Int.pow_pos (by omega)
          rw [if_neg h2, e, e', cellA_txt hk h0 h8]
          exact ⟨(txt_range (n := n) h0 h8 b.1 b.2).1, mono_div p1 hpp, mono_div p2 hpp, (txt_range (n := n) h0 h8 b'.1 b'.2).2⟩
      · rw [if_neg h3, if_neg h2] at ho
        cases ho
theorem prd_small {a : Att} {q : Prd} (ho : prdOk a q = true) : q.str.size ≤ 60 := by
  have ht : textOk a q = true → q.str.size ≤ 60 := fun h => by
    unfold textOk strOk at h
    simp only [Bool.and_eq_true, decide_eq_true_eq] at h
    omega
  unfold prdOk at ho
  split at ho
  · unfold numOk sEq at ho
    simp only [Bool.and_eq_true, beq_iff_eq] at ho
    have := ho.2
    rw [ByteArray.toList_eq, ByteArray.toList_eq] at this
    have h2 : q.str.data.toList.length = 0 := by rw [this]; rfl
    have h3 : q.str.size = q.str.data.toList.length := by simp
    omega
  · split at ho
    · split at ho
      · cases ho
      · exact ht ho
    · split at ho
      · exact ht ho
      · cases ho
def od10 : Ords := [(10, [0, 1, 2, 3, 4, 5, 1006, 7, 8, 9, 10, 11]), (11, [0, 1, 2, 3, 4, 5, 6, 7, 8, 9, 1010, 11])]
theorem code10 : codeB Try.f10.ntmps od10 (match Try.f10.body with | some c => c | none => .skip) = true := by kernel_rfl
theorem ok24' (a : Att) (q : Prd) (n : Int) (hs : q.str.size ≤ 60) : Go.Am.Pure Try.prog 24 [.d (.agg (atC a)), .d (.agg (prC q)), .d (Dy.nI n)] (pairI (rangeV a.k a.mn a.mx q.o q.lo q.hi q.str n)) := ok24 a.nm a.k a.mn a.mx q.nm q.o q.lo q.hi q.str n hs
theorem end10 {p : List Att} {f : List Prd} {e0 e : Evt} {n : Int} {i : Nat} {fr : Fr} {b : Blk} (hi : i < f.length) (hf : f.length ≤ 6) (h3 : fr.get 3 = .d (Dy.nI n)) (h9 : fr.get 9 = slF atC p) (h13 : fr.get 13 = .ptr 1 0) (h55 : fr.get 55 = slF prC f) (h56 : fr.get 56 = .d (Dy.nI f.length)) (h57 : fr.get 57 = .d (Dy.nI (IntKind.i64.wrap ((i : Int) + 1)))) :
    ∃ m fr' σ', m < f.length - i ∧ Trim 2 fr [bD (evC e0), bD (evC e), b] fr' σ' ∧ ∃ i : Nat, fr' = [(3, .d (Dy.nI n)), (9, slF atC p), (13, .ptr 1 0), (55, slF prC f), (56, .d (Dy.nI f.length)), (57, .d (Dy.nI i))] ∧ σ' = [bD (evC e0), bD (evC e)] ∧ i ≤ f.length ∧ m = f.length - i := by
  have g1 : IntKind.i64.wrap ((i : Int) + 1) = ((i + 1 : Nat) : Int) := by rw [wrap64 (by omega) (by omega)]; rfl
  rw [g1] at h57
  refine ⟨_, _, _, ?_, Trim.of [3, 9, 13, 55, 56, 57] [0, 1] (by decide) (by simp) (by intro j hj; have : j = 0 ∨ j = 1 := (by omega); rcases this with rfl | rfl <;> rfl), i + 1, ?_, rfl, by omega, rfl⟩
  · omega
  · simp only [keepFr, h3, h9, h13, h55, h56, h57]; rfl
set_option maxHeartbeats 8000000 in
theorem ok10 (s : List Att) (f0 : List Prd) (e0 : Evt) (n : Int) : Go.Am.Pure Try.prog 10 [slF atC s, slF prC f0, .d (.agg (evC e0)), .d (Dy.nI n)] (Dy.bI true) := by
  refine CallOk.of Va.tysOk Va.mixed od10 Try.func10 rfl rfl code10 ?_
  refine W.pure (Va.ok28 s) rfl rfl ?_
  refine W.pure (Va.ok30 f0) rfl rfl ?_
  refine W.pure (Va.ok31 e0) rfl rfl ?_
  have hp6 := att6_len s
  have hf6 := prd6_len f0
  generalize att6 s = p at *
  generalize prd6 f0 = f at *
  generalize evt6 e0 = e at *
  have k1 := Va.ok29 p
  cases hc : chkErr p with
  | some i =>
    rw [hc] at k1
    refine W.pure k1 rfl rfl ?_
    repeat (first | refine W.ite_t rfl ?_ | refine W.ite_f rfl ?_)
    exact W.pure ok13 rfl rfl (W.ret (RetQ.pure rfl rfl))
  | none =>
    rw [hc] at k1
    refine W.pure k1 rfl rfl ?_
    have hgood := chk_good hc
    clear hc k1
    repeat (first | refine W.ite_t rfl ?_ | refine W.ite_f rfl ?_)
    refine W.pure (Va.ok32 p (by omega) f e) rfl rfl ?_
    cases hm : matchV p f e with
    | false =>
      repeat (first | refine W.ite_t rfl ?_ | refine W.ite_f rfl ?_)
      exact W.pure ok13 rfl rfl (W.ret (RetQ.pure rfl rfl))
    | true =>
      repeat (first | refine W.ite_t rfl ?_ | refine W.ite_f rfl ?_)
      refine W.ite (fun c1 => ?_) (fun c1 => ?_)
      · repeat (first | refine W.ite_t rfl ?_ | refine W.ite_f rfl ?_ | refine W.ite_t c1 ?_)
        exact W.pure ok13 rfl rfl (W.ret (RetQ.pure rfl rfl))
      repeat (first | refine W.ite_t rfl ?_ | refine W.ite_f rfl ?_ | refine W.ite_f c1 ?_)
      refine W.ite (fun c2 => ?_) (fun c2 => ?_)
      · exact W.pure ok13 rfl rfl (W.ret (RetQ.pure rfl rfl))
      have n1 := of_decide_eq_false c1
      have n2 := of_decide_eq_false c2
      unfold matchV at hm
      split at hm
      · cases hm
      rename_i hno
      have hfe : fltErr p f = none := Decidable.byContradiction fun h => hno (.inl h)
      have hee : evtErr p e = none := Decidable.byContradiction fun h => hno (.inr h)
      have hlen := evtErr_none hee
      have htk : ∀ q ∈ f, takeV q (valOf p e q.nm) = true := fun q hq => by
        have : (f.any fun p_1 => !takeV p_1 (valOf p e p_1.nm)) = false := by simpa using hm
        have := List.any_eq_false.1 this q hq
        simpa using this
      refine W.loop (fun k fr σ => ∃ i : Nat, fr = [(3, .d (Dy.nI n)), (9, slF atC p), (13, .ptr 1 0), (55, slF prC f), (56, .d (Dy.nI f.length)), (57, .d (Dy.nI i))] ∧ σ = [bD (evC e0), bD (evC e)] ∧ i ≤ f.length ∧ k = f.length - i) f.length
        (Start.of [3, 9, 13, 55, 56, 57] [] (by simp)) ⟨0, rfl, rfl, by omega, rfl⟩ ?_
      rintro k fr σ ⟨i, rfl, rfl, hi, rfl⟩
      refine W.ite (fun c3 => ?_) (fun c3 => ?_)
      · have hil : i < f.length := by have := of_decide_eq_true c3; omega
        obtain ⟨q, hq⟩ : ∃ x, f[i]? = some x := ⟨_, List.getElem?_eq_getElem hil⟩
        have hqm := List.mem_of_getElem? hq
        obtain ⟨hnf, hpo⟩ := prd_found hfe hqm
        rcases findA_spec p q.nm with hk | ⟨k, a, hk, ha, hat⟩
        · exact absurd hk hnf
        have hkl := (List.getElem?_eq_some_iff.1 ha).1
        obtain ⟨v, hv⟩ : ∃ x, e.vals[k]? = some x := ⟨_, List.getElem?_eq_getElem (by omega)⟩
        have hvo : valOf p e q.nm = v := by unfold valOf; rw [hk]; simp [hv]
        have ht := htk q hqm
        rw [hvo] at ht
        rw [hat] at hpo
        have hga := hgood a (List.mem_of_getElem? ha)
        obtain ⟨q1, q2, q3, q4⟩ := in_range (n := n) (by omega) (by omega) hga hpo ht
        have hsm := prd_small hpo
        refine W.need (ix_ok prC_len (by decide) hil) ?_
        refine W.ld (prE hq) ?_
        refine W.pure (hk ▸ Va.ok33 p (by omega) q.nm) rfl rfl ?_
        refine W.need (ix_ok atC_len (by decide) hkl) ?_
        refine W.ld (atE ha) ?_
        refine W.pure (ok24' a q n hsm) rfl rfl ?_
        refine W.need (ix_ok atC_len (by decide) hkl) ?_
        refine W.ld (atE ha) ?_
        refine W.need (ix_ok vaC_len (by decide) (by omega)) ?_
        refine W.ld (vaE hv) ?_
        refine W.pure (ok26' a v n) rfl rfl ?_
        generalize rangeV a.k a.mn a.mx q.o q.lo q.hi q.str n = r at *
        generalize cellA a v n = c at *
        have hp2 := pow2_le (k := n.toNat) (by omega)
        have d1 : decide (r.1 < 0) = false := decide_eq_false (by omega)
        have d2 : decide (c < r.1) = false := decide_eq_false (by omega)
        have d3 : decide (c > r.2) = false := decide_eq_false (by omega)
        have d4 : decide (r.2 ≥ IntKind.i64.wrap (1 * 2 ^ min n.toNat IntKind.i64.bits)) = false := by
          rw [min64 (by omega), Int.one_mul, wrap64 (by omega) (by omega)]
          exact decide_eq_false (by omega)
        have hn0 : 0 ≤ n := by omega
        repeat (first | refine W.ite_t rfl ?_ | refine W.ite_f rfl ?_ | refine W.ite_f d1 ?_ | refine W.ite_f d2 ?_ | refine W.ite_f d3 ?_)
        refine W.need hn0 ?_
        repeat (first | refine W.ite_t rfl ?_ | refine W.ite_f rfl ?_ | refine W.ite_f d1 ?_ | refine W.ite_f d2 ?_ | refine W.ite_f d3 ?_ | refine W.ite_f d4 ?_)
        exact W.ret (end10 hil hf6 rfl rfl rfl rfl rfl rfl)
      · refine W.ret ?_
        exact W.pure ok13 rfl rfl (W.ret (RetQ.pure rfl rfl))
end Go.Proofs.Ytllcjdijkmancaa.Dy
