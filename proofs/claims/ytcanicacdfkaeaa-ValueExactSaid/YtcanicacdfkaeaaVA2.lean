import Derived.Test.YtcanicacdfkaeaaVA1
import Derived.Test.YtcanicacdfkaeaaVB
set_option maxRecDepth 100000
set_option linter.unusedVariables false
set_option linter.unusedSimpArgs false
namespace Go.Proofs.Ytcanicacdfkaeaa.Va
open Go Go.Am
theorem find_price : findA sample priceT = 0 := by decide +kernel
theorem find_tag : findA sample tagT = 1 := by decide +kernel
theorem att_price : attOf sample priceT = ⟨priceT, 1, 0, 99⟩ := by unfold attOf; rw [find_price]; rfl
theorem att_tag : attOf sample tagT = ⟨tagT, 2, 0, 0⟩ := by unfold attOf; rw [find_tag]; rfl
theorem one_filter {s : List Att} {p : Prd} (h1 : findA s p.nm ≠ -1) (h2 : prdOk (attOf s p.nm) p = true) : fltErr s [p] = none :=
  fltErr_iff.2 ⟨by simp, by simp, by unfold Apart; simp, fun q hq => by
    obtain rfl : q = p := by simpa using hq
    exact ⟨h1, h2⟩⟩
theorem one_match {s : List Att} {p : Prd} {e : Evt} (h1 : fltErr s [p] = none) (h2 : evtErr s e = none) : matchV s [p] e = takeV p (valOf s e p.nm) := by
  unfold matchV
  rw [if_neg (by rw [h1, h2]; simp)]
  simp
/-- An event of the sample. -/
def evt2 (n : Int) (t : ByteArray) : Evt := ⟨[⟨n, txt []⟩, ⟨0, t⟩], txt []⟩
theorem evt2_ok {n : Int} {t : ByteArray} (h0 : 0 ≤ n) (h1 : n ≤ 99) (ht : strOk t = true) : evtErr sample (evt2 n t) = none := by
  unfold evtErr
  rw [if_neg (by rintro (h | h); exact h rfl; exact absurd (show ((txt []).size : Int) > 200 from h) (by decide))]
  show fitsFrom sample [⟨n, txt []⟩, ⟨0, t⟩] 0 = none
  unfold sample
  have f1 : fitV ⟨priceT, 1, 0, 99⟩ ⟨n, txt []⟩ = true := by
    unfold fitV
    rw [if_pos rfl, sEq_refl]
    simp [h0, h1]
  have f2 : fitV ⟨tagT, 2, 0, 0⟩ ⟨0, t⟩ = true := by
    unfold fitV
    rw [if_neg (by decide), ht]
    rfl
  simp only [fitsFrom, f1, f2, if_true]
theorem val_price (n : Int) (t : ByteArray) : valOf sample (evt2 n t) priceT = ⟨n, txt []⟩ := by unfold valOf; rw [find_price]; rfl
theorem val_tag (n : Int) (t : ByteArray) : valOf sample (evt2 n t) tagT = ⟨0, t⟩ := by unfold valOf; rw [find_tag]; rfl
theorem range_match {n lo hi : Int} {t : ByteArray} (h0 : 0 ≤ n) (h1 : n ≤ 99) (ht : strOk t = true) (k0 : 0 ≤ lo) (k1 : lo ≤ hi) (k2 : hi ≤ 99) : matchV sample [⟨priceT, 1, lo, hi, txt []⟩] (evt2 n t) = (decide (n ≥ lo) && decide (n ≤ hi)) := by
  rw [one_match (one_filter (by show findA sample priceT ≠ -1; rw [find_price]; decide) (by
    show prdOk (attOf sample priceT) _ = true
    rw [att_price]
    unfold prdOk numOk
    rw [if_pos rfl, sEq_refl]
    simp [k0, k1, k2])) (evt2_ok h0 h1 ht)]
  show takeV _ (valOf sample (evt2 n t) priceT) = _
  rw [val_price]
  rfl
theorem text_ok {o : Int} {u : ByteArray} (hu : strOk u = true) (ho : o = 2 ∨ (o = 3 ∧ sEq u (txt []) = false)) : fltErr sample [⟨tagT, o, 0, 0, u⟩] = none :=
  one_filter (by show findA sample tagT ≠ -1; rw [find_tag]; decide) (by
    show prdOk (attOf sample tagT) _ = true
    rw [att_tag]
    have ht : textOk ⟨tagT, 2, 0, 0⟩ ⟨tagT, o, 0, 0, u⟩ = true := by unfold textOk; rw [hu]; rfl
    unfold prdOk
    rcases ho with rfl | ⟨rfl, h⟩
    · rw [if_neg (show ¬ (2 : Int) = 1 by decide), if_neg (show ¬ (2 : Int) = 3 by decide), if_pos rfl, ht]
    · rw [if_neg (show ¬ (3 : Int) = 1 by decide), if_pos rfl, if_neg (by rw [h]; decide), ht])
theorem eq_match {n : Int} {t u : ByteArray} (h0 : 0 ≤ n) (h1 : n ≤ 99) (ht : strOk t = true) (hu : strOk u = true) : matchV sample [⟨tagT, 2, 0, 0, u⟩] (evt2 n t) = sEq t u := by
  rw [one_match (text_ok hu (.inl rfl)) (evt2_ok h0 h1 ht)]
  show takeV _ (valOf sample (evt2 n t) tagT) = _
  rw [val_tag]
  rfl
theorem pre_match {n : Int} {t u : ByteArray} (h0 : 0 ≤ n) (h1 : n ≤ 99) (ht : strOk t = true) (hu : strOk u = true) (hn : sEq u (txt []) = false) : matchV sample [⟨tagT, 3, 0, 0, u⟩] (evt2 n t) = prefOk t u := by
  rw [one_match (text_ok hu (.inr ⟨rfl, hn⟩)) (evt2_ok h0 h1 ht)]
  show takeV _ (valOf sample (evt2 n t) tagT) = _
  rw [val_tag]
  rfl
def od7 : Ords := []
theorem code7 : codeB Try.f7.ntmps [] (match Try.f7.body with | some c => c | none => .skip) = true := by kernel_rfl
theorem pref_self (s : ByteArray) : prefOk s s = true := prefOk_iff.2 ⟨[], by simp⟩
theorem pref_size {s t : ByteArray} (h : prefOk s t = true) : t.size ≤ s.size := by
  obtain ⟨r, hr⟩ := prefOk_iff.1 h
  have h1 := toList_len s
  have h2 := toList_len t
  rw [hr, List.length_append] at h1
  omega
set_option maxHeartbeats 4000000 in
theorem ok7 (t u : ByteArray) : Go.Am.Pure Try.prog 7 [.d (sD t), .d (sD u)] (bI true) := by
  refine CallOk.of tysOk mixed [] Try.func7 rfl rfl code7 ?_
  refine W.pure (ok15 t) rfl rfl ?_
  cases ht : strOk t with
  | false =>
    repeat (first | refine W.ite_t rfl ?_ | refine W.ite_f rfl ?_)
    exact W.pure ok11 rfl rfl (W.ret (RetQ.pure rfl rfl))
  | true =>
    repeat (first | refine W.ite_t rfl ?_ | refine W.ite_f rfl ?_)
    refine W.pure (ok15 u) rfl rfl ?_
    cases hu : strOk u with
    | false =>
      repeat (first | refine W.ite_t rfl ?_ | refine W.ite_f rfl ?_)
      exact W.pure ok11 rfl rfl (W.ret (RetQ.pure rfl rfl))
    | true =>
      repeat (first | refine W.ite_t rfl ?_ | refine W.ite_f rfl ?_)
      refine W.pure ok16 rfl rfl ?_
      refine W.alt_l ?_
      refine W.alt_l ?_
      have k1 := ok12 sample (by decide) [⟨tagT, 2, 0, 0, t⟩] (evt2 0 u)
      rw [eq_match (by decide) (by decide) hu ht] at k1
      have hcomm := sEq_comm u t
      have hep : sEq u t = true → prefOk u t = true := fun h => prefOk_iff.2 ⟨[], by rw [sEq_iff.1 h]; simp⟩
      have d4 : prefOk u t = true → decide ((u.size : Int) ≥ t.size) = true := fun h => decide_eq_true (by have := pref_size h; omega)
      have k2 : sEq t (txt []) = false → _ := fun hz => by
        have k2 := ok12 sample (by decide) [⟨tagT, 3, 0, 0, t⟩] (evt2 0 u)
        rw [pre_match (by decide) (by decide) hu ht hz] at k2
        exact k2
      cases he : sEq u t with
      | true =>
        rw [he] at k1 hcomm
        have hpp := hep he
        have d5 := d4 hpp
        have d2 : (true == sEq t u) = true := by rw [← hcomm]; rfl
        rw [hpp] at k2
        refine W.pure k1 rfl rfl ?_
        cases hz : sEq t (txt []) with
        | true =>
          have d1 : (!(sEq t (txt []))) = false := by rw [hz]; rfl
          repeat (first | refine W.ite_t rfl ?_ | refine W.ite_f rfl ?_ | refine W.ite_f d1 ?_)
          refine W.pure ok11 rfl rfl ?_
          repeat (first | refine W.ite_t rfl ?_ | refine W.ite_f rfl ?_ | refine W.ite_t d2 ?_ | refine W.ite_t hz ?_)
          refine W.ret ?_
          exact RetQ.pure rfl rfl
        | false =>
          have d1 : (!(sEq t (txt []))) = true := by rw [hz]; rfl
          repeat (first | refine W.ite_t rfl ?_ | refine W.ite_f rfl ?_ | refine W.ite_t d1 ?_)
          refine W.alt_l ?_
          repeat (first | refine W.ite_t rfl ?_ | refine W.ite_f rfl ?_ | refine W.ite_t d1 ?_)
          refine W.pure (k2 hz) rfl rfl ?_
          repeat (first | refine W.ite_t rfl ?_ | refine W.ite_f rfl ?_ | refine W.ite_t d1 ?_)
          refine W.pure ok11 rfl rfl ?_
          repeat (first | refine W.ite_t rfl ?_ | refine W.ite_f rfl ?_ | refine W.ite_t d2 ?_ | refine W.ite_f hz ?_)
          refine W.ret ?_
          exact RetQ.pure rfl (ret_bI d5)
      | false =>
        rw [he] at k1 hcomm
        have d2 : (false == sEq t u) = true := by rw [← hcomm]; rfl
        refine W.pure k1 rfl rfl ?_
        cases hz : sEq t (txt []) with
        | true =>
          have d1 : (!(sEq t (txt []))) = false := by rw [hz]; rfl
          repeat (first | refine W.ite_t rfl ?_ | refine W.ite_f rfl ?_ | refine W.ite_f d1 ?_)
          refine W.pure ok11 rfl rfl ?_
          repeat (first | refine W.ite_t rfl ?_ | refine W.ite_f rfl ?_ | refine W.ite_t d2 ?_ | refine W.ite_t hz ?_)
          refine W.ret ?_
          exact RetQ.pure rfl rfl
        | false =>
          have d1 : (!(sEq t (txt []))) = true := by rw [hz]; rfl
          repeat (first | refine W.ite_t rfl ?_ | refine W.ite_f rfl ?_ | refine W.ite_t d1 ?_)
          refine W.alt_l ?_
          repeat (first | refine W.ite_t rfl ?_ | refine W.ite_f rfl ?_ | refine W.ite_t d1 ?_)
          have k3 := k2 hz
          cases hpp : prefOk u t with
          | true =>
            have d5 := d4 hpp
            rw [hpp] at k3
            refine W.pure k3 rfl rfl ?_
            repeat (first | refine W.ite_t rfl ?_ | refine W.ite_f rfl ?_ | refine W.ite_t d1 ?_)
            refine W.pure ok11 rfl rfl ?_
            repeat (first | refine W.ite_t rfl ?_ | refine W.ite_f rfl ?_ | refine W.ite_t d2 ?_)
            refine W.ret ?_
            exact RetQ.pure rfl (ret_bI d5)
          | false =>
            rw [hpp] at k3
            refine W.pure k3 rfl rfl ?_
            repeat (first | refine W.ite_t rfl ?_ | refine W.ite_f rfl ?_ | refine W.ite_t d1 ?_)
            refine W.pure ok11 rfl rfl ?_
            repeat (first | refine W.ite_t rfl ?_ | refine W.ite_f rfl ?_ | refine W.ite_t d2 ?_)
            refine W.ret ?_
            exact RetQ.pure rfl rfl
end Go.Proofs.Ytcanicacdfkaeaa.Va
