import Derived.Test.YtddhlmejaobcgaaDoorFQ
import Derived.Test.YtddhlmejaobcgaaDoorE
set_option maxRecDepth 100000
set_option linter.unusedVariables false
set_option linter.unusedSimpArgs false
/- Read: a filter that is a schema's, printed, is read. -/
namespace Go.Proofs.YtddhlmejaobcgaaDoor.Va
open Go Go.Am
def od19 : Ords := []
theorem code19 : codeB Tryd.f19.ntmps od19 (match Tryd.f19.body with | some c => c | none => .skip) = true := by kernel_rfl
theorem ok19 (s : List Att) (hs : s.length ≤ 1000) (f : List Prd) (hf0 : f ≠ []) (hf : ∀ p ∈ f, ∃ c w, Rd p c w) (hs3 : (prF f).length ≤ 300) (hl : f.length ≤ 1000) (hv : fltErr s f = none) :
    Go.Am.Pure Tryd.prog 19 [slF atC s, .d (sD (txt (prF f)))] (.tuple [slF prC f, .d (.lit .nilIface)]) := by
  refine CallOk.of tysOk mixed od19 Tryd.func19 rfl rfl code19 ?_
  have kF := ok17 s (by omega) f
  rw [hv] at kF
  refine W.pure (ok15 f hf0 hf hs3 hl) rfl rfl ?_
  repeat (first | refine W.ite_t rfl ?_ | refine W.ite_f rfl ?_)
  refine W.pure kF rfl rfl ?_
  refine W.pure (Er.okIsNil 3) rfl rfl ?_
  repeat (first | refine W.ite_t rfl ?_ | refine W.ite_f rfl ?_)
  exact W.ret (RetQ.pure rfl rfl)
end Go.Proofs.YtddhlmejaobcgaaDoor.Va

set_option maxRecDepth 100000
set_option linter.unusedVariables false
set_option linter.unusedSimpArgs false
/- What is known of a filter that is a schema's. -/
namespace Go.Proofs.YtddhlmejaobcgaaDoor.Va
open Go Go.Am
/-- Has a text a byte of a kind? -/
def anyB (p : Int → Bool) (s : ByteArray) : Bool := s.data.toList.any fun b => p ((b.toNat : Nat) : Int)
def byteI (s : ByteArray) (i : Nat) : Int := ((s.data.getD i 0).toNat : Int)
theorem getD_eq {s : ByteArray} {i : Nat} (h : i < s.data.size) : s.data.getD i 0 = s.data[i] := by
  unfold Array.getD
  exact dif_pos h
theorem get_lt {s : ByteArray} {i : Nat} (h : i < s.size) : s.data.toList[i]? = some (s.data.getD i 0) := by
  have h : i < s.data.size := h
  rw [getD_eq h, Array.getElem?_toList, Array.getElem?_eq_getElem h]
theorem get_bang {s : ByteArray} {i : Nat} (h : i < s.size) : s.get! (i + 0) = s.data.getD i 0 := by
  have h : i < s.data.size := h
  rw [getD_eq h]
  show s.data[i]! = _
  rw [getElem!_pos s.data i h]
theorem dec_lo {s : ByteArray} {i : Nat} (h : i < s.size) (hb : (s.data.getD i 0).toNat < 128) : Utf8.decode s i = ((s.data.getD i 0).toNat, 1) := by
  have e : s.get! (i + 0) = s.data.getD i 0 := get_bang h
  simp only [Utf8.decode, e]
  rw [if_pos hb]
theorem dec_hi {s : ByteArray} {i : Nat} (h : i < s.size) (hb : ¬ (s.data.getD i 0).toNat < 128) : 128 ≤ (Utf8.decode s i).1 := by
  have e : s.get! (i + 0) = s.data.getD i 0 := get_bang h
  simp only [Utf8.decode, e]
  rw [if_neg hb]
  repeat' split
  all_goals simp_all [Utf8.runeError]
  all_goals omega
theorem runeIx_any (p : Int → Bool) (hp : ∀ r, 128 ≤ r → p r = true) (s : ByteArray) : ∀ f pos, pos ≤ s.size → s.size - pos < f →
    decide (runeIx p s f pos ≥ 0) = (s.data.toList.drop pos).any fun b => p ((b.toNat : Nat) : Int)
  | 0, pos, _, h => by omega
  | f + 1, pos, hle, h => by
    unfold runeIx
    by_cases hs : pos < s.size
    · rw [if_pos hs]
      have hg := get_lt hs
      rw [List.drop_eq_getElem_cons (by simpa using hs), List.any_cons]
      have hb : s.data.toList[pos]'(by simpa using hs) = s.data.getD pos 0 := by
        rw [List.getElem?_eq_getElem (by simpa using hs)] at hg
        exact Option.some.inj hg
      rw [hb]
      by_cases h128 : (s.data.getD pos 0).toNat < 128
      · rw [dec_lo hs h128]
        dsimp only
        cases hpb : p (((s.data.getD pos 0).toNat : Nat) : Int) with
        | true => rw [if_pos rfl]; simp
        | false =>
          rw [if_neg (by decide), Bool.false_or]
          exact runeIx_any p hp s f (pos + 1) (by omega) (by omega)
      · rw [hp _ (by omega : (128 : Int) ≤ (((s.data.getD pos 0).toNat : Nat) : Int)), Bool.true_or]
        have := dec_hi hs h128
        rw [hp _ (by omega), if_pos rfl]
        simp
    · rw [if_neg hs, List.drop_eq_nil_of_le (by simp; omega)]
      rfl
theorem hasRune_any (p : Int → Bool) (hp : ∀ r, 128 ≤ r → p r = true) (s : ByteArray) : hasRune p s = anyB p s := by
  unfold hasRune
  rw [runeIx_any p hp s _ 0 (by omega) (by omega), List.drop_zero]
  rfl
theorem badStr_hi (r : Int) (h : 128 ≤ r) : badStr r = true := by simp [badStr]; omega
theorem badName_hi (r : Int) (h : 128 ≤ r) : badName r = true := by simp [badName]; omega
theorem any_next {p : Int → Bool} {s : ByteArray} {i : Nat} (h : i < s.size) : ((s.data.toList.take (i + 1)).any fun b => p ((b.toNat : Nat) : Int)) = (((s.data.toList.take i).any fun b => p ((b.toNat : Nat) : Int)) || p (byteI s i)) := by
  rw [List.take_add_one, get_lt h, List.any_append]
  simp [byteI]
theorem any_all {p : Int → Bool} {s : ByteArray} : ((s.data.toList.take s.size).any fun b => p ((b.toNat : Nat) : Int)) = anyB p s := by
  rw [List.take_of_length_le (by simp)]; rfl
theorem any_hit {p : Int → Bool} {s : ByteArray} {i : Nat} (h : i < s.size) (hb : p (byteI s i) = true) : anyB p s = true := by
  unfold anyB
  rw [List.any_eq_true]
  exact ⟨_, List.mem_of_getElem? (get_lt h), hb⟩
theorem wrapN {i : Nat} (h : i < 4611686018427387904) : IntKind.i64.wrap ((i : Int) + 1) = ((i + 1 : Nat) : Int) := by rw [wrap64 (by omega) (by omega)]; omega
theorem strOk_any (s : ByteArray) : strOk s = (decide ((s.size : Int) ≤ 40) && !(anyB badStr s)) := by
  unfold strOk; rw [hasRune_any _ badStr_hi]
theorem str_bytes {s : ByteArray} (h : strOk s = true) : s.size ≤ 40 ∧ ∀ x ∈ s.data.toList, prn x := by
  rw [strOk_any, Bool.and_eq_true] at h
  have h1 := of_decide_eq_true h.1
  refine ⟨by omega, fun x hx => ?_⟩
  have h2 : anyB badStr s = false := by simpa using h.2
  unfold anyB at h2
  rw [List.any_eq_false] at h2
  have h3 := h2 x hx
  unfold badStr at h3
  simp only [Bool.or_eq_true, decide_eq_true_eq, not_or] at h3
  unfold prn
  omega
theorem name_bytes {s : ByteArray} (h : nameOk s = true) : s.size ≤ 12 ∧ ∃ c w, s = txt (c :: w) ∧ isLet c = true ∧ ∀ x ∈ w, wdC x = true := by
  unfold nameOk at h
  split at h
  · cases h
  · rename_i hn
    rw [not_or, not_or, not_or] at hn
    obtain ⟨n1, n2, n3, n4⟩ := hn
    have h0 : 0 < s.size := size_pos (by simpa using n1)
    have h2 : anyB badName s = false := by rw [hasRune_any _ badName_hi] at h; simpa using h
    unfold anyB at h2
    rw [List.any_eq_false] at h2
    refine ⟨by omega, ?_⟩
    cases hl : s.data.toList with
    | nil =>
      have := congrArg List.length hl
      rw [Array.length_toList] at this
      have e : s.data.size = s.size := rfl
      have z : s.data.size = 0 := this
      omega
    | cons c w =>
      have hb : byte0 s = (c.toNat : Int) := by
        unfold byte0
        have := get_lt h0
        rw [hl] at this
        have hc : c = s.data.getD 0 0 := by simpa using this
        rw [← hc]
      refine ⟨c, w, by rw [← hl, txt_data], ?_, fun x hx => ?_⟩
      · unfold isLet
        rw [hb] at n3 n4
        rw [Bool.and_eq_true]
        exact ⟨decide_eq_true (by omega), decide_eq_true (by omega)⟩
      · have h3 := h2 x (by rw [hl]; exact List.mem_cons_of_mem _ hx)
        unfold badName at h3
        unfold wdC isLet isDig
        simp only [Bool.and_eq_true, Bool.or_eq_true, decide_eq_true_eq] at h3 ⊢
        omega
end Go.Proofs.YtddhlmejaobcgaaDoor.Va

set_option maxRecDepth 100000
set_option linter.unusedVariables false
set_option linter.unusedSimpArgs false
/- A filter that is a schema's is read as it was printed; its predicates one by one. -/
namespace Go.Proofs.YtddhlmejaobcgaaDoor.Va
open Go Go.Am
theorem toL_eq {a b : ByteArray} (h1 : a.toList = b.toList) : a = b := by
  rw [ByteArray.toList_eq, ByteArray.toList_eq] at h1
  exact ByteArray.ext (Array.toList_inj.1 h1)
theorem sEq_eq {a b : ByteArray} (h : sEq a b = true) : a = b := by
  have h1 : a.toList = b.toList := by unfold sEq at h; exact eq_of_beq h
  rw [ByteArray.toList_eq, ByteArray.toList_eq] at h1
  exact ByteArray.ext (Array.toList_inj.1 h1)
theorem sEq_self (a : ByteArray) : sEq a a = true := by unfold sEq; exact beq_self_eq_true _
theorem chkFrom_none2 (s : List Att) : ∀ (r : List Att) (i : Nat), chkFrom s r i = none → ∀ a ∈ r, ∃ j, attBad s j a = false
  | [], _, _, a, ha => by cases ha
  | b :: r, i, h, a, ha => by
    unfold chkFrom at h
    split at h
    · cases h
    · rename_i hb
      rcases List.mem_cons.1 ha with rfl | ha
      · exact ⟨i, by simpa using hb⟩
      · exact chkFrom_none2 s r (i + 1) h a ha
theorem chk_facts {s : List Att} (h : chkErr s = none) : s.length ≤ 4 ∧ ∀ a ∈ s, nameOk a.nm = true ∧ (a.k = 1 → -2147483648 ≤ a.mn ∧ a.mx ≤ 2147483648) := by
  unfold chkErr at h
  split at h
  · cases h
  · rename_i hn
    refine ⟨by omega, fun a ha => ?_⟩
    obtain ⟨j, hj⟩ := chkFrom_none2 s s 0 h a ha
    unfold attBad at hj
    rw [Bool.or_eq_false_iff, Bool.or_eq_false_iff] at hj
    refine ⟨by simpa using hj.1, fun hk => ?_⟩
    have h3 := hj.2.2
    rw [if_pos hk, Bool.or_eq_false_iff, Bool.or_eq_false_iff] at h3
    have a1 := of_decide_eq_false h3.1
    have a2 := of_decide_eq_false h3.2.1
    omega
/-- What is a schema's is read as it was printed. -/
theorem prd_rd {s : List Att} {f : List Prd} (hc : chkErr s = none) (h : fltErr s f = none) {p : Prd} (hp : p ∈ f) : (∃ c w, Rd p c w) ∧ prOk p := by
  obtain ⟨h1, h2⟩ := prd_found h hp
  rcases ixF_spec (fun x => sEq x.nm p.nm) s 0 with he | ⟨k, a, k1, k2, k3⟩
  · exact absurd he h1
  · have hatt : attOf s p.nm = a := by unfold attOf findA; rw [k1]; simp [k2]
    rw [hatt] at h2
    have ham := List.mem_of_getElem? k2
    obtain ⟨n1, n2⟩ := (chk_facts hc).2 a ham
    rw [sEq_eq k3] at n1
    obtain ⟨z, c, w, e1, e2, e3⟩ := name_bytes n1
    unfold prdOk at h2
    by_cases ho : p.o = 1
    · rw [if_pos ho] at h2
      unfold numOk at h2
      simp only [Bool.and_eq_true, decide_eq_true_eq, beq_iff_eq] at h2
      obtain ⟨⟨⟨⟨q1, q2⟩, q3⟩, q4⟩, q5⟩ := h2
      have := n2 q1
      have e5 := toL_eq q5
      exact ⟨⟨c, w, e1, e2, e3, fun _ => ⟨e5, by omega, by omega⟩, fun hh => absurd ho hh⟩, by omega, by rw [e5]; decide, by omega, by omega⟩
    · rw [if_neg ho] at h2
      have key : textOk a p = true ∧ (p.o = 2 ∨ p.o = 3) := by
        by_cases h3 : p.o = 3
        · rw [if_pos h3] at h2
          split at h2
          · cases h2
          · exact ⟨h2, .inr h3⟩
        · rw [if_neg h3] at h2
          split at h2
          · rename_i h4; exact ⟨h2, .inl h4⟩
          · cases h2
      obtain ⟨key, ho2⟩ := key
      unfold textOk at key
      simp only [Bool.and_eq_true, beq_iff_eq] at key
      obtain ⟨⟨⟨q1, q2⟩, q3⟩, q4⟩ := key
      obtain ⟨b1, b2⟩ := str_bytes q4
      exact ⟨⟨c, w, e1, e2, e3, fun hh => absurd hh ho, fun _ => ⟨ho2, q2, q3, b2, by omega⟩⟩, by omega, by omega, by omega, by omega⟩
/-- One of them is a filter too. -/
theorem flt_one {s : List Att} {f : List Prd} (h : fltErr s f = none) {p : Prd} (hp : p ∈ f) : fltErr s [p] = none := by
  obtain ⟨h1, h2⟩ := prd_found h hp
  have hge : ¬ findA s p.nm < 0 := by have := (ixF_ge (fun x => sEq x.nm p.nm) s 0).1; unfold findA at h1 ⊢; omega
  unfold fltErr
  rw [if_neg (by simp)]
  unfold fltFrom
  have : prdBad s [p] 0 p = false := by
    unfold prdBad
    rw [decide_eq_false hge, h2]; rfl
  rw [this]; rfl
end Go.Proofs.YtddhlmejaobcgaaDoor.Va
