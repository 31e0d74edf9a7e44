import Derived.Test.YtcanicacdfkaeaaDoorV7
set_option maxRecDepth 100000
set_option linter.unusedVariables false
set_option linter.unusedSimpArgs false
/- The reference of layer 5: texts and names. -/
namespace Go.Proofs.YtcanicacdfkaeaaDoor.Va
open Go Go.Am
def od21 : Ords := []
theorem code21 : codeB Tryd.f21.ntmps od21 (match Tryd.f21.body with | some c => c | none => .skip) = true := by kernel_rfl
def od19 : Ords := []
theorem code19 : codeB Tryd.f19.ntmps od19 (match Tryd.f19.body with | some c => c | none => .skip) = true := by kernel_rfl
/-- Has a text a byte of a kind? -/
def anyB (p : Int → Bool) (s : ByteArray) : Bool := s.data.toList.any fun b => p ((b.toNat : Nat) : Int)
def byteI (s : ByteArray) (i : Nat) : Int := ((s.data.getD i 0).toNat : Int)
theorem getD_eq {s : ByteArray} {i : Nat} (h : i < s.data.size) : s.data.getD i 0 = s.data[i] := by
  unfold Array.getD
  exact dif_pos h
theorem get_lt {s : ByteArray} {i : Nat} (h : i < s.size) : s.data.toList[i]? = some (s.data.getD i 0) := by
  have h : i < s.data.size := h
  rw [getD_eq h, Array.getElem?_toList, Array.getElem?_eq_getElem h]
theorem get_bang {s : ByteArray} {i : Nat} (h : i < s.size) : s.get! (i + 0) = s.data.getD i 0 := by
  have h : i < s.data.size := h
  rw [getD_eq h]
  show s.data[i]! = _
  rw [getElem!_pos s.data i h]
theorem dec_lo {s : ByteArray} {i : Nat} (h : i < s.size) (hb : (s.data.getD i 0).toNat < 128) : Utf8.decode s i = ((s.data.getD i 0).toNat, 1) := by
  have e : s.get! (i + 0) = s.data.getD i 0 := get_bang h
  simp only [Utf8.decode, e]
  rw [if_pos hb]
theorem dec_hi {s : ByteArray} {i : Nat} (h : i < s.size) (hb : ¬ (s.data.getD i 0).toNat < 128) : 128 ≤ (Utf8.decode s i).1 := by
  have e : s.get! (i + 0) = s.data.getD i 0 := get_bang h
  simp only [Utf8.decode, e]
  rw [if_neg hb]
  repeat' split
  all_goals simp_all [Utf8.runeError]
  all_goals omega
theorem runeIx_any (p : Int → Bool) (hp : ∀ r, 128 ≤ r → p r = true) (s : ByteArray) : ∀ f pos, pos ≤ s.size → s.size - pos < f →
    decide (runeIx p s f pos ≥ 0) = (s.data.toList.drop pos).any fun b => p ((b.toNat : Nat) : Int)
  | 0, pos, _, h => by omega
  | f + 1, pos, hle, h => by
    unfold runeIx
    by_cases hs : pos < s.size
    · rw [if_pos hs]
      have hg := get_lt hs
      rw [List.drop_eq_getElem_cons (by simpa using hs), List.any_cons]
      have hb : s.data.toList[pos]'(by simpa using hs) = s.data.getD pos 0 := by
        rw [List.getElem?_eq_getElem (by simpa using hs)] at hg
        exact Option.some.inj hg
      rw [hb]
      by_cases h128 : (s.data.getD pos 0).toNat < 128
      · rw [dec_lo hs h128]
        dsimp only
        cases hpb : p (((s.data.getD pos 0).toNat : Nat) : Int) with
        | true => rw [if_pos rfl]; simp
        | false =>
          rw [if_neg (by decide), Bool.false_or]
          exact runeIx_any p hp s f (pos + 1) (by omega) (by omega)
      · rw [hp _ (by omega : (128 : Int) ≤ (((s.data.getD pos 0).toNat : Nat) : Int)), Bool.true_or]
        have := dec_hi hs h128
        rw [hp _ (by omega), if_pos rfl]
        simp
    · rw [if_neg hs, List.drop_eq_nil_of_le (by simp; omega)]
      rfl
theorem hasRune_any (p : Int → Bool) (hp : ∀ r, 128 ≤ r → p r = true) (s : ByteArray) : hasRune p s = anyB p s := by
  unfold hasRune
  rw [runeIx_any p hp s _ 0 (by omega) (by omega), List.drop_zero]
  rfl
theorem badStr_hi (r : Int) (h : 128 ≤ r) : badStr r = true := by simp [badStr]; omega
theorem badName_hi (r : Int) (h : 128 ≤ r) : badName r = true := by simp [badName]; omega
theorem any_next {p : Int → Bool} {s : ByteArray} {i : Nat} (h : i < s.size) : ((s.data.toList.take (i + 1)).any fun b => p ((b.toNat : Nat) : Int)) = (((s.data.toList.take i).any fun b => p ((b.toNat : Nat) : Int)) || p (byteI s i)) := by
  rw [List.take_add_one, get_lt h, List.any_append]
  simp [byteI]
theorem any_all {p : Int → Bool} {s : ByteArray} : ((s.data.toList.take s.size).any fun b => p ((b.toNat : Nat) : Int)) = anyB p s := by
  rw [List.take_of_length_le (by simp)]; rfl
theorem any_hit {p : Int → Bool} {s : ByteArray} {i : Nat} (h : i < s.size) (hb : p (byteI s i) = true) : anyB p s = true := by
  unfold anyB
  rw [List.any_eq_true]
  exact ⟨_, List.mem_of_getElem? (get_lt h), hb⟩
theorem wrapN {i : Nat} (h : i < 4611686018427387904) : IntKind.i64.wrap ((i : Int) + 1) = ((i + 1 : Nat) : Int) := by rw [wrap64 (by omega) (by omega)]; omega
theorem strOk_any (s : ByteArray) : strOk s = (decide ((s.size : Int) ≤ 40) && !(anyB badStr s)) := by
  unfold strOk; rw [hasRune_any _ badStr_hi]
theorem ok21 (s : ByteArray) (hs : s.size ≤ 1000000) : Go.Am.Pure Tryd.prog 21 [.d (sD s)] (bI (strOk s)) := by
  rw [strOk_any]
  refine CallOk.of tysOk mixed od21 Tryd.func21 rfl rfl code21 ?_
  refine W.loop (fun k fr σ => ∃ i : Nat, fr = [(0, .d (sD s)), (3, .d (nI i))] ∧ σ = [] ∧ i ≤ s.size ∧ ((s.data.toList.take i).any fun b => badStr ((b.toNat : Nat) : Int)) = false ∧ k = s.size - i) s.size
    (Start.of [0, 3] [] (by simp)) ⟨0, rfl, rfl, by omega, rfl, rfl⟩ ?_
  rintro k fr σ ⟨i, rfl, rfl, hi, hq, rfl⟩
  refine W.ite (fun c1 => ?_) (fun c1 => ?_)
  · have hil : i < s.size := by have := of_decide_eq_true c1; omega
    have hix : (0 : Int) ≤ (i : Int) ∧ (i : Int) < s.size := by omega
    repeat (first | refine W.need hix ?_ | refine W.ite_t rfl ?_ | refine W.ite_f rfl ?_)
    refine W.ite (fun c2 => ?_) (fun c2 => ?_)
    · have hb : badStr (byteI s i) = true := by unfold badStr; rw [show decide (byteI s i < 32) = true from c2]; rfl
      repeat (first | refine W.need hix ?_ | refine W.ite_t c2 ?_ | refine W.ite_t rfl ?_ | refine W.ite_f rfl ?_)
      refine W.ret (W.ret ?_)
      refine RetQ.pure rfl (ret_bI ?_)
      rw [any_hit hil hb]; simp
    · repeat (first | refine W.need hix ?_ | refine W.ite_f c2 ?_ | refine W.ite_t rfl ?_ | refine W.ite_f rfl ?_)
      refine W.ite (fun c3 => ?_) (fun c3 => ?_)
      · have hb : badStr (byteI s i) = true := by unfold badStr; rw [show decide (byteI s i > 126) = true from c3]; simp
        refine W.ret (W.ret ?_)
        refine RetQ.pure rfl (ret_bI ?_)
        rw [any_hit hil hb]; simp
      · have hb : badStr (byteI s i) = false := by unfold badStr; rw [show decide (byteI s i < 32) = false from c2, show decide (byteI s i > 126) = false from c3]; rfl
        refine W.ret ⟨_, _, _, ?_, Trim.of [0, 3] [] (by decide) (by simp) (by simp), i + 1, ?_, rfl, by omega, by rw [any_next hil, hq, hb]; rfl, rfl⟩
        · omega
        · rw [← wrapN (by omega)]; rfl
  · have hil : i = s.size := by have := of_decide_eq_false c1; omega
    subst hil
    rw [any_all] at hq
    refine W.ret ?_
    refine W.ret ?_
    refine RetQ.pure rfl (ret_bI ?_)
    rw [hq]; simp
/-- A name, byte by byte. -/
theorem nameOk_any (s : ByteArray) : nameOk s = (if (s.size : Int) = 0 ∨ (s.size : Int) > 12 ∨ (s.toList == (txt [105, 110]).toList) = true ∨ (s.toList == (txt [97, 110, 100]).toList) = true then false
    else (!(decide (byteI s 0 < 97) || decide (byteI s 0 > 122)) && !(anyB badName s))) := by
  unfold nameOk
  rw [hasRune_any _ badName_hi]
  have e0 : (s.toList == (txt []).toList) = true ↔ (s.size : Int) = 0 := by
    constructor
    · intro h
      have h := eq_of_beq h
      rw [ByteArray.toList_eq, ByteArray.toList_eq] at h
      have h2 : s.data.toList.length = 0 := by rw [h]; rfl
      have h3 : s.data.toList.length = s.size := Array.length_toList
      omega
    · intro h
      have h3 : s.data.toList.length = s.size := Array.length_toList
      have : s.data.toList = [] := List.eq_nil_of_length_eq_zero (by omega)
      rw [ByteArray.toList_eq, ByteArray.toList_eq, this]; rfl
  have eb : byteI s 0 = byte0 s := rfl
  rw [eb]
  by_cases h1 : (s.size : Int) = 0
  · rw [if_pos (.inl (e0.2 h1)), if_pos (.inl h1)]
  by_cases h2 : (s.size : Int) > 12
  · rw [if_pos (.inr (.inl h2)), if_pos (.inr (.inl h2))]
  by_cases h3 : (s.toList == (txt [105, 110]).toList) = true
  · rw [if_pos (.inr (.inr (.inr (.inr (.inl h3))))), if_pos (.inr (.inr (.inl h3)))]
  by_cases h4 : (s.toList == (txt [97, 110, 100]).toList) = true
  · rw [if_pos (.inr (.inr (.inr (.inr (.inr h4))))), if_pos (.inr (.inr (.inr h4)))]
  rw [if_neg (c := (s.size : Int) = 0 ∨ _) (by rintro (h | h | h | h) <;> contradiction)]
  by_cases h5 : byte0 s < 97
  · rw [if_pos (.inr (.inr (.inl h5)))]; simp [h5]
  by_cases h6 : byte0 s > 122
  · rw [if_pos (.inr (.inr (.inr (.inl h6))))]; simp [h6]
  rw [if_neg (fun h => h.elim (fun h => h1 (e0.1 h)) fun h => h.elim h2 fun h => h.elim h5 fun h => h.elim h6 fun h => h.elim h3 h4)]
  simp [h5, h6]
theorem not_of2 {b : Bool} (h : b = true) : (!b) = false := by subst h; rfl
theorem not_of' {b : Bool} (h : b = false) : (!b) = true := by subst h; rfl
set_option maxHeartbeats 4000000 in
theorem ok19 (s : ByteArray) (hs : s.size ≤ 1000000) : Go.Am.Pure Tryd.prog 19 [.d (sD s)] (bI (nameOk s)) := by
  rw [nameOk_any]
  refine CallOk.of tysOk mixed od19 Tryd.func19 rfl rfl code19 ?_
  cases c1 : ((s.size : Int) == 0) with
  | true =>
    repeat (first | refine W.ite_t c1 ?_ | refine W.ite_t rfl ?_ | refine W.ite_f rfl ?_)
    refine W.ret ?_
    refine RetQ.pure rfl (ret_bI ?_)
    rw [if_pos (.inl (eq_of_beq c1))]
  | false =>
  have d1 : ¬ (s.size : Int) = 0 := by simpa using c1
  repeat (first | refine W.ite_f c1 ?_ | refine W.ite_t rfl ?_ | refine W.ite_f rfl ?_)
  cases c2 : decide ((s.size : Int) > 12) with
  | true =>
    repeat (first | refine W.ite_t c2 ?_ | refine W.ite_f c1 ?_ | refine W.ite_t rfl ?_ | refine W.ite_f rfl ?_)
    refine W.ret ?_
    refine RetQ.pure rfl (ret_bI ?_)
    rw [if_pos (.inr (.inl (of_decide_eq_true c2)))]
  | false =>
  have d2 := of_decide_eq_false c2
  repeat (first | refine W.ite_f c2 ?_ | refine W.ite_f c1 ?_ | refine W.ite_t rfl ?_ | refine W.ite_f rfl ?_)
  cases c3 : (s.toList == (txt [105, 110]).toList) with
  | true =>
    repeat (first | refine W.ite_t c3 ?_ | refine W.ite_f c2 ?_ | refine W.ite_f c1 ?_ | refine W.ite_t rfl ?_ | refine W.ite_f rfl ?_)
    refine W.ret ?_
    refine RetQ.pure rfl (ret_bI ?_)
    rw [if_pos (.inr (.inr (.inl rfl)))]
  | false =>
  repeat (first | refine W.ite_f c3 ?_ | refine W.ite_f c2 ?_ | refine W.ite_f c1 ?_ | refine W.ite_t rfl ?_ | refine W.ite_f rfl ?_)
  cases c4 : (s.toList == (txt [97, 110, 100]).toList) with
  | true =>
    repeat (first | refine W.ite_t c4 ?_ | refine W.ite_f c3 ?_ | refine W.ite_f c2 ?_ | refine W.ite_f c1 ?_ | refine W.ite_t rfl ?_ | refine W.ite_f rfl ?_)
    refine W.ret ?_
    refine RetQ.pure rfl (ret_bI ?_)
    rw [if_pos (.inr (.inr (.inr rfl)))]
  | false =>
  repeat (first | refine W.ite_f c4 ?_ | refine W.ite_f c3 ?_ | refine W.ite_f c2 ?_ | refine W.ite_f c1 ?_ | refine W.ite_t rfl ?_ | refine W.ite_f rfl ?_)
  rw [if_neg (fun h => h.elim d1 fun h => h.elim d2 fun h => h.elim (fun h => absurd h (by decide)) (fun h => absurd h (by decide)))]
  refine W.loop (fun k fr σ => ∃ i : Nat, fr = [(0, .d (sD s)), (3, .d (nI i))] ∧ σ = [] ∧ i ≤ s.size ∧ ((s.data.toList.take i).any fun b => badName ((b.toNat : Nat) : Int)) = false ∧ (i = 0 ∨ (decide (byteI s 0 < 97) = false ∧ decide (byteI s 0 > 122) = false)) ∧ k = s.size - i) s.size
    (Start.of [0, 3] [] (by simp)) ⟨0, rfl, rfl, by omega, rfl, .inl rfl, rfl⟩ ?_
  rintro k fr σ ⟨i, rfl, rfl, hi, hq, hz, rfl⟩
  refine W.ite (fun k1 => ?_) (fun k1 => ?_)
  · have hil : i < s.size := by have := of_decide_eq_true k1; omega
    have hix : (0 : Int) ≤ (i : Int) ∧ (i : Int) < s.size := by omega
    have hbn : badName (byteI s i) = true ↔ ((byteI s i < 97 ∨ byteI s i > 122) ∧ (byteI s i < 48 ∨ byteI s i > 57)) := by simp [badName]
    have go : ¬ ((byteI s i < 97 ∨ byteI s i > 122) ∧ (byteI s i < 48 ∨ byteI s i > 57)) → (i = 0 → ¬ (byteI s i < 97 ∨ byteI s i > 122)) →
        (((s.data.toList.take (i + 1)).any fun b => badName ((b.toNat : Nat) : Int)) = false ∧ (i + 1 = 0 ∨ (decide (byteI s 0 < 97) = false ∧ decide (byteI s 0 > 122) = false))) := fun h1 h2 => by
      have hb : badName (byteI s i) = false := by
        rw [Bool.eq_false_iff]; exact fun h => h1 (hbn.1 h)
      refine ⟨by rw [any_next hil, hq, hb]; rfl, .inr (hz.elim (fun h0 => ?_) id)⟩
      subst h0
      have h2 := h2 rfl
      exact ⟨decide_eq_false fun h => h2 (.inl h), decide_eq_false fun h => h2 (.inr h)⟩
    have rf : (((byteI s i < 97 ∨ byteI s i > 122) ∧ (byteI s i < 48 ∨ byteI s i > 57)) ∨ (i = 0 ∧ (byteI s i < 97 ∨ byteI s i > 122))) → (!(decide (byteI s 0 < 97) || decide (byteI s 0 > 122)) && !(anyB badName s)) = false := fun h => by
      rcases h with h | ⟨h0, h⟩
      · rw [any_hit hil (hbn.2 h)]; simp
      · subst h0
        rcases h with h | h <;> simp [h]
    cases e5 : decide (byteI s i ≥ 97) <;> cases e6 : decide (byteI s i ≤ 122) <;> cases e7 : decide (byteI s i ≥ 48) <;> cases e8 : decide (byteI s i ≤ 57) <;> cases e9 : ((i : Int) == 0)
    all_goals
      repeat (first | refine W.need hix ?_ | refine W.ite_t rfl ?_ | refine W.ite_f rfl ?_ | refine W.ite_t e5 ?_ | refine W.ite_f e5 ?_ | refine W.ite_t e6 ?_ | refine W.ite_f e6 ?_ | refine W.ite_t e7 ?_ | refine W.ite_f e7 ?_ | refine W.ite_t e8 ?_ | refine W.ite_f e8 ?_ | refine W.ite_t e9 ?_ | refine W.ite_f e9 ?_ | refine W.ite_t (not_of' e6) ?_ | refine W.ite_f (not_of2 e6) ?_ | refine W.ite_t (not_of' e8) ?_ | refine W.ite_f (not_of2 e8) ?_)
      simp only [decide_eq_true_eq, decide_eq_false_iff_not, beq_iff_eq, beq_eq_false_iff_ne, ne_eq] at e5 e6 e7 e8 e9
      first
      | (refine W.ret (W.ret ?_)
         refine RetQ.pure rfl (ret_bI ?_)
         rw [rf (by omega)])
      | (obtain ⟨g1, g2⟩ := go (by omega) (by omega)
         refine W.ret ⟨_, _, _, ?_, Trim.of [0, 3] [] (by decide) (by simp) (by simp), i + 1, ?_, rfl, by omega, g1, g2, rfl⟩
         · omega
         · rw [← wrapN (by omega)]; rfl)
  · have hil : i = s.size := by have := of_decide_eq_false k1; omega
    subst hil
    rw [any_all] at hq
    refine W.ret (W.ret ?_)
    refine RetQ.pure rfl (ret_bI ?_)
    have h0 : ¬ s.size = 0 := by omega
    rw [hq, (hz.resolve_left h0).1, (hz.resolve_left h0).2]
    rfl
end Go.Proofs.YtcanicacdfkaeaaDoor.Va
