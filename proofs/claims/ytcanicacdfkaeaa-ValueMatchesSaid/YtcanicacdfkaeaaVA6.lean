import Derived.Test.YtcanicacdfkaeaaVC
set_option maxRecDepth 100000
set_option linter.unusedVariables false
set_option linter.unusedSimpArgs false
namespace Go.Proofs.Ytcanicacdfkaeaa.Va
open Go Go.Am
def od25 : Ords := [(13, [0, 1, 2, 3, 4, 5, 6, 7, 1008, 9, 10])]
def od27 : Ords := [(5, [0, 1, 2, 3, 4, 5, 6, 7, 8, 9, 10, 11, 12, 13, 14, 15, 16, 17, 18])]
theorem code25 : codeB Try.f25.ntmps od25 (match Try.f25.body with | some c => c | none => .skip) = true := by kernel_rfl
theorem code26 : codeB Try.f26.ntmps [] (match Try.f26.body with | some c => c | none => .skip) = true := by kernel_rfl
theorem code27 : codeB Try.f27.ntmps od27 (match Try.f27.body with | some c => c | none => .skip) = true := by kernel_rfl
theorem code28 : codeB Try.f28.ntmps [] (match Try.f28.body with | some c => c | none => .skip) = true := by kernel_rfl
theorem code41 : codeB Try.f41.ntmps [] (match Try.f41.body with | some c => c | none => .skip) = true := by kernel_rfl
theorem code42 : codeB Try.f42.ntmps [] (match Try.f42.body with | some c => c | none => .skip) = true := by kernel_rfl
/-! ### the reference's texts -/
def byteAt (s : ByteArray) (i : Nat) : Int := ((s.data.getD i 0).toNat : Int)
theorem byteAt_get {s : ByteArray} {i : Nat} : byteAt s i = ((s.get! i).toNat : Int) := by
  unfold byteAt
  have : s.data.getD i 0 = s.get! i := by
    show s.data.getD i 0 = s.data[i]!
    rw [Array.getD_eq_getD_getElem?]
    by_cases h : i < s.data.size
    · rw [Array.getElem?_eq_getElem h, getElem!_pos s.data i h]; rfl
    · rw [Array.getElem?_eq_none (by omega), getElem!_neg s.data i h]; rfl
  rw [this]
theorem ok42 (s : ByteArray) (hs : s.size ≤ 4611686018427387904) : Go.Am.Pure Try.prog 42 [.d (sD s)] (bI (strOk s)) := by
  refine CallOk.of tysOk mixed [] Try.func42 rfl rfl code42 ?_
  refine W.loop (fun k fr σ => ∃ i : Nat, fr = [(0, .d (sD s)), (3, .d (nI i))] ∧ σ = [] ∧ i ≤ s.size ∧ (∀ j, j < i → badStr (s.get! j).toNat = false) ∧ k = s.size - i) s.size
    (Start.of [0, 3] [] (by simp)) ⟨0, rfl, rfl, by omega, fun j hj => by omega, rfl⟩ ?_
  rintro k fr σ ⟨i, rfl, rfl, hi, hall, rfl⟩
  refine W.ite (fun c1 => ?_) (fun c1 => ?_)
  · have hlt : i < s.size := by have := of_decide_eq_true c1; omega
    have hix : (0 : Int) ≤ i ∧ (i : Int) < s.size := by omega
    have isBad : badStr (s.get! i).toNat = true → strOk s = false := fun h => by
      unfold strOk
      have : hasRune badStr s = true := by
        cases hh : hasRune badStr s with
        | true => rfl
        | false =>
          have := (hasRune_iff badStr badStr_high).1 hh _ (List.mem_of_getElem? (getI hlt))
          rw [h] at this
          cases this
      rw [this]
      simp
    refine W.need hix ?_
    refine W.ite (fun c2 => ?_) (fun c2 => ?_)
    · have h2 : byteAt s i < 32 := of_decide_eq_true c2
      repeat (first | refine W.ite_t rfl ?_ | refine W.ite_f rfl ?_ | refine W.ite_t c2 ?_)
      refine W.ret (W.ret ?_)
      refine RetQ.pure rfl (ret_bI ?_)
      rw [isBad]
      rw [← byteAt_get]
      unfold badStr
      simp [h2]
    have h2 : ¬ byteAt s i < 32 := of_decide_eq_false c2
    repeat (first | refine W.ite_t rfl ?_ | refine W.ite_f rfl ?_ | refine W.ite_f c2 ?_ | refine W.need hix ?_)
    refine W.ite (fun c3 => ?_) (fun c3 => ?_)
    · have h3 : byteAt s i > 126 := of_decide_eq_true c3
      refine W.ret (W.ret ?_)
      refine RetQ.pure rfl (ret_bI ?_)
      rw [isBad]
      rw [← byteAt_get]
      unfold badStr
      simp [h3]
    have h3 : ¬ byteAt s i > 126 := of_decide_eq_false c3
    have g1 : IntKind.i64.wrap ((i : Int) + 1) = ((i + 1 : Nat) : Int) := by rw [wrap64 (by omega) (by omega)]; rfl
    refine W.ret ⟨_, _, _, ?_, Trim.of [0, 3] [] (by decide) (by simp) (by simp), i + 1, ?_, rfl, by omega, ?_, rfl⟩
    · omega
    · rw [← g1]; rfl
    · intro j hj
      by_cases e : j = i
      · subst e
        rw [← byteAt_get]
        unfold badStr
        simp [h2, h3]
      · exact hall j (by omega)
  · have hge : i = s.size := by have := of_decide_eq_false c1; omega
    subst hge
    refine W.ret (W.ret ?_)
    refine RetQ.pure rfl (ret_bI ?_)
    have : hasRune badStr s = false := (hasRune_iff badStr badStr_high).2 fun b hb => by
      obtain ⟨j, hj⟩ := List.getElem?_of_mem hb
      have hjl : j < s.size := by have := (List.getElem?_eq_some_iff.1 hj).1; rw [toList_len] at this; exact this
      rw [getI hjl] at hj
      rw [← Option.some.inj hj]
      exact hall j hjl
    unfold strOk
    rw [this]
    simp
/-! ### the reference's functions -/
theorem ok28 (l : List Att) (hl : l.length ≤ 4611686018427387904) (s : ByteArray) : Go.Am.Pure Try.prog 28 [slF atC l, .d (sD s)] (.d (nI (findA l s))) := by
  refine CallOk.of tysOk mixed [] Try.func28 rfl rfl code28 ?_
  refine W.loop (fun k fr σ => ∃ i : Nat, fr = [(1, .d (sD s)), (7, slF atC l), (8, .d (nI l.length)), (9, .d (nI i))] ∧ σ = [] ∧ i ≤ l.length ∧ ixF (fun x => sEq x.nm s) (l.drop i) i = findA l s ∧ k = l.length - i) l.length
    (Start.of [1, 7, 8, 9] [] (by simp)) ⟨0, rfl, rfl, by omega, rfl, rfl⟩ ?_
  rintro k fr σ ⟨i, rfl, rfl, hi, hr, rfl⟩
  refine W.ite (fun c1 => ?_) (fun c1 => ?_)
  · have hil : i < l.length := by have := of_decide_eq_true c1; omega
    obtain ⟨x, hx⟩ : ∃ x, l[i]? = some x := ⟨_, List.getElem?_eq_getElem hil⟩
    rw [drop_cons hx, ixF] at hr
    refine W.need (ix_ok atC_len (by decide) hil) ?_
    refine W.ld (atE hx) ?_
    refine W.ite (fun c2 => ?_) (fun c2 => ?_)
    · have c2 : sEq x.nm s = true := c2
      rw [if_pos c2] at hr
      refine W.ret (W.ret ?_)
      exact RetQ.pure rfl (ret_nI hr)
    · have c2 : sEq x.nm s = false := c2
      rw [if_neg (by rw [c2]; decide)] at hr
      have g1 : IntKind.i64.wrap ((i : Int) + 1) = ((i + 1 : Nat) : Int) := by rw [wrap64 (by omega) (by omega)]; rfl
      refine W.ret ⟨_, _, _, ?_, Trim.of [1, 7, 8, 9] [] (by decide) (by simp) (by simp), i + 1, ?_, rfl, by omega, hr, rfl⟩
      · omega
      · rw [← g1]; rfl
  · have hil : l.drop i = [] := by have := of_decide_eq_false c1; exact List.drop_of_length_le (by omega)
    rw [hil] at hr
    refine W.ret (W.ret ?_)
    exact RetQ.pure rfl (ret_nI hr)
set_option maxHeartbeats 4000000 in
theorem ok27 (p : Prd) (v : Val) : Go.Am.Pure Try.prog 27 [.d (.agg (prC p)), .d (.agg (vaC v))] (bI (takeV p v)) := by
  refine CallOk.of tysOk mixed od27 Try.func27 rfl rfl code27 ?_
  refine W.ite (fun c1 => ?_) (fun c1 => ?_)
  · have h1 : p.o = 1 := by simpa using c1
    have ht : takeV p v = (decide (v.num ≥ p.lo) && decide (v.num ≤ p.hi)) := by unfold takeV; rw [if_pos h1]
    rw [ht]
    refine W.ite (fun c2 => ?_) (fun c2 => ?_)
    · have c2 : decide (v.num ≥ p.lo) = true := c2
      repeat (first | refine W.ite_t rfl ?_ | refine W.ite_f rfl ?_ | refine W.ite_t c2 ?_)
      refine W.ret (RetQ.pure rfl (ret_bI ?_))
      rw [c2]
      rfl
    · have c2 : decide (v.num ≥ p.lo) = false := c2
      repeat (first | refine W.ite_t rfl ?_ | refine W.ite_f rfl ?_ | refine W.ite_f c2 ?_)
      refine W.ret (RetQ.pure rfl (ret_bI ?_))
      rw [c2]
      rfl
  · have h1 : ¬ p.o = 1 := by simpa using c1
    refine W.ite (fun c2 => ?_) (fun c2 => ?_)
    · have h2 : p.o = 2 := by simpa using c2
      refine W.ret (RetQ.pure rfl (ret_bI ?_))
      unfold takeV
      rw [if_neg h1, if_pos h2, sEq_comm]
    · have h2 : ¬ p.o = 2 := by simpa using c2
      have ht : takeV p v = (decide ((v.str.size : Int) ≥ p.str.size) && ((v.str.extract 0 p.str.size).toList == p.str.toList)) := by unfold takeV; rw [if_neg h1, if_neg h2]; rfl
      rw [ht]
      refine W.ite (fun c3 => ?_) (fun c3 => ?_)
      · have c3 : decide ((v.str.size : Int) ≥ p.str.size) = true := c3
        have h3 := of_decide_eq_true c3
        have hb : (0 : Int) ≤ p.str.size ∧ (p.str.size : Int) ≤ v.str.size := by omega
        repeat (first | refine W.ite_t rfl ?_ | refine W.ite_f rfl ?_ | refine W.ite_t c3 ?_ | refine W.need hb ?_)
        refine W.ret (RetQ.pure rfl (ret_bI ?_))
        rw [c3]
        rfl
      · have c3 : decide ((v.str.size : Int) ≥ p.str.size) = false := c3
        repeat (first | refine W.ite_t rfl ?_ | refine W.ite_f rfl ?_ | refine W.ite_f c3 ?_)
        refine W.ret (RetQ.pure rfl (ret_bI ?_))
        rw [c3]
        rfl
end Go.Proofs.Ytcanicacdfkaeaa.Va
