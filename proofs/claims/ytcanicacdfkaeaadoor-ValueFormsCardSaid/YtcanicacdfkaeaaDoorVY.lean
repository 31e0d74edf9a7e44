import Derived.Test.YtcanicacdfkaeaaDoorVX
set_option maxRecDepth 100000
set_option linter.unusedVariables false
set_option linter.unusedSimpArgs false
/- The reference of layer 5: schemas, events, filters. -/
namespace Go.Proofs.YtcanicacdfkaeaaDoor.Va
open Go Go.Am
def od17 : Ords := []
theorem code17 : codeB Tryd.f17.ntmps od17 (match Tryd.f17.body with | some c => c | none => .skip) = true := by kernel_rfl
def od11 : Ords := []
theorem code11 : codeB Tryd.f11.ntmps od11 (match Tryd.f11.body with | some c => c | none => .skip) = true := by kernel_rfl
def od13 : Ords := []
theorem code13 : codeB Tryd.f13.ntmps od13 (match Tryd.f13.body with | some c => c | none => .skip) = true := by kernel_rfl
def od15 : Ords := [(13, [0, 1, 2, 3, 4, 5, 6, 7, 1008, 9, 10])]
theorem code15 : codeB Tryd.f15.ntmps od15 (match Tryd.f15.body with | some c => c | none => .skip) = true := by kernel_rfl
def od32 : Ords := []
theorem code32 : codeB Tryd.f32.ntmps od32 (match Tryd.f32.body with | some c => c | none => .skip) = true := by kernel_rfl
/-- Where an error lies, as a number. -/
def atN : Option Nat → Int
  | none => -1
  | some i => i
theorem sEq_comm (a b : ByteArray) : sEq a b = sEq b a := by
  unfold sEq
  rw [Bool.eq_iff_iff]
  simp only [beq_iff_eq]
  exact eq_comm
theorem ok17 (l : List Att) (hl : l.length ≤ 1000000) (s : ByteArray) : Go.Am.Pure Tryd.prog 17 [slF atC l, .d (sD s)] (.d (nI (findA l s))) := by
  refine CallOk.of tysOk mixed od17 Tryd.func17 rfl rfl code17 ?_
  refine W.loop (fun k fr σ => ∃ i : Nat, fr = [(1, .d (sD s)), (7, slF atC l), (8, .d (nI l.length)), (9, .d (nI i))] ∧ σ = [] ∧ i ≤ l.length ∧ ixF (fun x : Att => sEq x.nm s) (l.drop i) i = findA l s ∧ k = l.length - i) l.length
    (Start.of [1, 7, 8, 9] [] (by simp)) ⟨0, rfl, rfl, by omega, rfl, rfl⟩ ?_
  rintro k fr σ ⟨i, rfl, rfl, hi, hr, rfl⟩
  refine W.ite (fun c1 => ?_) (fun c1 => ?_)
  · have hil : i < l.length := by have := of_decide_eq_true c1; omega
    obtain ⟨x, hx⟩ : ∃ x, l[i]? = some x := ⟨_, List.getElem?_eq_getElem hil⟩
    rw [drop_cons hx, ixF] at hr
    refine W.need (ix_ok atC_len (by decide) hil) ?_
    refine W.ld (atE hx) ?_
    refine W.ite (fun c2 => ?_) (fun c2 => ?_)
    · rw [if_pos (show sEq x.nm s = true from c2)] at hr
      refine W.ret (W.ret ?_)
      refine RetQ.pure rfl ?_
      rw [← hr]; rfl
    · rw [if_neg (by rw [show sEq x.nm s = false from c2]; decide)] at hr
      refine W.ret ⟨_, _, _, ?_, Trim.of [1, 7, 8, 9] [] (by decide) (by simp) (by simp), i + 1, ?_, rfl, by omega, hr, rfl⟩
      · omega
      · rw [← wrapN (by omega)]; rfl
  · have hil : l.drop i = [] := by have := of_decide_eq_false c1; exact List.drop_of_length_le (by omega)
    rw [hil] at hr
    refine W.ret (W.ret ?_)
    refine RetQ.pure rfl ?_
    rw [← hr]; rfl
def nmB (s : List Att) (i j : Nat) (a : Att) : Bool := nameOk a.nm && !(((s.take i).take j).any fun b => sEq b.nm a.nm)
def attG (a : Att) : Bool := if a.k = 1 then decide (a.mn < -2147483648) || (decide (a.mx > 2147483648) || decide (a.mn > a.mx)) else (a.k != 2) || ((a.mn != 0) || (a.mx != 0))
theorem attG_t (a : Att) : attG a = true ↔ ((a.k = 1 ∧ (a.mn < -2147483648 ∨ a.mx > 2147483648 ∨ a.mn > a.mx)) ∨ (a.k ≠ 1 ∧ (a.k ≠ 2 ∨ a.mn ≠ 0 ∨ a.mx ≠ 0))) := by
  unfold attG
  by_cases h : a.k = 1
  · rw [if_pos h]; simp [h]
  · rw [if_neg h]; simp [h]
theorem attBad_eq (s : List Att) (i : Nat) (a : Att) : attBad s i a = !(nmB s i i a && !attG a) := by
  unfold attBad nmB attG
  rw [List.take_take, Nat.min_self]
  cases nameOk a.nm <;> cases ((s.take i).any fun b => sEq b.nm a.nm) <;> simp
theorem nmB0 (s : List Att) (i : Nat) (a : Att) : nmB s i 0 a = nameOk a.nm := by unfold nmB; simp
theorem nmB_next {s : List Att} {i j : Nat} {a b : Att} (hb : (s.take i)[j]? = some b) : nmB s i (j + 1) a = (nmB s i j a && !(sEq a.nm b.nm)) := by
  unfold nmB
  rw [List.take_add_one, hb, List.any_append, sEq_comm a.nm]
  cases nameOk a.nm <;> simp
theorem tr1v {T : List Nat} {n : Nat} (h : n = 1) : ∀ i, i < n → (0 :: T)[i]? = some i := fun i hi => by
  have : i = 0 := by omega
  subst this; rfl
set_option maxHeartbeats 16000000 in
theorem ok11 (s : List Att) (hs : ∀ a ∈ s, a.nm.size ≤ 1000000) : Go.Am.Pure Tryd.prog 11 [slF atC s] (.d (nI (atN (chkErr s)))) := by
  refine CallOk.of tysOk mixed od11 Tryd.func11 rfl rfl code11 ?_
  refine W.ite (fun c1 => ?_) (fun c1 => ?_)
  · repeat (first | refine W.ite_t c1 ?_ | refine W.ite_t rfl ?_ | refine W.ite_f rfl ?_)
    refine W.ret ?_
    refine RetQ.pure rfl ?_
    unfold chkErr
    rw [if_pos (.inl (of_decide_eq_true c1))]
    rfl
  repeat (first | refine W.ite_f c1 ?_ | refine W.ite_t rfl ?_ | refine W.ite_f rfl ?_)
  refine W.ite (fun c2 => ?_) (fun c2 => ?_)
  · refine W.ret ?_
    refine RetQ.pure rfl ?_
    unfold chkErr
    rw [if_pos (.inr (of_decide_eq_true c2))]
    rfl
  have h1 := of_decide_eq_false c1
  have h2 := of_decide_eq_false c2
  have hE : chkErr s = chkFrom s s 0 := by unfold chkErr; rw [if_neg (by rintro (h | h); exact h1 h; exact h2 h)]
  rw [hE]
  refine W.loop (fun k fr σ => ∃ i : Nat, fr = [(0, slF atC s), (16, slF atC s), (17, .d (nI s.length)), (18, .d (nI i))] ∧ σ = [] ∧ i ≤ s.length ∧ chkFrom s (s.drop i) i = chkFrom s s 0 ∧ k = s.length - i) s.length
    (Start.of [0, 16, 17, 18] [] (by simp)) ⟨0, rfl, rfl, by omega, rfl, rfl⟩ ?_
  rintro k fr σ ⟨i, rfl, rfl, hi, hr, rfl⟩
  refine W.ite (fun c3 => ?_) (fun c3 => ?_)
  · have hil : i < s.length := by have := of_decide_eq_true c3; omega
    obtain ⟨a, ha⟩ : ∃ x, s[i]? = some x := ⟨_, List.getElem?_eq_getElem hil⟩
    rw [drop_cons ha, chkFrom, attBad_eq] at hr
    refine W.need (ix_ok atC_len (by decide) hil) ?_
    refine W.ld (atE ha) ?_
    refine W.pure (ok19 a.nm (hs a (List.mem_of_getElem? ha))) rfl rfl ?_
    refine W.need ⟨by omega, by omega⟩ ?_
    refine W.loop (fun k fr σ => ∃ j : Nat, fr = [(0, slF atC s), (3, .d (nI i)), (4, .ptr 0 0), (5, .d (.lit (.bool (nmB s i j a)))), (16, slF atC s), (17, .d (nI s.length)), (18, .d (nI i)), (28, slF atC (s.take i)), (29, .d (nI i)), (30, .d (nI j))] ∧ σ = [bD (atC a)] ∧ j ≤ i ∧ k = i - j) i
      (Start.of [0, 3, 4, 5, 16, 17, 18, 28, 29, 30] [] (by simp)) ⟨0, ?_, rfl, by omega, rfl⟩ ?_
    · rw [cutA (Nat.le_of_lt hil), nmB0]; rfl
    rintro k fr σ ⟨j, rfl, rfl, hj, rfl⟩
    refine W.ite (fun c4 => ?_) (fun c4 => ?_)
    · have hji : j < i := by have := of_decide_eq_true c4; omega
      have hlen : (s.take i).length = i := by simp; omega
      obtain ⟨b, hb⟩ : ∃ b, (s.take i)[j]? = some b := ⟨_, List.getElem?_eq_getElem (by omega)⟩
      refine W.need (ix_ok atC_len (by decide) (by omega)) ?_
      refine W.ld (atE hb) ?_
      have hn := nmB_next (a := a) hb
      cases hB : nmB s i j a with
      | true =>
        rw [hB, Bool.true_and] at hn
        refine W.ite_t rfl ?_
        repeat (first | refine W.ite_t rfl ?_ | refine W.ite_f rfl ?_)
        refine W.ret ⟨_, _, _, ?_, Trim.of [0, 3, 4, 5, 16, 17, 18, 28, 29, 30] [0] (by decide) (by simp) (tr1v rfl), j + 1, ?_, rfl, by omega, rfl⟩
        · omega
        · rw [hn, ← wrapN (by omega)]; rfl
      | false =>
        rw [hB, Bool.false_and] at hn
        repeat (first | refine W.ite_t rfl ?_ | refine W.ite_f rfl ?_)
        refine W.ret ⟨_, _, _, ?_, Trim.of [0, 3, 4, 5, 16, 17, 18, 28, 29, 30] [0] (by decide) (by simp) (tr1v rfl), j + 1, ?_, rfl, by omega, rfl⟩
        · omega
        · rw [hn, ← wrapN (by omega)]; rfl
    · have hji : j = i := by have := of_decide_eq_false c4; omega
      subst hji
      refine W.ret ?_
      have stop : nmB s j j a = false ∨ ((a.k = 1 ∧ (a.mn < -2147483648 ∨ a.mx > 2147483648 ∨ a.mn > a.mx)) ∨ (a.k ≠ 1 ∧ (a.k ≠ 2 ∨ a.mn ≠ 0 ∨ a.mx ≠ 0))) → atN (chkFrom s s 0) = j := fun h => by
        have h : (nmB s j j a && !attG a) = false := by
          rcases h with h | h
          · rw [h]; rfl
          · rw [(attG_t a).2 h]; simp
        rw [h] at hr; rw [← hr]; rfl
      have next : nmB s j j a = true → ¬ ((a.k = 1 ∧ (a.mn < -2147483648 ∨ a.mx > 2147483648 ∨ a.mn > a.mx)) ∨ (a.k ≠ 1 ∧ (a.k ≠ 2 ∨ a.mn ≠ 0 ∨ a.mx ≠ 0))) → chkFrom s (s.drop (j + 1)) (j + 1) = chkFrom s s 0 := fun h0 h => by
        have h : (nmB s j j a && !attG a) = true := by
          rw [h0, Bool.eq_false_iff.2 fun e => h ((attG_t a).1 e)]; rfl
        rw [h] at hr; exact hr
      cases hB : nmB s j j a with
      | false =>
        have stop := stop (.inl hB)
        repeat' (first | refine W.ite_t rfl ?_ | refine W.ite_f rfl ?_ | refine W.ite_t (by assumption) ?_ | refine W.ite_f (by assumption) ?_ | refine W.ite (fun c => ?_) (fun c => ?_))
        all_goals
          refine W.ret (W.ret ?_)
          refine RetQ.pure rfl ?_
          rw [stop]
          rfl
      | true =>
        have stop := fun h => stop (.inr h)
        have next := next hB
        repeat' (first | refine W.ite_t rfl ?_ | refine W.ite_f rfl ?_ | refine W.ite_t (by assumption) ?_ | refine W.ite_f (by assumption) ?_ | refine W.ite (fun c => ?_) (fun c => ?_))
        all_goals
          simp only [decide_eq_true_eq, decide_eq_false_iff_not, beq_iff_eq, beq_eq_false_iff_ne, ne_eq, Bool.not_eq_true', Bool.not_eq_false', bne_iff_ne] at *
        all_goals first
          | (refine W.ret (W.ret ?_)
             refine RetQ.pure rfl ?_
             rw [stop (by omega)]
             rfl)
          | (refine W.ret ⟨_, _, _, ?_, Trim.of [0, 16, 17, 18] [] (by decide) (by simp) (by simp), j + 1, ?_, rfl, by omega, next (by omega), rfl⟩
             · omega
             · rw [← wrapN (by omega)]; rfl)
  · have hil : s.drop i = [] := by have := of_decide_eq_false c3; exact List.drop_of_length_le (by omega)
    rw [hil] at hr
    refine W.ret (W.ret ?_)
    refine RetQ.pure rfl ?_
    rw [← hr]
    rfl
theorem fit_f (a : Att) (v : Val) : fitV a v = false ↔ ((a.k = 1 ∧ (sEq v.str (txt []) = false ∨ v.num < a.mn ∨ v.num > a.mx)) ∨ (a.k ≠ 1 ∧ (v.num ≠ 0 ∨ strOk v.str = false))) := by
  unfold fitV
  by_cases h : a.k = 1
  · rw [if_pos h]
    cases sEq v.str (txt []) <;> simp [h] <;> omega
  · rw [if_neg h]
    cases strOk v.str <;> simp [h]
set_option maxHeartbeats 16000000 in
theorem ok13 (s : List Att) (hs : s.length ≤ 1000000) (e : Evt) (hv : ∀ v ∈ e.vals, v.str.size ≤ 1000000) : Go.Am.Pure Tryd.prog 13 [slF atC s, slF vaC e.vals, .d (nI e.pay.size)] (.d (nI (atN (evtErr s e)))) := by
  refine CallOk.of tysOk mixed od13 Tryd.func13 rfl rfl code13 ?_
  refine W.ite (fun c1 => ?_) (fun c1 => ?_)
  · have h1 : e.vals.length ≠ s.length := by have : ((e.vals.length : Int) != s.length) = true := c1; intro h; rw [h] at this; simp at this
    repeat (first | refine W.ite_t c1 ?_ | refine W.ite_t rfl ?_ | refine W.ite_f rfl ?_)
    refine W.ret ?_
    refine RetQ.pure rfl ?_
    unfold evtErr
    rw [if_pos (.inl h1)]
    rfl
  have h1 : e.vals.length = s.length := by have : ((e.vals.length : Int) != s.length) = false := c1; have : (e.vals.length : Int) = s.length := (by simpa using this); omega
  repeat (first | refine W.ite_f c1 ?_ | refine W.ite_t rfl ?_ | refine W.ite_f rfl ?_)
  refine W.ite (fun c2 => ?_) (fun c2 => ?_)
  · refine W.ret ?_
    refine RetQ.pure rfl ?_
    unfold evtErr
    rw [if_pos (.inr (of_decide_eq_true c2))]
    rfl
  have h2 := of_decide_eq_false c2
  have hE : evtErr s e = fitsFrom s e.vals 0 := by unfold evtErr; rw [if_neg (by rintro (h | h); exact h h1; exact h2 h)]
  rw [hE]
  refine W.loop (fun k fr σ => ∃ i : Nat, fr = [(1, slF vaC e.vals), (19, slF atC s), (20, .d (nI s.length)), (21, .d (nI i))] ∧ σ = [] ∧ i ≤ s.length ∧ fitsFrom (s.drop i) (e.vals.drop i) i = fitsFrom s e.vals 0 ∧ k = s.length - i) s.length
    (Start.of [1, 19, 20, 21] [] (by simp)) ⟨0, rfl, rfl, by omega, rfl, rfl⟩ ?_
  rintro k fr σ ⟨i, rfl, rfl, hi, hr, rfl⟩
  refine W.ite (fun c3 => ?_) (fun c3 => ?_)
  · have hil : i < s.length := by have := of_decide_eq_true c3; omega
    obtain ⟨a, ha⟩ : ∃ x, s[i]? = some x := ⟨_, List.getElem?_eq_getElem hil⟩
    obtain ⟨v, hv1⟩ : ∃ x, e.vals[i]? = some x := ⟨_, List.getElem?_eq_getElem (by omega)⟩
    rw [drop_cons ha, drop_cons hv1, fitsFrom] at hr
    have ks := ok21 v.str (hv v (List.mem_of_getElem? hv1))
    have stop : (fitV a v) = false → atN (fitsFrom s e.vals 0) = i := fun h => by rw [h] at hr; rw [← hr]; rfl
    have next : ¬ (fitV a v) = false → fitsFrom (s.drop (i + 1)) (e.vals.drop (i + 1)) (i + 1) = fitsFrom s e.vals 0 := fun h => by rw [show fitV a v = true from by simpa using h] at hr; exact hr
    rw [fit_f] at stop next
    have hcut : ((v.str.toList == (txt []).toList)) = sEq v.str (txt []) := rfl
    refine W.need (ix_ok atC_len (by decide) hil) ?_
    refine W.ld (atE ha) ?_
    refine W.need (ix_ok vaC_len (by decide) (by omega)) ?_
    refine W.ld (vaE hv1) ?_
    cases q1 : sEq v.str (txt []) <;> cases q2 : strOk v.str
    all_goals
      rw [q1, q2] at stop next
      rw [q2] at ks
      have q1 : (v.str.toList == (txt []).toList) = _ := q1
      repeat' (first | refine W.ite_t rfl ?_ | refine W.ite_f rfl ?_ | refine W.ite_t (by assumption) ?_ | refine W.ite_f (by assumption) ?_ | refine W.ite_t (show (!(v.str.toList == (txt []).toList)) = true by rw [q1]; rfl) ?_ | refine W.ite_f (show (!(v.str.toList == (txt []).toList)) = false by rw [q1]; rfl) ?_ | refine W.pure ks rfl rfl ?_ | refine W.ite (fun c => ?_) (fun c => ?_))
    all_goals
      simp only [decide_eq_true_eq, decide_eq_false_iff_not, beq_iff_eq, beq_eq_false_iff_ne, ne_eq, Bool.not_eq_true', Bool.not_eq_false', bne_iff_ne, bne_eq_false_iff_eq, reduceCtorEq, or_false, false_or, or_true, true_or, and_true] at *
    all_goals first
      | (refine W.ret (W.ret ?_)
         refine RetQ.pure rfl ?_
         rw [stop (by omega)]
         rfl)
      | (refine W.ret ⟨_, _, _, ?_, Trim.of [1, 19, 20, 21] [] (by decide) (by simp) (by simp), i + 1, ?_, rfl, by omega, next (by omega), rfl⟩
         · omega
         · rw [← wrapN (by omega)]; rfl)
  · have hil : s.drop i = [] := by have := of_decide_eq_false c3; exact List.drop_of_length_le (by omega)
    rw [hil] at hr
    refine W.ret (W.ret ?_)
    refine RetQ.pure rfl ?_
    rw [← hr]
    rfl
theorem pr_t (a : Att) (p : Prd) : prdOk a p = true ↔ ((p.o = 1 ∧ a.k = 1 ∧ p.lo ≥ a.mn ∧ p.hi ≤ a.mx ∧ p.lo ≤ p.hi ∧ sEq p.str (txt []) = true) ∨ ((p.o = 2 ∨ (p.o = 3 ∧ sEq p.str (txt []) = false)) ∧ a.k = 2 ∧ p.lo = 0 ∧ p.hi = 0 ∧ strOk p.str = true)) := by
  unfold prdOk numOk textOk
  by_cases h1 : p.o = 1
  · rw [if_pos h1]; simp [h1, and_assoc]
  · rw [if_neg h1]
    by_cases h3 : p.o = 3
    · rw [if_pos h3]; cases sEq p.str (txt []) <;> simp [h3, and_assoc]
    · rw [if_neg h3]
      by_cases h2 : p.o = 2
      · rw [if_pos h2]; simp [h2, and_assoc]
      · rw [if_neg h2]; simp [h1, h2, h3]
set_option maxHeartbeats 16000000 in
theorem ok32 (a : Att) (p : Prd) (hp : p.str.size ≤ 1000000) : Go.Am.Pure Tryd.prog 32 [.d (.agg (atC a)), .d (.agg (prC p))] (bI (prdOk a p)) := by
  refine CallOk.of tysOk mixed od32 Tryd.func32 rfl rfl code32 ?_
  have ks := ok21 p.str hp
  have yes := fun h => (pr_t a p).2 h
  have no := fun (h : ¬ _) => Bool.eq_false_iff.2 fun e => h ((pr_t a p).1 e)
  cases q1 : sEq p.str (txt []) <;> cases q2 : strOk p.str
  all_goals
    rw [q1, q2] at yes no
    rw [q2] at ks
    have q1 : (p.str.toList == (txt []).toList) = _ := q1
    repeat' (first | refine W.ite_t rfl ?_ | refine W.ite_f rfl ?_ | refine W.ite_t (by assumption) ?_ | refine W.ite_f (by assumption) ?_ | refine W.ite_t (show (!(p.str.toList == (txt []).toList)) = true by rw [q1]; rfl) ?_ | refine W.ite_f (show (!(p.str.toList == (txt []).toList)) = false by rw [q1]; rfl) ?_ | refine W.pure ks rfl rfl ?_ | refine W.ite (fun c => ?_) (fun c => ?_))
  all_goals
    refine W.ret ?_
    refine RetQ.pure rfl (ret_bI ?_)
    try rw [show (p.str.toList == (⟨#[]⟩ : ByteArray).toList) = _ from q1]
    simp only [decide_eq_true_eq, decide_eq_false_iff_not, beq_iff_eq, beq_eq_false_iff_ne, ne_eq, Bool.not_eq_true', Bool.not_eq_false', bne_iff_ne, bne_eq_false_iff_eq, reduceCtorEq, or_false, false_or, or_true, true_or, and_true, and_false, false_and, true_and] at *
    first
    | exact (yes (by first | omega | trivial)).symm
    | exact (no (by first | omega | simp)).symm
end Go.Proofs.YtcanicacdfkaeaaDoor.Va
