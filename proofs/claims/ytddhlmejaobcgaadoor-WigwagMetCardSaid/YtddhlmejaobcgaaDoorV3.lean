import Derived.Test.YtddhlmejaobcgaaDoorV2
set_option maxRecDepth 100000
set_option linter.unusedVariables false
set_option linter.unusedSimpArgs false
namespace Go.Proofs.YtddhlmejaobcgaaDoor.Va
open Go Go.Am
abbrev faultE (i c : Int) : D := .iface 81 (.box [sD (txt [118, 97, 108, 117, 101]), nI i, .iface 82 (nI c)] 0)
/-- No error, or that at a place. -/
def errV : Option Nat → D
  | none => .lit .nilIface
  | some i => faultE i 3
def od33 : Ords := []
theorem code33 : codeB Tryd.f33.ntmps od33 (match Tryd.f33.body with | some c => c | none => .skip) = true := by kernel_rfl
theorem ok33 (i c : Int) : Go.Am.Pure Tryd.prog 33 [.d (nI i), .d (nI c)] (.d (faultE i c)) := by
  refine CallOk.of tysOk mixed od33 Tryd.func33 rfl rfl code33 ?_
  refine W.ret ?_
  exact RetQ.pure rfl rfl
def od44 : Ords := []
theorem code44 : codeB Tryd.f44.ntmps od44 (match Tryd.f44.body with | some c => c | none => .skip) = true := by kernel_rfl
/-- Takes a predicate a value? -/
def takeV (p : Prd) (v : Val) : Bool := if p.o = 1 then decide (v.num ≥ p.lo) && decide (v.num ≤ p.hi) else if p.o = 2 then sEq v.str p.str else prefOk v.str p.str
theorem ok44 (p : Prd) (v : Val) : Go.Am.Pure Tryd.prog 44 [.d (.agg (prC p)), .d (.agg (vaC v))] (bI (takeV p v)) := by
  refine CallOk.of tysOk mixed od44 Tryd.func44 rfl rfl code44 ?_
  refine W.ite (fun c1 => ?_) (fun c1 => ?_)
  · have h1 : p.o = 1 := by simpa using c1
    refine W.ite (fun c2 => ?_) (fun c2 => ?_)
    · repeat (first | refine W.ite_t rfl ?_ | refine W.ite_f rfl ?_ | refine W.ite_t c2 ?_)
      refine W.ret (RetQ.pure rfl (ret_bI ?_))
      unfold takeV
      rw [if_pos h1, c2]
      rfl
    · repeat (first | refine W.ite_t rfl ?_ | refine W.ite_f rfl ?_ | refine W.ite_f c2 ?_)
      refine W.ret (RetQ.pure rfl (ret_bI ?_))
      unfold takeV
      rw [if_pos h1, c2]
      rfl
  · have h1 : ¬ p.o = 1 := by simpa using c1
    refine W.ite (fun c2 => ?_) (fun c2 => ?_)
    · have h2 : p.o = 2 := by simpa using c2
      refine W.ret (RetQ.pure rfl (ret_bI ?_))
      unfold takeV
      rw [if_neg h1, if_pos h2]
    · have h2 : ¬ p.o = 2 := by simpa using c2
      refine W.pure (ok59 v.str p.str) rfl rfl ?_
      refine W.ret (RetQ.pure rfl (ret_bI ?_))
      unfold takeV
      rw [if_neg h1, if_neg h2]
def od45 : Ords := []
theorem code45 : codeB Tryd.f45.ntmps od45 (match Tryd.f45.body with | some c => c | none => .skip) = true := by kernel_rfl
/-- Is a value one of an attribute's? -/
def fitV (a : Att) (v : Val) : Bool := if a.k = 1 then (sEq v.str (txt []) && decide (v.num ≥ a.mn)) && decide (v.num ≤ a.mx) else (v.num == 0) && strOk v.str
theorem ok45 (a : Att) (v : Val) : Go.Am.Pure Tryd.prog 45 [.d (.agg (atC a)), .d (.agg (vaC v))] (bI (fitV a v)) := by
  refine CallOk.of tysOk mixed od45 Tryd.func45 rfl rfl code45 ?_
  refine W.ite (fun c1 => ?_) (fun c1 => ?_)
  · have h1 : a.k = 1 := by simpa using c1
    have hv : fitV a v = ((sEq v.str (txt []) && decide (v.num ≥ a.mn)) && decide (v.num ≤ a.mx)) := by unfold fitV; rw [if_pos h1]
    rw [hv]
    refine W.ite (fun c2 => ?_) (fun c2 => ?_)
    · have c2 : sEq v.str (txt []) = true := c2
      repeat (first | refine W.ite_t rfl ?_ | refine W.ite_f rfl ?_ | refine W.ite_t c2 ?_)
      refine W.ite (fun c3 => ?_) (fun c3 => ?_)
      · repeat (first | refine W.ite_t rfl ?_ | refine W.ite_f rfl ?_ | refine W.ite_t c2 ?_ | refine W.ite_t c3 ?_)
        refine W.ret (RetQ.pure rfl (ret_bI ?_))
        rw [c2, c3]
        rfl
      · repeat (first | refine W.ite_t rfl ?_ | refine W.ite_f rfl ?_ | refine W.ite_t c2 ?_ | refine W.ite_f c3 ?_)
        refine W.ret (RetQ.pure rfl (ret_bI ?_))
        rw [c2, c3]
        rfl
    · have c2 : sEq v.str (txt []) = false := c2
      repeat (first | refine W.ite_t rfl ?_ | refine W.ite_f rfl ?_ | refine W.ite_f c2 ?_)
      refine W.ret (RetQ.pure rfl (ret_bI ?_))
      rw [c2]
      rfl
  · have h1 : ¬ a.k = 1 := by simpa using c1
    have hv : fitV a v = ((v.num == 0) && strOk v.str) := by unfold fitV; rw [if_neg h1]
    rw [hv]
    refine W.ite (fun c2 => ?_) (fun c2 => ?_)
    · have c2 : (v.num == 0) = true := c2
      repeat (first | refine W.ite_t rfl ?_ | refine W.ite_f rfl ?_ | refine W.ite_t c2 ?_)
      refine W.pure (ok39 v.str) rfl rfl ?_
      repeat (first | refine W.ite_t rfl ?_ | refine W.ite_f rfl ?_ | refine W.ite_t c2 ?_)
      refine W.ret (RetQ.pure rfl (ret_bI ?_))
      rw [c2]
      rfl
    · have c2 : (v.num == 0) = false := c2
      repeat (first | refine W.ite_t rfl ?_ | refine W.ite_f rfl ?_ | refine W.ite_f c2 ?_)
      refine W.ret (RetQ.pure rfl (ret_bI ?_))
      rw [c2]
      rfl
def od21 : Ords := [(6, [0, 1, 2, 3, 4, 5, 1006, 7])]
theorem code21 : codeB Tryd.f21.ntmps od21 (match Tryd.f21.body with | some c => c | none => .skip) = true := by kernel_rfl
structure Evt where
  vals : List Val
  pay : ByteArray
def evC (e : Evt) : List D := [.sl e.vals.length (flat vaC e.vals), sD e.pay]
def fitsFrom : List Att → List Val → Nat → Option Nat
  | a :: r, v :: s, i => if fitV a v then fitsFrom r s (i + 1) else some i
  | _, _, _ => none
/-- Where an event isn't one of a schema's. -/
def evtErr (s : List Att) (e : Evt) : Option Nat := if e.vals.length ≠ s.length ∨ (e.pay.size : Int) > 200 then some 0 else fitsFrom s e.vals 0
theorem ok21 (s : List Att) (hs : s.length ≤ 4611686018427387904) (e : Evt) : Go.Am.Pure Tryd.prog 21 [slF atC s, .d (.agg (evC e))] (.d (errV (evtErr s e))) := by
  refine CallOk.of tysOk mixed od21 Tryd.func21 rfl rfl code21 ?_
  have bad : (e.vals.length ≠ s.length ∨ (e.pay.size : Int) > 200) → ∀ {σ : Store}, RetQ ([] : Store).length (fun v s' => v = .d (errV (evtErr s e)) ∧ s' = []) .ret [(0, mkRet [.d (faultE 0 3)])] σ := fun h σ => by
    refine RetQ.pure rfl ?_
    unfold evtErr
    rw [if_pos h]
    rfl
  refine W.ite (fun c1 => ?_) (fun c1 => ?_)
  · have h1 : e.vals.length ≠ s.length := by have : ((e.vals.length : Int) != s.length) = true := c1; intro h; rw [h] at this; simp at this
    repeat (first | refine W.ite_t rfl ?_ | refine W.ite_f rfl ?_ | refine W.ite_t c1 ?_)
    refine W.pure (ok33 0 3) rfl rfl ?_
    exact W.ret (bad (.inl h1))
  have h1 : e.vals.length = s.length := by have : ((e.vals.length : Int) != s.length) = false := c1; have : (e.vals.length : Int) = s.length := (by simpa using this); omega
  repeat (first | refine W.ite_t rfl ?_ | refine W.ite_f rfl ?_ | refine W.ite_f c1 ?_)
  refine W.ite (fun c2 => ?_) (fun c2 => ?_)
  · refine W.pure (ok33 0 3) rfl rfl ?_
    exact W.ret (bad (.inr (of_decide_eq_true c2)))
  have h2 := of_decide_eq_false c2
  have hE : evtErr s e = fitsFrom s e.vals 0 := by unfold evtErr; rw [if_neg (by rintro (h | h); exact h h1; exact h2 h)]
  rw [hE]
  clear bad
  refine W.loop (fun k fr σ => ∃ i : Nat, fr = [(3, .ptr 0 0), (20, slF atC s), (21, .d (nI s.length)), (22, .d (nI i))] ∧ σ = [bD (evC e)] ∧ i ≤ s.length ∧ fitsFrom (s.drop i) (e.vals.drop i) i = fitsFrom s e.vals 0 ∧ k = s.length - i) s.length
    (Start.of [3, 20, 21, 22] [] (by simp)) ⟨0, rfl, rfl, by omega, rfl, rfl⟩ ?_
  rintro k fr σ ⟨i, rfl, rfl, hi, hr, rfl⟩
  refine W.ite (fun c3 => ?_) (fun c3 => ?_)
  · have hil : i < s.length := by have := of_decide_eq_true c3; omega
    obtain ⟨a, ha⟩ : ∃ x, s[i]? = some x := ⟨_, List.getElem?_eq_getElem hil⟩
    obtain ⟨v, hv⟩ : ∃ x, e.vals[i]? = some x := ⟨_, List.getElem?_eq_getElem (by omega)⟩
    rw [drop_cons ha, drop_cons hv, fitsFrom] at hr
    refine W.need (ix_ok atC_len (by decide) hil) ?_
    refine W.ld (atE ha) ?_
    refine W.need (ix_ok vaC_len (by decide) (by omega)) ?_
    refine W.ld (vaE hv) ?_
    refine W.pure (ok45 a v) rfl rfl ?_
    refine W.ite (fun c4 => ?_) (fun c4 => ?_)
    · have h4 : fitV a v = false := by simpa using c4
      refine W.pure (ok33 i 3) rfl rfl ?_
      refine W.ret (W.ret ?_)
      refine RetQ.pure rfl ?_
      rw [h4] at hr
      rw [← hr]
      rfl
    · have h4 : fitV a v = true := by simpa using c4
      rw [h4] at hr
      have g1 : IntKind.i64.wrap ((i : Int) + 1) = ((i + 1 : Nat) : Int) := by rw [wrap64 (by omega) (by omega)]; rfl
      refine W.ret ⟨_, _, _, ?_, Trim.of [3, 20, 21, 22] [0] (by decide) (by simp) (by intro j hj; have : j = 0 := (by simp at hj; omega); subst this; rfl), i + 1, ?_, rfl, by omega, hr, rfl⟩
      · omega
      · rw [← g1]; rfl
  · have hil : s.drop i = [] := by have := of_decide_eq_false c3; exact List.drop_of_length_le (by omega)
    rw [hil] at hr
    refine W.ret (W.ret ?_)
    refine RetQ.pure rfl ?_
    rw [← hr]
    rfl
def od16 : Ords := []
theorem code16 : codeB Tryd.f16.ntmps od16 (match Tryd.f16.body with | some c => c | none => .skip) = true := by kernel_rfl
/-- What isn't in form of a schema. -/
def attBad (s : List Att) (i : Nat) (a : Att) : Bool :=
  !nameOk a.nm || ((s.take i).any (fun b => sEq b.nm a.nm) || (if a.k = 1 then decide (a.mn < -2147483648) || (decide (a.mx > 2147483648) || decide (a.mn > a.mx)) else (a.k != 2) || ((a.mn != 0) || (a.mx != 0))))
def chkFrom (s : List Att) : List Att → Nat → Option Nat
  | [], _ => none
  | a :: r, i => if attBad s i a then some i else chkFrom s r (i + 1)
def chkErr (s : List Att) : Option Nat := if (s.length : Int) < 1 ∨ (s.length : Int) > 4 then some 0 else chkFrom s s 0
theorem cutA {s : List Att} {i : Nat} (h : i ≤ s.length) : slF atC (s.take i) = .d (.sl (i - 0) (((flat atC s).drop (0 * 4)).take ((i - 0) * 4))) := by
  rw [Nat.zero_mul, List.drop_zero, Nat.sub_zero, flat_take atC_len]
  unfold slF
  rw [List.length_take, Nat.min_eq_left h]
set_option maxHeartbeats 4000000 in
theorem ok16 (s : List Att) : Go.Am.Pure Tryd.prog 16 [slF atC s] (.d (errV (chkErr s))) := by
  refine CallOk.of tysOk mixed od16 Tryd.func16 rfl rfl code16 ?_
  have bad : ((s.length : Int) < 1 ∨ (s.length : Int) > 4) → ∀ {σ : Store}, RetQ ([] : Store).length (fun v s' => v = .d (errV (chkErr s)) ∧ s' = []) .ret [(0, mkRet [.d (faultE 0 3)])] σ := fun h σ => by
    refine RetQ.pure rfl ?_
    unfold chkErr
    rw [if_pos h]
    rfl
  refine W.ite (fun c1 => ?_) (fun c1 => ?_)
  · repeat (first | refine W.ite_t rfl ?_ | refine W.ite_f rfl ?_ | refine W.ite_t c1 ?_)
    refine W.pure (ok33 0 3) rfl rfl ?_
    exact W.ret (bad (.inl (of_decide_eq_true c1)))
  repeat (first | refine W.ite_t rfl ?_ | refine W.ite_f rfl ?_ | refine W.ite_f c1 ?_)
  refine W.ite (fun c2 => ?_) (fun c2 => ?_)
  · refine W.pure (ok33 0 3) rfl rfl ?_
    exact W.ret (bad (.inr (of_decide_eq_true c2)))
  have h1 := of_decide_eq_false c1
  have h2 := of_decide_eq_false c2
  have hE : chkErr s = chkFrom s s 0 := by unfold chkErr; rw [if_neg (by rintro (h | h); exact h1 h; exact h2 h)]
  rw [hE]
  clear bad
  refine W.loop (fun k fr σ => ∃ i : Nat, fr = [(0, slF atC s), (14, slF atC s), (15, .d (nI s.length)), (16, .d (nI i))] ∧ σ = [] ∧ i ≤ s.length ∧ chkFrom s (s.drop i) i = chkFrom s s 0 ∧ k = s.length - i) s.length
    (Start.of [0, 14, 15, 16] [] (by simp)) ⟨0, rfl, rfl, by omega, rfl, rfl⟩ ?_
  rintro k fr σ ⟨i, rfl, rfl, hi, hr, rfl⟩
  refine W.ite (fun c3 => ?_) (fun c3 => ?_)
  · have hil : i < s.length := by have := of_decide_eq_true c3; omega
    obtain ⟨a, ha⟩ : ∃ x, s[i]? = some x := ⟨_, List.getElem?_eq_getElem hil⟩
    rw [drop_cons ha, chkFrom] at hr
    have g1 : IntKind.i64.wrap ((i : Int) + 1) = ((i + 1 : Nat) : Int) := by rw [wrap64 (by omega) (by omega)]; rfl
    have isBad : attBad s i a = true → ∀ {σ : Store}, RetQ ([] : Store).length (fun v s' => v = .d (errV (chkFrom s s 0)) ∧ s' = []) .ret [(0, mkRet [.d (faultE i 3)])] σ := fun h σ => by
      refine RetQ.pure rfl ?_
      rw [h] at hr
      rw [← hr]
      rfl
    have isGood : attBad s i a = false → ∀ {fr : Fr} {b : Blk}, fr.get 0 = slF atC s → fr.get 14 = slF atC s → fr.get 15 = .d (nI s.length) → fr.get 16 = .d (nI (IntKind.i64.wrap ((i : Int) + 1))) →
        ∃ m fr' σ', m < s.length - i ∧ Trim ([] : Store).length fr [b] fr' σ' ∧ ∃ i : Nat, fr' = [(0, slF atC s), (14, slF atC s), (15, .d (nI s.length)), (16, .d (nI i))] ∧ σ' = [] ∧ i ≤ s.length ∧ chkFrom s (s.drop i) i = chkFrom s s 0 ∧ m = s.length - i := fun h {fr b} h0 h14 h15 h16 => by
      rw [h] at hr
      rw [g1] at h16
      refine ⟨_, _, _, ?_, Trim.of [0, 14, 15, 16] [] (by decide) (by simp) (by simp), i + 1, ?_, rfl, by omega, hr, rfl⟩
      · omega
      · simp only [keepFr, h0, h14, h15, h16]; rfl
    refine W.need (ix_ok atC_len (by decide) hil) ?_
    refine W.ld (atE ha) ?_
    refine W.pure (ok34 a.nm) rfl rfl ?_
    refine W.ite (fun c4 => ?_) (fun c4 => ?_)
    · refine W.ite_t c4 ?_
      refine W.pure (ok33 i 3) rfl rfl ?_
      exact W.ret (W.ret (isBad (by unfold attBad; rw [c4]; rfl)))
    refine W.need ⟨by omega, by omega⟩ ?_
    refine W.call [0] (by decide) (by simp) (by simp) (args' := [slF atC (s.take i), .fn 36 [.ptr 0 0]]) (by rw [cutA hi]; rfl) rfl (ok35 (fun b => sEq b.nm a.nm) 36 (atC a) (s.take i) (by rw [List.length_take]; omega) (fun x _ => ok36 x a)) ?_
    rintro v s' ⟨rfl, rfl⟩
    refine W.ite (fun c5 => ?_) (fun c5 => ?_)
    · refine W.pure (ok33 i 3) rfl rfl ?_
      exact W.ret (W.ret (isBad (by unfold attBad; rw [c4, c5]; rfl)))
    refine W.ite (fun c6 => ?_) (fun c6 => ?_)
    · have hk : a.k = 1 := by simpa using c6
      have hb : attBad s i a = (decide (a.mn < -2147483648) || (decide (a.mx > 2147483648) || decide (a.mn > a.mx))) := by unfold attBad; rw [c4, c5, if_pos hk]; rfl
      refine W.ite (fun c7 => ?_) (fun c7 => ?_)
      · repeat (first | refine W.ite_t rfl ?_ | refine W.ite_f rfl ?_ | refine W.ite_t c7 ?_)
        refine W.pure (ok33 i 3) rfl rfl ?_
        exact W.ret (W.ret (isBad (by rw [hb, c7]; rfl)))
      repeat (first | refine W.ite_t rfl ?_ | refine W.ite_f rfl ?_ | refine W.ite_f c7 ?_)
      refine W.ite (fun c8 => ?_) (fun c8 => ?_)
      · repeat (first | refine W.ite_t rfl ?_ | refine W.ite_f rfl ?_ | refine W.ite_f c7 ?_ | refine W.ite_t c8 ?_)
        refine W.pure (ok33 i 3) rfl rfl ?_
        exact W.ret (W.ret (isBad (by rw [hb, c7, c8]; rfl)))
      repeat (first | refine W.ite_t rfl ?_ | refine W.ite_f rfl ?_ | refine W.ite_f c7 ?_ | refine W.ite_f c8 ?_)
      refine W.ite (fun c9 => ?_) (fun c9 => ?_)
      · refine W.pure (ok33 i 3) rfl rfl ?_
        exact W.ret (W.ret (isBad (by rw [hb, c7, c8, c9]; rfl)))
      · exact W.ret (isGood (by rw [hb, c7, c8, c9]; rfl) rfl rfl rfl rfl)
    · have hk : ¬ a.k = 1 := by simpa using c6
      have hb : attBad s i a = ((a.k != 2) || ((a.mn != 0) || (a.mx != 0))) := by unfold attBad; rw [c4, c5, if_neg hk]; rfl
      refine W.ite (fun c7 => ?_) (fun c7 => ?_)
      · refine W.ite_t c7 ?_
        refine W.pure (ok33 i 3) rfl rfl ?_
        exact W.ret (W.ret (isBad (by rw [hb, show (a.k != 2) = true from c7]; rfl)))
      refine W.ite (fun c8 => ?_) (fun c8 => ?_)
      · refine W.ite_t c8 ?_
        refine W.pure (ok33 i 3) rfl rfl ?_
        exact W.ret (W.ret (isBad (by rw [hb, show (a.k != 2) = false from c7, show (a.mn != 0) = true from c8]; rfl)))
      refine W.ite (fun c9 => ?_) (fun c9 => ?_)
      · refine W.pure (ok33 i 3) rfl rfl ?_
        exact W.ret (W.ret (isBad (by rw [hb, show (a.k != 2) = false from c7, show (a.mn != 0) = false from c8, show (a.mx != 0) = true from c9]; rfl)))
      · exact W.ret (isGood (by rw [hb, show (a.k != 2) = false from c7, show (a.mn != 0) = false from c8, show (a.mx != 0) = false from c9]; rfl) rfl rfl rfl rfl)
  · have hil : s.drop i = [] := by have := of_decide_eq_false c3; exact List.drop_of_length_le (by omega)
    rw [hil] at hr
    refine W.ret (W.ret ?_)
    refine RetQ.pure rfl ?_
    rw [← hr]
    rfl
end Go.Proofs.YtddhlmejaobcgaaDoor.Va
