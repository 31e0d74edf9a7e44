import Derived.Test.YtddhlmejaobcgaaDoorV3
set_option maxRecDepth 100000
set_option linter.unusedVariables false
set_option linter.unusedSimpArgs false
namespace Go.Proofs.YtddhlmejaobcgaaDoor.Va
open Go Go.Am
def od17 : Ords := [(14, [0, 1, 2, 3, 4, 5, 6, 7, 8, 9, 10, 11, 12, 13, 14, 15, 16, 17, 18, 19, 20, 21, 22, 23, 24, 25, 26, 27, 28, 29, 30, 31, 32, 33, 34, 35, 36, 37, 38])]
theorem code17 : codeB Tryd.f17.ntmps od17 (match Tryd.f17.body with | some c => c | none => .skip) = true := by kernel_rfl
theorem atF0 {l : List Att} {i : Nat} {a : Att} (h : l[i]? = some a) : Elem (flat atC l) [.str] (i * 4 + 0) 1 [sD a.nm] := Elem.of atC_len h [.str] 0 rfl (by decide) ⟨rfl, True.intro⟩ rfl
theorem atF1 {l : List Att} {i : Nat} {a : Att} (h : l[i]? = some a) : Elem (flat atC l) [.int .i64] (i * 4 + 1) 1 [nI a.k] := Elem.of atC_len h [.int .i64] 1 rfl (by decide) ⟨rfl, True.intro⟩ rfl
theorem atF2 {l : List Att} {i : Nat} {a : Att} (h : l[i]? = some a) : Elem (flat atC l) [.int .i64] (i * 4 + 2) 1 [nI a.mn] := Elem.of atC_len h [.int .i64] 2 rfl (by decide) ⟨rfl, True.intro⟩ rfl
theorem atF3 {l : List Att} {i : Nat} {a : Att} (h : l[i]? = some a) : Elem (flat atC l) [.int .i64] (i * 4 + 3) 1 [nI a.mx] := Elem.of atC_len h [.int .i64] 3 rfl (by decide) ⟨rfl, True.intro⟩ rfl
def noAtt : Att := ⟨txt [], 0, 0, 0⟩
/-- The attribute that a predicate asks. -/
def attOf (s : List Att) (nm : ByteArray) : Att := (s[(findA s nm).toNat]?).getD noAtt
def textOk (a : Att) (p : Prd) : Bool := (((a.k == 2) && (p.lo == 0)) && (p.hi == 0)) && strOk p.str
def numOk (a : Att) (p : Prd) : Bool := ((((a.k == 1) && decide (p.lo ≥ a.mn)) && decide (p.hi ≤ a.mx)) && decide (p.lo ≤ p.hi)) && sEq p.str (txt [])
def prdOk (a : Att) (p : Prd) : Bool := if p.o = 1 then numOk a p else if p.o = 3 then (if sEq p.str (txt []) then false else textOk a p) else if p.o = 2 then textOk a p else false
def prdBad (s : List Att) (f : List Prd) (i : Nat) (p : Prd) : Bool := decide (findA s p.nm < 0) || ((f.take i).any (fun q => sEq q.nm p.nm) || !prdOk (attOf s p.nm) p)
def fltFrom (s : List Att) (f : List Prd) : List Prd → Nat → Option Nat
  | [], _ => none
  | p :: r, i => if prdBad s f i p then some i else fltFrom s f r (i + 1)
def fltErr (s : List Att) (f : List Prd) : Option Nat := if (f.length : Int) < 1 ∨ (f.length : Int) > 4 then some 0 else fltFrom s f f 0
theorem cutP {s : List Prd} {i : Nat} (h : i ≤ s.length) : slF prC (s.take i) = .d (.sl (i - 0) (((flat prC s).drop (0 * 5)).take ((i - 0) * 5))) := by
  rw [Nat.zero_mul, List.drop_zero, Nat.sub_zero, flat_take prC_len]
  unfold slF
  rw [List.length_take, Nat.min_eq_left h]
theorem findA_spec (s : List Att) (nm : ByteArray) : findA s nm = -1 ∨ ∃ (k : Nat) (a : Att), findA s nm = (k : Int) ∧ s[k]? = some a ∧ attOf s nm = a := by
  rcases ixF_spec (fun x => sEq x.nm nm) s 0 with h | ⟨k, a, h1, h2, _⟩
  · exact .inl h
  · refine .inr ⟨k, a, by unfold findA; rw [h1]; simp, h2, ?_⟩
    unfold attOf findA
    rw [h1]
    simp [h2]
set_option maxHeartbeats 8000000 in
theorem ok17 (s : List Att) (hs : s.length ≤ 4611686018427387904) (f : List Prd) : Go.Am.Pure Tryd.prog 17 [slF atC s, slF prC f] (.d (errV (fltErr s f))) := by
  refine CallOk.of tysOk mixed od17 Tryd.func17 rfl rfl code17 ?_
  have bad : ((f.length : Int) < 1 ∨ (f.length : Int) > 4) → ∀ {σ : Store}, RetQ ([] : Store).length (fun v s' => v = .d (errV (fltErr s f)) ∧ s' = []) .ret [(0, mkRet [.d (faultE 0 3)])] σ := fun h σ => by
    refine RetQ.pure rfl ?_
    unfold fltErr
    rw [if_pos h]
    rfl
  refine W.ite (fun c1 => ?_) (fun c1 => ?_)
  · repeat (first | refine W.ite_t rfl ?_ | refine W.ite_f rfl ?_ | refine W.ite_t c1 ?_)
    refine W.pure (ok33 0 3) rfl rfl ?_
    exact W.ret (bad (.inl (of_decide_eq_true c1)))
  repeat (first | refine W.ite_t rfl ?_ | refine W.ite_f rfl ?_ | refine W.ite_f c1 ?_)
  refine W.ite (fun c2 => ?_) (fun c2 => ?_)
  · refine W.pure (ok33 0 3) rfl rfl ?_
    exact W.ret (bad (.inr (of_decide_eq_true c2)))
  have h1 := of_decide_eq_false c1
  have h2 := of_decide_eq_false c2
  have hE : fltErr s f = fltFrom s f f 0 := by unfold fltErr; rw [if_neg (by rintro (h | h); exact h1 h; exact h2 h)]
  rw [hE]
  clear bad
  refine W.loop (fun k fr σ => ∃ i : Nat, fr = [(0, slF atC s), (1, slF prC f), (18, slF prC f), (19, .d (nI f.length)), (20, .d (nI i))] ∧ σ = [] ∧ i ≤ f.length ∧ fltFrom s f (f.drop i) i = fltFrom s f f 0 ∧ k = f.length - i) f.length
    (Start.of [0, 1, 18, 19, 20] [] (by simp)) ⟨0, rfl, rfl, by omega, rfl, rfl⟩ ?_
  rintro k fr σ ⟨i, rfl, rfl, hi, hr, rfl⟩
  refine W.ite (fun c3 => ?_) (fun c3 => ?_)
  · have hil : i < f.length := by have := of_decide_eq_true c3; omega
    obtain ⟨p, hp⟩ : ∃ x, f[i]? = some x := ⟨_, List.getElem?_eq_getElem hil⟩
    rw [drop_cons hp, fltFrom] at hr
    have g1 : IntKind.i64.wrap ((i : Int) + 1) = ((i + 1 : Nat) : Int) := by rw [wrap64 (by omega) (by omega)]; rfl
    have isBad : prdBad s f i p = true → ∀ {σ : Store}, RetQ ([] : Store).length (fun v s' => v = .d (errV (fltFrom s f f 0)) ∧ s' = []) .ret [(0, mkRet [.d (faultE i 3)])] σ := fun h σ => by
      refine RetQ.pure rfl ?_
      rw [h] at hr
      rw [← hr]
      rfl
    have isGood : prdBad s f i p = false → ∀ {fr : Fr} {b : Blk}, fr.get 0 = slF atC s → fr.get 1 = slF prC f → fr.get 18 = slF prC f → fr.get 19 = .d (nI f.length) → fr.get 20 = .d (nI (IntKind.i64.wrap ((i : Int) + 1))) →
        ∃ m fr' σ', m < f.length - i ∧ Trim ([] : Store).length fr [b] fr' σ' ∧ ∃ i : Nat, fr' = [(0, slF atC s), (1, slF prC f), (18, slF prC f), (19, .d (nI f.length)), (20, .d (nI i))] ∧ σ' = [] ∧ i ≤ f.length ∧ fltFrom s f (f.drop i) i = fltFrom s f f 0 ∧ m = f.length - i := fun h {fr b} h0 h1 h18 h19 h20 => by
      rw [h] at hr
      rw [g1] at h20
      refine ⟨_, _, _, ?_, Trim.of [0, 1, 18, 19, 20] [] (by decide) (by simp) (by simp), i + 1, ?_, rfl, by omega, hr, rfl⟩
      · omega
      · simp only [keepFr, h0, h1, h18, h19, h20]; rfl
    refine W.need (ix_ok prC_len (by decide) hil) ?_
    refine W.ld (prE hp) ?_
    rcases findA_spec s p.nm with hk | ⟨k, a, hk, ha, hat⟩
    · refine W.pure (hk ▸ ok12 s hs p.nm) rfl rfl ?_
      repeat (first | refine W.ite_t rfl ?_ | refine W.ite_f rfl ?_)
      refine W.pure (ok33 i 3) rfl rfl ?_
      exact W.ret (W.ret (isBad (by unfold prdBad; rw [hk]; rfl)))
    · have hks := (List.getElem?_eq_some_iff.1 ha).1
      have d0 : decide ((k : Int) < 0) = false := decide_eq_false (by omega)
      refine W.pure (hk ▸ ok12 s hs p.nm) rfl rfl ?_
      repeat (first | refine W.ite_t rfl ?_ | refine W.ite_f rfl ?_ | refine W.ite_f d0 ?_)
      refine W.need ⟨by omega, by omega⟩ ?_
      repeat (first | refine W.ite_t rfl ?_ | refine W.ite_f rfl ?_ | refine W.ite_f d0 ?_)
      refine W.call [0] (by decide) (by simp) (by simp) (args' := [slF prC (f.take i), .fn 38 [.ptr 0 0]]) (by rw [cutP hi]; rfl) rfl (ok37 (fun q => sEq q.nm p.nm) 38 (prC p) (f.take i) (by rw [List.length_take]; omega) (fun x _ => ok38 x p)) ?_
      rintro v s' ⟨rfl, rfl⟩
      repeat (first | refine W.ite_t rfl ?_ | refine W.ite_f rfl ?_ | refine W.ite_f d0 ?_)
      refine W.ite (fun c4 => ?_) (fun c4 => ?_)
      · refine W.pure (ok33 i 3) rfl rfl ?_
        exact W.ret (W.ret (isBad (by unfold prdBad; rw [c4]; simp)))
      have hb : prdBad s f i p = !prdOk a p := by unfold prdBad; rw [c4, hk, hat, d0]; rfl
      have hix := ix_ok atC_len (by decide) hks
      refine W.ite (fun c5 => ?_) (fun c5 => ?_)
      · have ho : p.o = 1 := by simpa using c5
        have hpo : prdOk a p = numOk a p := by unfold prdOk; rw [if_pos ho]
        rw [hpo] at hb
        unfold numOk at hb
        refine W.need hix ?_
        refine W.ld (atF1 ha) ?_
        refine W.ite (fun e1 => ?_) (fun e1 => ?_)
        · have e1 : (a.k == 1) = true := e1
          repeat (first | refine W.ite_t rfl ?_ | refine W.ite_f rfl ?_ | refine W.ite_t e1 ?_ | refine W.need hix ?_ | refine W.ld (atF2 ha) ?_)
          refine W.ite (fun e2 => ?_) (fun e2 => ?_)
          · repeat (first | refine W.ite_t rfl ?_ | refine W.ite_f rfl ?_ | refine W.ite_t e1 ?_ | refine W.ite_t e2 ?_ | refine W.need hix ?_ | refine W.ld (atF3 ha) ?_)
            refine W.ite (fun e3 => ?_) (fun e3 => ?_)
            · repeat (first | refine W.ite_t rfl ?_ | refine W.ite_f rfl ?_ | refine W.ite_t e1 ?_ | refine W.ite_t e2 ?_ | refine W.ite_t e3 ?_)
              refine W.ite (fun e4 => ?_) (fun e4 => ?_)
              · repeat (first | refine W.ite_t rfl ?_ | refine W.ite_f rfl ?_ | refine W.ite_t e1 ?_ | refine W.ite_t e2 ?_ | refine W.ite_t e3 ?_ | refine W.ite_t e4 ?_)
                refine W.ite (fun e5 => ?_) (fun e5 => ?_)
                · refine W.pure (ok33 i 3) rfl rfl ?_
                  have e5 : sEq p.str (txt []) = false := by have : (!sEq p.str (txt [])) = true := e5; simpa using this
                  exact W.ret (W.ret (isBad (by rw [hb, e5]; simp)))
                · have e5 : sEq p.str (txt []) = true := by have : (!sEq p.str (txt [])) = false := e5; simpa using this
                  exact W.ret (isGood (by rw [hb, e1, e2, e3, e4, e5]; rfl) rfl rfl rfl rfl rfl)
              · repeat (first | refine W.ite_t rfl ?_ | refine W.ite_f rfl ?_ | refine W.ite_t e1 ?_ | refine W.ite_t e2 ?_ | refine W.ite_t e3 ?_ | refine W.ite_f e4 ?_)
                refine W.pure (ok33 i 3) rfl rfl ?_
                exact W.ret (W.ret (isBad (by rw [hb, e4]; simp)))
            · repeat (first | refine W.ite_t rfl ?_ | refine W.ite_f rfl ?_ | refine W.ite_t e1 ?_ | refine W.ite_t e2 ?_ | refine W.ite_f e3 ?_)
              refine W.pure (ok33 i 3) rfl rfl ?_
              exact W.ret (W.ret (isBad (by rw [hb, e3]; simp)))
          · repeat (first | refine W.ite_t rfl ?_ | refine W.ite_f rfl ?_ | refine W.ite_t e1 ?_ | refine W.ite_f e2 ?_)
            refine W.pure (ok33 i 3) rfl rfl ?_
            exact W.ret (W.ret (isBad (by rw [hb, e2]; simp)))
        · have e1 : (a.k == 1) = false := e1
          repeat (first | refine W.ite_t rfl ?_ | refine W.ite_f rfl ?_ | refine W.ite_f e1 ?_)
          refine W.pure (ok33 i 3) rfl rfl ?_
          exact W.ret (W.ret (isBad (by rw [hb, e1]; simp)))
      · have ho : ¬ p.o = 1 := by simpa using c5
        have five : ∀ (hpo : prdOk a p = textOk a p), prdBad s f i p = !((((a.k == 2) && (p.lo == 0)) && (p.hi == 0)) && strOk p.str) := fun hpo => by rw [hb, hpo]; rfl
        refine W.ite (fun c6 => ?_) (fun c6 => ?_)
        · have ho3 : p.o = 3 := by simpa using c6
          refine W.ite (fun c7 => ?_) (fun c7 => ?_)
          · have c7 : sEq p.str (txt []) = true := c7
            repeat (first | refine W.ite_t rfl ?_ | refine W.ite_f rfl ?_)
            refine W.pure (ok33 i 3) rfl rfl ?_
            exact W.ret (W.ret (isBad (by rw [hb]; unfold prdOk; rw [if_neg ho, if_pos ho3, c7]; rfl)))
          have c7 : sEq p.str (txt []) = false := c7
          have hb := five (by unfold prdOk; rw [if_neg ho, if_pos ho3, c7]; rfl)
          refine W.need hix ?_
          refine W.ld (atF1 ha) ?_
          refine W.ite (fun e1 => ?_) (fun e1 => ?_)
          · have e1 : (a.k == 2) = true := e1
            repeat (first | refine W.ite_t rfl ?_ | refine W.ite_f rfl ?_ | refine W.ite_t e1 ?_)
            refine W.ite (fun e2 => ?_) (fun e2 => ?_)
            · have e2 : (p.lo == 0) = true := e2
              repeat (first | refine W.ite_t rfl ?_ | refine W.ite_f rfl ?_ | refine W.ite_t e1 ?_ | refine W.ite_t e2 ?_)
              refine W.ite (fun e3 => ?_) (fun e3 => ?_)
              · have e3 : (p.hi == 0) = true := e3
                repeat (first | refine W.ite_t rfl ?_ | refine W.ite_f rfl ?_ | refine W.ite_t e1 ?_ | refine W.ite_t e2 ?_ | refine W.ite_t e3 ?_)
                refine W.pure (ok39 p.str) rfl rfl ?_
                repeat (first | refine W.ite_t rfl ?_ | refine W.ite_f rfl ?_ | refine W.ite_t e1 ?_ | refine W.ite_t e2 ?_ | refine W.ite_t e3 ?_)
                refine W.ite (fun e4 => ?_) (fun e4 => ?_)
                · refine W.pure (ok33 i 3) rfl rfl ?_
                  exact W.ret (W.ret (isBad (by rw [hb, e1, e2, e3]; simpa using e4)))
                · exact W.ret (isGood (by rw [hb, e1, e2, e3]; simpa using e4) rfl rfl rfl rfl rfl)
              · have e3 : (p.hi == 0) = false := e3
                repeat (first | refine W.ite_t rfl ?_ | refine W.ite_f rfl ?_ | refine W.ite_t e1 ?_ | refine W.ite_t e2 ?_ | refine W.ite_f e3 ?_)
                refine W.pure (ok33 i 3) rfl rfl ?_
                exact W.ret (W.ret (isBad (by rw [hb, e3]; simp)))
            · have e2 : (p.lo == 0) = false := e2
              repeat (first | refine W.ite_t rfl ?_ | refine W.ite_f rfl ?_ | refine W.ite_t e1 ?_ | refine W.ite_f e2 ?_)
              refine W.pure (ok33 i 3) rfl rfl ?_
              exact W.ret (W.ret (isBad (by rw [hb, e2]; simp)))
          · have e1 : (a.k == 2) = false := e1
            repeat (first | refine W.ite_t rfl ?_ | refine W.ite_f rfl ?_ | refine W.ite_f e1 ?_)
            refine W.pure (ok33 i 3) rfl rfl ?_
            exact W.ret (W.ret (isBad (by rw [hb, e1]; simp)))
        refine W.ite (fun c7 => ?_) (fun c7 => ?_)
        · have ho3 : ¬ p.o = 3 := by simpa using c6
          have ho2 : p.o = 2 := by simpa using c7
          have hb := five (by unfold prdOk; rw [if_neg ho, if_neg ho3, if_pos ho2])
          refine W.need hix ?_
          refine W.ld (atF1 ha) ?_
          refine W.ite (fun e1 => ?_) (fun e1 => ?_)
          · have e1 : (a.k == 2) = true := e1
            repeat (first | refine W.ite_t rfl ?_ | refine W.ite_f rfl ?_ | refine W.ite_t e1 ?_)
            refine W.ite (fun e2 => ?_) (fun e2 => ?_)
            · have e2 : (p.lo == 0) = true := e2
              repeat (first | refine W.ite_t rfl ?_ | refine W.ite_f rfl ?_ | refine W.ite_t e1 ?_ | refine W.ite_t e2 ?_)
              refine W.ite (fun e3 => ?_) (fun e3 => ?_)
              · have e3 : (p.hi == 0) = true := e3
                repeat (first | refine W.ite_t rfl ?_ | refine W.ite_f rfl ?_ | refine W.ite_t e1 ?_ | refine W.ite_t e2 ?_ | refine W.ite_t e3 ?_)
                refine W.pure (ok39 p.str) rfl rfl ?_
                repeat (first | refine W.ite_t rfl ?_ | refine W.ite_f rfl ?_ | refine W.ite_t e1 ?_ | refine W.ite_t e2 ?_ | refine W.ite_t e3 ?_)
                refine W.ite (fun e4 => ?_) (fun e4 => ?_)
                · refine W.pure (ok33 i 3) rfl rfl ?_
                  exact W.ret (W.ret (isBad (by rw [hb, e1, e2, e3]; simpa using e4)))
                · exact W.ret (isGood (by rw [hb, e1, e2, e3]; simpa using e4) rfl rfl rfl rfl rfl)
              · have e3 : (p.hi == 0) = false := e3
                repeat (first | refine W.ite_t rfl ?_ | refine W.ite_f rfl ?_ | refine W.ite_t e1 ?_ | refine W.ite_t e2 ?_ | refine W.ite_f e3 ?_)
                refine W.pure (ok33 i 3) rfl rfl ?_
                exact W.ret (W.ret (isBad (by rw [hb, e3]; simp)))
            · have e2 : (p.lo == 0) = false := e2
              repeat (first | refine W.ite_t rfl ?_ | refine W.ite_f rfl ?_ | refine W.ite_t e1 ?_ | refine W.ite_f e2 ?_)
              refine W.pure (ok33 i 3) rfl rfl ?_
              exact W.ret (W.ret (isBad (by rw [hb, e2]; simp)))
          · have e1 : (a.k == 2) = false := e1
            repeat (first | refine W.ite_t rfl ?_ | refine W.ite_f rfl ?_ | refine W.ite_f e1 ?_)
            refine W.pure (ok33 i 3) rfl rfl ?_
            exact W.ret (W.ret (isBad (by rw [hb, e1]; simp)))
        · have ho3 : ¬ p.o = 3 := by simpa using c6
          have ho2 : ¬ p.o = 2 := by simpa using c7
          repeat (first | refine W.ite_t rfl ?_ | refine W.ite_f rfl ?_)
          refine W.pure (ok33 i 3) rfl rfl ?_
          exact W.ret (W.ret (isBad (by rw [hb]; unfold prdOk; rw [if_neg ho, if_neg ho3, if_neg ho2]; rfl)))
  · have hil : f.drop i = [] := by have := of_decide_eq_false c3; exact List.drop_of_length_le (by omega)
    rw [hil] at hr
    refine W.ret (W.ret ?_)
    refine RetQ.pure rfl ?_
    rw [← hr]
    rfl
end Go.Proofs.YtddhlmejaobcgaaDoor.Va
