import Derived.Test.YtbjjimllnffcpaaGreatDoorGJ
import Derived.Test.YtbjjimllnffcpaaGreatDoorDD
set_option maxRecDepth 100000
set_option linter.unusedVariables false
set_option linter.unusedSimpArgs false
/- Package group: names, faults, what is checked; two lists of texts. -/
namespace Go.Proofs.YtbjjimllnffcpaaGreatDoor.Gr
open Go Go.Am Va
def od44 : Ords := []
theorem code44 : codeB Tryz.f44.ntmps od44 (match Tryz.f44.body with | some c => c | none => .skip) = true := by kernel_rfl
def od25 : Ords := []
theorem code25 : codeB Tryz.f25.ntmps od25 (match Tryz.f25.body with | some c => c | none => .skip) = true := by kernel_rfl
def od20 : Ords := [(1, [0, 1, 2, 3, 7, 8, 4, 5, 6, 1009, 10, 11])]
theorem code20 : codeB Tryz.f20.ntmps od20 (match Tryz.f20.body with | some c => c | none => .skip) = true := by kernel_rfl
def od16 : Ords := [(6, [0, 1, 2, 3, 4, 5, 6, 7, 8])]
theorem code16 : codeB Tryz.f16.ntmps od16 (match Tryz.f16.body with | some c => c | none => .skip) = true := by kernel_rfl
theorem beq_int {a b : Int} : (a == b) = decide (a = b) := by
  by_cases h : a = b
  · rw [h]; simp
  · rw [decide_eq_false h]; simpa using h
def sC (s : ByteArray) : List D := [sD s]
theorem sC_len (s : ByteArray) : (sC s).length = 1 := rfl
theorem sC_one (s : ByteArray) : ∀ d ∈ sC s, d.one = true := fun d h => by
  obtain rfl := List.mem_singleton.1 h; rfl
theorem sE {l : List ByteArray} {i : Nat} {s : ByteArray} (h : l[i]? = some s) : Elem (flat sC l) [.str] (i * 1) 1 [sD s] := Elem.all sC_len h _ rfl ⟨rfl, True.intro⟩ rfl
theorem sl_len (l : List ByteArray) : (flat sC l).length = l.length := by rw [flat_length sC_len]; simp
abbrev slS (l : List ByteArray) : AV := slF sC l
abbrev gfaultE (c : Int) : D := .iface 138 (.box [sD (txt [103, 114, 111, 117, 112]), nI 0, .iface 52 (nI c)] 0)
theorem ok44 (c : Int) : Go.Am.Pure Tryz.prog 44 [.d (nI c)] (.d (gfaultE c)) := by
  refine CallOk.of tysOk mixed od44 Tryz.func44 rfl rfl code44 ?_
  exact W.ret (RetQ.pure rfl rfl)
/-- What is wrong: nothing; the levels; a place of a schema, a filter, an event. -/
inductive GE where
  | ok | arg | val (i : Nat)
  deriving DecidableEq
def geD : GE → D
  | .ok => .lit .nilIface
  | .arg => gfaultE 1
  | .val i => faultE i 3
def ofO : Option Nat → GE
  | none => .ok
  | some i => .val i
theorem geD_ofO (o : Option Nat) : geD (ofO o) = errV o := by cases o <;> rfl
def checkE (s : List Att) (n : Int) : GE := if n < 0 ∨ n > 8 then .arg else ofO (chkErr s)
theorem ok25 (s : List Att) (n : Int) : Go.Am.Pure Tryz.prog 25 [slF atC s, .d (nI n)] (.d (geD (checkE s n))) := by
  refine CallOk.of tysOk mixed od25 Tryz.func25 rfl rfl code25 ?_
  by_cases h0 : n < 0
  · have c0 : decide (n < 0) = true := decide_eq_true h0
    repeat (first | refine W.ite_t rfl ?_ | refine W.ite_f rfl ?_ | refine W.ite_t c0 ?_)
    refine W.pure (ok44 1) rfl rfl (W.ret (RetQ.pure rfl ?_))
    rw [checkE, if_pos (.inl h0)]
    rfl
  · have c0 : decide (n < 0) = false := decide_eq_false h0
    by_cases h8 : n > 8
    · have c8 : decide (n > 8) = true := decide_eq_true h8
      repeat (first | refine W.ite_t rfl ?_ | refine W.ite_f rfl ?_ | refine W.ite_f c0 ?_ | refine W.ite_t c8 ?_)
      refine W.pure (ok44 1) rfl rfl (W.ret (RetQ.pure rfl ?_))
      rw [checkE, if_pos (.inr h8)]
      rfl
    · have c8 : decide (n > 8) = false := decide_eq_false h8
      repeat (first | refine W.ite_t rfl ?_ | refine W.ite_f rfl ?_ | refine W.ite_f c0 ?_ | refine W.ite_f c8 ?_)
      refine W.pure (ok55 s) rfl rfl ?_
      rw [← geD_ofO]
      have e : checkE s n = ofO (chkErr s) := by rw [checkE, if_neg (by omega)]
      rw [e]
      cases chkErr s <;> exact W.ret (RetQ.pure rfl rfl)
def dotS : ByteArray := txt [46]
/-- A group's name. -/
def nameS (a : ByteArray) (l i : Nat) : ByteArray := a ++ dotS ++ numS l ++ dotS ++ numS i
theorem numS_size (n : Nat) : (numS n).size ≤ 3 := by
  unfold numS
  split
  · show 1 ≤ 3; decide
  · split
    · show 2 ≤ 3; decide
    · show 3 ≤ 3; decide
theorem ok20 (a : ByteArray) (l i : Nat) (ha : a.size ≤ 1000) (hl : l < 1000) (hi : i < 1000) : Go.Am.Pure Tryz.prog 20 [.d (sD a), Dy.iv l i] (.d (sD (nameS a l i))) := by
  refine CallOk.of tysOk mixed od20 Tryz.func20 rfl rfl code20 ?_
  have s1 := numS_size l
  have s2 := numS_size i
  have e1 : (a ++ dotS).size = a.size + 1 := by rw [ByteArray.size_append]; rfl
  have e2 : (a ++ dotS ++ numS l).size = a.size + 1 + (numS l).size := by rw [ByteArray.size_append, e1]
  have e3 : (a ++ dotS ++ numS l ++ dotS).size = a.size + 1 + (numS l).size + 1 := by rw [ByteArray.size_append, e2]; rfl
  refine W.need (by show ((a.size + 1 : Nat) : Int) ≤ 9223372036854775807; omega) ?_
  refine W.pure (ok49 l hl) rfl rfl ?_
  refine W.need (by show (((a ++ dotS).size + (numS l).size : Nat) : Int) ≤ 9223372036854775807; rw [e1]; omega) ?_
  refine W.need (by show (((a ++ dotS ++ numS l).size + 1 : Nat) : Int) ≤ 9223372036854775807; rw [e2]; omega) ?_
  refine W.pure (ok49 i hi) rfl rfl ?_
  refine W.need (by show (((a ++ dotS ++ numS l ++ dotS).size + (numS i).size : Nat) : Int) ≤ 9223372036854775807; rw [e3]; omega) ?_
  exact W.ret (RetQ.pure rfl rfl)
/-- Two lists of texts. -/
def eqL : List ByteArray → List ByteArray → Bool
  | [], [] => true
  | a :: r, b :: s => sEq a b && eqL r s
  | _, _ => false
theorem eqL_len : ∀ {X Y : List ByteArray}, X.length ≠ Y.length → eqL X Y = false
  | [], [], h => absurd rfl h
  | [], _ :: _, _ => rfl
  | _ :: _, [], _ => rfl
  | a :: r, b :: s, h => by
    simp only [eqL, eqL_len (X := r) (Y := s) (by simpa using h), Bool.and_false]
theorem ok16 (X Y : List ByteArray) (hX : X.length ≤ 1000000) (hY : Y.length ≤ 1000000) : Go.Am.Pure Tryz.prog 16 [slS X, slS Y] (bI (eqL X Y)) := by
  refine CallOk.of tysOk mixed od16 Tryz.func16 rfl rfl code16 ?_
  refine W.ite (fun c => ?_) (fun c => ?_)
  · have hne : X.length ≠ Y.length := fun e => by rw [e] at c; simp at c
    exact W.ret (RetQ.pure rfl (ret_bI (eqL_len hne).symm))
  have he : X.length = Y.length := by
    have : ((X.length : Int) != Y.length) = false := c
    have := bne_eq_false_iff_eq.1 this
    omega
  refine W.loop (fun k fr σ => ∃ i : Nat, fr = [(0, slS X), (1, slS Y), (12, .d (nI X.length)), (13, .d (nI i))] ∧ σ = [] ∧ i ≤ X.length ∧ eqL (X.drop i) (Y.drop i) = eqL X Y ∧ k = X.length - i) X.length
    (Start.of [0, 1, 12, 13] [] (by simp)) ⟨0, rfl, rfl, by omega, rfl, rfl⟩ ?_
  rintro k fr σ ⟨i, rfl, rfl, hi, heq, rfl⟩
  refine W.ite (fun c1 => ?_) (fun c1 => ?_)
  · have hil : i < X.length := by have := of_decide_eq_true c1; omega
    obtain ⟨x, hx⟩ : ∃ x, X[i]? = some x := ⟨_, List.getElem?_eq_getElem hil⟩
    obtain ⟨y, hy⟩ : ∃ x, Y[i]? = some x := ⟨_, List.getElem?_eq_getElem (by omega)⟩
    refine W.need (ix_ok sC_len (by decide) hil) ?_
    refine W.ld (sE hx) ?_
    refine W.need (ix_ok sC_len (by decide) (by omega)) ?_
    refine W.ld (sE hy) ?_
    rw [drop_cons hx, drop_cons hy] at heq
    refine W.ite (fun c2 => ?_) (fun c2 => ?_)
    · have hne : sEq x y = false := by
        have : (!(x.toList == y.toList)) = true := c2
        simpa [sEq] using this
      refine W.ret (W.ret (RetQ.pure rfl (ret_bI ?_)))
      rw [← heq, eqL, hne]
      rfl
    · have hee : sEq x y = true := by
        have : (!(x.toList == y.toList)) = false := c2
        simpa [sEq] using this
      have g1 : IntKind.i64.wrap ((i : Int) + 1) = ((i + 1 : Nat) : Int) := by rw [wrap64 (by omega) (by omega)]; rfl
      refine W.ret ⟨_, _, _, ?_, Trim.of [0, 1, 12, 13] [] (by decide) (by simp) (by simp), i + 1, ?_, rfl, by omega, ?_, rfl⟩
      · omega
      · rw [← g1]; rfl
      · rw [← heq, eqL, hee]
        rfl
  · have hil : i = X.length := by have := of_decide_eq_false c1; omega
    refine W.ret (W.ret (RetQ.pure rfl (ret_bI ?_)))
    rw [← heq, List.drop_of_length_le (by omega), List.drop_of_length_le (by omega)]
    rfl
end Go.Proofs.YtbjjimllnffcpaaGreatDoor.Gr

set_option maxRecDepth 100000
set_option linter.unusedVariables false
set_option linter.unusedSimpArgs false
/- Package group: the predicate that is chosen. -/
namespace Go.Proofs.YtbjjimllnffcpaaGreatDoor.Gr
open Go Go.Am Va
def od8 : Ords := [(11, [0, 1, 2, 3, 7, 8, 4, 5, 6, 1009, 10, 11, 12, 13, 14])]
theorem code8 : codeB Tryz.f8.ntmps od8 (match Tryz.f8.body with | some c => c | none => .skip) = true := by kernel_rfl
def rgA (a : Att) (q : Prd) (n : Int) : Int × Int := Dy.rangeV a.k a.mn a.mx q.o q.lo q.hi q.str n
def rgQ (s : List Att) (q : Prd) (n : Int) : Int × Int := rgA (attOf s q.nm) q n
def wid (s : List Att) (q : Prd) (n : Int) : Int := (rgQ s q n).2 - (rgQ s q n).1
theorem pref_self (s : ByteArray) : prefOk s s = true := by
  unfold prefOk
  simp
theorem rgA_ok {a : Att} {q : Prd} {n : Int} (h0 : 0 ≤ n) (h8 : n ≤ 8) (hga : Dy.goodA a) (ho : prdOk a q = true) :
    0 ≤ (rgA a q n).1 ∧ (rgA a q n).1 ≤ (rgA a q n).2 ∧ (rgA a q n).2 < 2 ^ n.toNat := by
  have ht : takeV q ⟨q.lo, q.str⟩ = true := by
    unfold takeV
    unfold prdOk at ho
    split
    · rename_i h1
      rw [if_pos h1] at ho
      unfold numOk at ho
      simp only [Bool.and_eq_true, decide_eq_true_eq] at ho
      simp only [Bool.and_eq_true, decide_eq_true_eq]
      omega
    · split
      · unfold sEq; simp
      · exact pref_self _
  obtain ⟨q1, q2, q3, q4⟩ := Dy.in_range (n := n) h0 h8 hga ho ht
  exact ⟨q1, Int.le_trans q2 q3, q4⟩
/-- A schema and a filter that are in form. -/
structure Fine (s : List Att) (f : List Prd) (n : Int) : Prop where
  n0 : 0 ≤ n
  n8 : n ≤ 8
  chk : chkErr s = none
  flt : fltErr s f = none
theorem Fine.prd {s : List Att} {f : List Prd} {n : Int} (h : Fine s f n) {q : Prd} (hq : q ∈ f) :
    ∃ (k : Nat) (a : Att), findA s q.nm = k ∧ s[k]? = some a ∧ attOf s q.nm = a ∧ Dy.goodA a ∧ prdOk a q = true ∧ q.str.size ≤ 60 := by
  obtain ⟨hnf, hpo⟩ := prd_found h.flt hq
  rcases findA_spec s q.nm with hk | ⟨k, a, hk, ha, hat⟩
  · exact absurd hk hnf
  · rw [hat] at hpo
    exact ⟨k, a, hk, ha, hat, Dy.chk_good h.chk a (List.mem_of_getElem? ha), hpo, Dy.prd_small hpo⟩
theorem Fine.rg {s : List Att} {f : List Prd} {n : Int} (h : Fine s f n) {q : Prd} (hq : q ∈ f) : 0 ≤ (rgQ s q n).1 ∧ (rgQ s q n).1 ≤ (rgQ s q n).2 ∧ (rgQ s q n).2 < 2 ^ n.toNat := by
  obtain ⟨k, a, _, _, hat, hg, hp, _⟩ := h.prd hq
  unfold rgQ
  rw [hat]
  exact rgA_ok h.n0 h.n8 hg hp
theorem Fine.wd {s : List Att} {f : List Prd} {n : Int} (h : Fine s f n) {q : Prd} (hq : q ∈ f) : 0 ≤ wid s q n ∧ wid s q n < 256 := by
  have := h.rg hq
  have h2 := pow2_le (k := n.toNat) (by have := h.n8; omega)
  unfold wid
  omega
def chooseE (s : List Att) (f : List Prd) (n : Int) : GE := match checkE s n with
  | .ok => ofO (fltErr s f)
  | e => e
theorem chooseE_ok {s : List Att} {f : List Prd} {n : Int} : chooseE s f n = .ok ↔ Fine s f n := by
  unfold chooseE checkE
  constructor
  · intro h
    by_cases hn : n < 0 ∨ n > 8
    · rw [if_pos hn] at h; cases h
    · rw [if_neg hn] at h
      cases hc : chkErr s with
      | some i => rw [hc] at h; cases h
      | none =>
        rw [hc] at h
        simp only [ofO] at h
        cases hf : fltErr s f with
        | some i => rw [hf] at h; cases h
        | none => exact ⟨by omega, by omega, hc, hf⟩
  · intro h
    rw [if_neg (by have := h.n0; have := h.n8; omega), h.chk]
    simp only [ofO, h.flt]
def stepG (s : List Att) (n : Int) (i : Nat) (q : Prd) (b : Int × Int) : Int × Int := if b.1 < 0 ∨ wid s q n < b.2 then ((i : Int), wid s q n) else b
def bestG (s : List Att) (n : Int) : List Prd → Nat → Int × Int → Int × Int
  | [], _, b => b
  | q :: r, i, b => bestG s n r (i + 1) (stepG s n i q b)
def bestI (s : List Att) (f : List Prd) (n : Int) : Int := (bestG s n f 0 (-1, 0)).1
def chooseI (s : List Att) (f : List Prd) (n : Int) : Int := match chooseE s f n with
  | .ok => bestI s f n
  | _ => -1
theorem choose_bad {s : List Att} {f : List Prd} {n : Int} (h : chooseE s f n ≠ .ok) : chooseI s f n = -1 := by
  unfold chooseI
  cases hc : chooseE s f n with
  | ok => exact absurd hc h
  | _ => rfl
set_option maxHeartbeats 4000000 in
theorem ok8 (s : List Att) (hs : s.length ≤ 1000000) (f : List Prd) (n : Int) : Go.Am.Pure Tryz.prog 8 [slF atC s, slF prC f, .d (nI n)] (.tuple [.d (nI (chooseI s f n)), .d (geD (chooseE s f n))]) := by
  refine CallOk.of tysOk mixed od8 Tryz.func8 rfl rfl code8 ?_
  have k1 := ok25 s n
  cases hc : checkE s n with
  | arg =>
    rw [hc] at k1
    have e1 : chooseE s f n = .arg := by unfold chooseE; rw [hc]
    have e2 : chooseI s f n = -1 := by unfold chooseI; rw [e1]
    refine W.pure k1 rfl rfl ?_
    repeat (first | refine W.ite_t rfl ?_ | refine W.ite_f rfl ?_)
    rw [e1, e2]
    exact W.ret (RetQ.pure rfl rfl)
  | val i =>
    rw [hc] at k1
    have e1 : chooseE s f n = .val i := by unfold chooseE; rw [hc]
    have e2 : chooseI s f n = -1 := by unfold chooseI; rw [e1]
    refine W.pure k1 rfl rfl ?_
    repeat (first | refine W.ite_t rfl ?_ | refine W.ite_f rfl ?_)
    rw [e1, e2]
    exact W.ret (RetQ.pure rfl rfl)
  | ok =>
  rw [hc] at k1
  refine W.pure k1 rfl rfl ?_
  repeat (first | refine W.ite_t rfl ?_ | refine W.ite_f rfl ?_)
  have k2 := ok26 s (by omega) f
  cases hf : fltErr s f with
  | some i =>
    rw [hf] at k2
    have e1 : chooseE s f n = .val i := by unfold chooseE; rw [hc, hf]; rfl
    have e2 : chooseI s f n = -1 := by unfold chooseI; rw [e1]
    refine W.pure k2 rfl rfl ?_
    repeat (first | refine W.ite_t rfl ?_ | refine W.ite_f rfl ?_)
    rw [e1, e2]
    exact W.ret (RetQ.pure rfl rfl)
  | none =>
  rw [hf] at k2
  refine W.pure k2 rfl rfl ?_
  repeat (first | refine W.ite_t rfl ?_ | refine W.ite_f rfl ?_)
  have e1 : chooseE s f n = .ok := by unfold chooseE; rw [hc, hf]; rfl
  have hfine := chooseE_ok.1 e1
  have e2 : chooseI s f n = bestI s f n := by unfold chooseI; rw [e1]
  rw [e1, e2]
  have hf4 := (fltErr_none hf).2.1
  have hn0 := hfine.n0
  have hn8 := hfine.n8
  clear k1 k2 hc hf e1 e2
  refine W.loop (fun k fr σ => ∃ (i : Nat) (b : Int × Int), fr = [(0, slF atC s), (2, .d (nI n)), (10, .d (nI b.1)), (11, .d (nI b.2)), (28, slF prC f), (29, .d (nI f.length)), (30, .d (nI i))] ∧ σ = [] ∧ i ≤ f.length ∧ (bestG s n (f.drop i) i b).1 = bestI s f n ∧ -1 ≤ b.1 ∧ b.1 < 10 ∧ k = f.length - i) f.length
    (Start.of [0, 2, 10, 11, 28, 29, 30] [] (by simp)) ⟨0, (-1, 0), rfl, rfl, by omega, rfl, by decide, by decide, rfl⟩ ?_
  rintro k fr σ ⟨i, b, rfl, rfl, hi, hb, hb1, hb2, rfl⟩
  refine W.ite (fun c1 => ?_) (fun c1 => ?_)
  · have hil : i < f.length := by have := of_decide_eq_true c1; omega
    obtain ⟨q, hq⟩ : ∃ x, f[i]? = some x := ⟨_, List.getElem?_eq_getElem hil⟩
    have hqm := List.mem_of_getElem? hq
    obtain ⟨k, a, hk, ha, hat, hga, hpo, hsm⟩ := hfine.prd hqm
    have hkl := (List.getElem?_eq_some_iff.1 ha).1
    have hrg := hfine.rg hqm
    have hwd := hfine.wd hqm
    have hrq : rgQ s q n = rgA a q n := by unfold rgQ; rw [hat]
    have hp2 := pow2_le (k := n.toNat) (by omega)
    rw [drop_cons hq, bestG] at hb
    refine W.need (ix_ok prC_len (by decide) hil) ?_
    refine W.ld (prE hq) ?_
    refine W.pure (hk ▸ ok28 s (by omega) q.nm) rfl rfl ?_
    refine W.need (ix_ok atC_len (by decide) hkl) ?_
    refine W.ld (atE ha) ?_
    refine W.pure (Dy.ok27' a q n hsm) rfl rfl ?_
    have ew : IntKind.i64.wrap ((rgA a q n).2 - (rgA a q n).1) = wid s q n := by
      rw [wrap64 (by rw [← hrq]; omega) (by rw [← hrq]; omega), ← hrq]
      rfl
    have g1 : IntKind.i64.wrap ((i : Int) + 1) = ((i + 1 : Nat) : Int) := by rw [wrap64 (by omega) (by omega)]; rfl
    have done : ∀ {b' : Int × Int}, b' = stepG s n i q b → ∀ {fr : Fr} {σ : Store}, fr.get 0 = slF atC s → fr.get 2 = .d (nI n) → fr.get 10 = .d (nI b'.1) → fr.get 11 = .d (nI b'.2) → fr.get 28 = slF prC f → fr.get 29 = .d (nI f.length) → fr.get 30 = .d (nI (IntKind.i64.wrap ((i : Int) + 1))) →
        ∃ m fr'' σ'', m < f.length - i ∧ Trim ([] : Store).length fr σ fr'' σ'' ∧ ∃ (i : Nat) (b : Int × Int), fr'' = [(0, slF atC s), (2, .d (nI n)), (10, .d (nI b.1)), (11, .d (nI b.2)), (28, slF prC f), (29, .d (nI f.length)), (30, .d (nI i))] ∧ σ'' = [] ∧ i ≤ f.length ∧ (bestG s n (f.drop i) i b).1 = bestI s f n ∧ -1 ≤ b.1 ∧ b.1 < 10 ∧ m = f.length - i := fun {b'} hb' {fr σ} h0 h2 h10 h11 h28 h29 h30 => by
      rw [g1] at h30
      refine ⟨_, _, _, ?_, Trim.of [0, 2, 10, 11, 28, 29, 30] [] (by decide) (by simp) (by simp), i + 1, b', ?_, rfl, by omega, ?_, ?_, ?_, rfl⟩
      · omega
      · simp only [keepFr, h0, h2, h10, h11, h28, h29, h30]; rfl
      · rw [hb']; exact hb
      · rw [hb']; unfold stepG; split
        · show (-1 : Int) ≤ i; omega
        · exact hb1
      · rw [hb']; unfold stepG; split
        · show (i : Int) < 10; omega
        · exact hb2
    by_cases d1 : b.1 < 0
    · have c2 : decide (b.1 < 0) = true := decide_eq_true d1
      repeat (first | refine W.ite_t rfl ?_ | refine W.ite_f rfl ?_ | refine W.ite_t c2 ?_)
      refine W.ret (done (b' := ((i : Int), wid s q n)) ?_ rfl rfl rfl ?_ rfl rfl rfl)
      · unfold stepG; rw [if_pos (.inl d1)]
      · rw [← ew]; rfl
    · have c2 : decide (b.1 < 0) = false := decide_eq_false d1
      by_cases d2 : wid s q n < b.2
      · have c3 : decide (IntKind.i64.wrap ((rgA a q n).2 - (rgA a q n).1) < b.2) = true := by rw [ew]; exact decide_eq_true d2
        repeat (first | refine W.ite_t rfl ?_ | refine W.ite_f rfl ?_ | refine W.ite_f c2 ?_ | refine W.ite_t c3 ?_)
        refine W.ret (done (b' := ((i : Int), wid s q n)) ?_ rfl rfl rfl ?_ rfl rfl rfl)
        · unfold stepG; rw [if_pos (.inr d2)]
        · rw [← ew]; rfl
      · have c3 : decide (IntKind.i64.wrap ((rgA a q n).2 - (rgA a q n).1) < b.2) = false := by rw [ew]; exact decide_eq_false d2
        repeat (first | refine W.ite_t rfl ?_ | refine W.ite_f rfl ?_ | refine W.ite_f c2 ?_ | refine W.ite_f c3 ?_)
        refine W.ret (done (b' := b) ?_ rfl rfl rfl rfl rfl rfl rfl)
        unfold stepG; rw [if_neg (by omega)]
  · have hil : i = f.length := by have := of_decide_eq_false c1; omega
    rw [List.drop_of_length_le (by omega), bestG] at hb
    refine W.ret (W.ret (RetQ.pure rfl ?_))
    rw [← hb]
    rfl
end Go.Proofs.YtbjjimllnffcpaaGreatDoor.Gr

set_option maxRecDepth 100000
set_option linter.unusedVariables false
set_option linter.unusedSimpArgs false
/- Package group: the groups of a filter. -/
namespace Go.Proofs.YtbjjimllnffcpaaGreatDoor.Gr
open Go Go.Am Va
def od10 : Ords := [(4, [0, 1, 2, 3, 4, 5, 6, 10, 11, 12, 13, 14, 7, 8, 9, 1015, 16, 17, 18, 19, 20]), (9, [0, 1, 2, 3, 4, 5, 6, 1007, 1008, 1009, 10])]
theorem code10 : codeB Tryz.f10.ntmps od10 (match Tryz.f10.body with | some c => c | none => .skip) = true := by kernel_rfl
/-- What holds of the best so far. -/
def BestInv (s : List Att) (f : List Prd) (n : Int) (i : Nat) (b : Int × Int) : Prop :=
  (i = 0 ∧ b.1 = -1) ∨ ∃ (j : Nat) (q : Prd), b.1 = j ∧ j < i ∧ f[j]? = some q ∧ b.2 = wid s q n ∧ ∀ (k : Nat) (q' : Prd), k < i → f[k]? = some q' → wid s q n ≤ wid s q' n ∧ (k < j → wid s q n < wid s q' n)
theorem bestInv_step {s : List Att} {f : List Prd} {n : Int} {i : Nat} {b : Int × Int} {q : Prd} (hq : f[i]? = some q) (h : BestInv s f n i b) : BestInv s f n (i + 1) (stepG s n i q b) := by
  right
  unfold stepG
  rcases h with ⟨rfl, h⟩ | ⟨j, p, h1, h2, h3, h4, h5⟩
  · rw [if_pos (.inl (by omega))]
    refine ⟨0, q, rfl, by omega, hq, rfl, fun k q' hk hq' => ?_⟩
    obtain rfl : k = 0 := by omega
    rw [hq] at hq'
    obtain rfl := Option.some.inj hq'
    exact ⟨Int.le_refl _, fun h => absurd h (by omega)⟩
  · by_cases hlt : wid s q n < b.2
    · rw [if_pos (.inr hlt)]
      refine ⟨i, q, rfl, by omega, hq, rfl, fun k q' hk hq' => ?_⟩
      rcases Nat.lt_or_ge k i with hki | hki
      · have := (h5 k q' hki hq').1
        omega
      · obtain rfl : k = i := by omega
        rw [hq] at hq'
        obtain rfl := Option.some.inj hq'
        exact ⟨Int.le_refl _, fun h => absurd h (by omega)⟩
    · rw [if_neg (by omega)]
      refine ⟨j, p, h1, by omega, h3, h4, fun k q' hk hq' => ?_⟩
      rcases Nat.lt_or_ge k i with hki | hki
      · exact h5 k q' hki hq'
      · obtain rfl : k = i := by omega
        rw [hq] at hq'
        obtain rfl := Option.some.inj hq'
        exact ⟨by omega, fun h => absurd h (by omega)⟩
theorem bestInv_end {s : List Att} {f : List Prd} {n : Int} : ∀ (m i : Nat) (b : Int × Int), i + m = f.length → BestInv s f n i b → BestInv s f n f.length (bestG s n (f.drop i) i b)
  | 0, i, b, hm, h => by
    rw [List.drop_of_length_le (by omega), bestG]
    have : i = f.length := by omega
    rw [← this]
    exact h
  | m + 1, i, b, hm, h => by
    obtain ⟨q, hq⟩ : ∃ x, f[i]? = some x := ⟨_, List.getElem?_eq_getElem (by omega)⟩
    rw [drop_cons hq, bestG]
    exact bestInv_end m (i + 1) _ (by omega) (bestInv_step hq h)
/-- The predicate that is chosen. -/
theorem Fine.best {s : List Att} {f : List Prd} {n : Int} (h : Fine s f n) : ∃ (j : Nat) (q : Prd), bestI s f n = j ∧ j < f.length ∧ f[j]? = some q ∧ ∀ (k : Nat) (q' : Prd), f[k]? = some q' → wid s q n ≤ wid s q' n ∧ (k < j → wid s q n < wid s q' n) := by
  have h1 := (fltErr_none h.flt).1
  rcases bestInv_end (s := s) (f := f) (n := n) f.length 0 (-1, 0) (by omega) (.inl ⟨rfl, rfl⟩) with ⟨h2, _⟩ | ⟨j, q, h2, h3, h4, h5, h6⟩
  · omega
  · exact ⟨j, q, h2, h3, h4, fun k q' hq' => h6 k q' (List.getElem?_eq_some_iff.1 hq').1 hq'⟩
theorem prF0 {l : List Prd} {i : Nat} {a : Prd} (h : l[i]? = some a) : Elem (flat prC l) [.str] (i * 5 + 0) 1 [sD a.nm] := Elem.of prC_len h [.str] 0 rfl (by decide) ⟨rfl, True.intro⟩ rfl
def ivC (p : Int × Int) : List D := [nI p.1, nI p.2]
theorem ivC_len (p : Int × Int) : (ivC p).length = 2 := rfl
theorem ivs_flat : ∀ l : List (Int × Int), Dy.ivs l = flat ivC l
  | [] => rfl
  | p :: r => by simp only [Dy.ivs, flat, ivs_flat r]; rfl
theorem slI_flat (l : List (Int × Int)) : Dy.slI l = slF ivC l := by unfold Dy.slI slF; rw [ivs_flat]
theorem ivE {l : List (Int × Int)} {i : Nat} {p : Int × Int} (h : l[i]? = some p) : Elem (flat ivC l) [.int .i64, .int .i64] (i * 2) 2 (ivC p) := Elem.all ivC_len h _ rfl ⟨rfl, rfl, True.intro⟩ rfl
/-- Intervals that can be named. -/
def Small (C : List (Int × Int)) : Prop := ∀ p ∈ C, 0 ≤ p.1 ∧ p.1 < 1000 ∧ 0 ≤ p.2 ∧ p.2 < 1000
theorem good_small {l i n : Int} (h : Dy.good l i n = true) : 0 ≤ l ∧ l < 1000 ∧ 0 ≤ i ∧ i < 1000 := by
  obtain ⟨h1, h2, h3, h4, h5, h6⟩ := Dy.good_iff.1 h
  have := pow2_le (k := l.toNat) (by omega)
  omega
theorem tiles_good {n : Int} : ∀ {l : List (Int × Int)} {x y : Int}, Dy.Tiles n x l y → ∀ p ∈ l, Dy.good p.1 p.2 n = true
  | [], _, _, _, p, hp => by cases hp
  | q :: r, x, y, h, p, hp => by
    rcases List.mem_cons.1 hp with rfl | hp
    · exact h.1
    · exact tiles_good h.2.2 p hp
theorem cover_small (lo hi n : Int) : Small (Dy.cover lo hi n) := fun p hp => by
  have hne : Dy.cover lo hi n ≠ [] := fun e => by rw [e] at hp; cases hp
  exact good_small (tiles_good (Dy.tiles_of_cover hne) p hp)
def names (a : ByteArray) (C : List (Int × Int)) : List ByteArray := C.map fun p => nameS a p.1.toNat p.2.toNat
theorem names_take {a : ByteArray} {C : List (Int × Int)} {i : Nat} {p : Int × Int} (h : C[i]? = some p) : names a (C.take (i + 1)) = names a (C.take i) ++ [nameS a p.1.toNat p.2.toNat] := by
  unfold names
  rw [List.take_add_one, List.map_append, h]
  rfl
def noPrd : Prd := ⟨txt [], 0, 0, 0, txt []⟩
def pickQ (s : List Att) (f : List Prd) (n : Int) : Prd := (f[(bestI s f n).toNat]?).getD noPrd
def ofL (s : List Att) (f : List Prd) (n : Int) : List ByteArray := match chooseE s f n with
  | .ok => names (pickQ s f n).nm (Dy.cover (rgQ s (pickQ s f n) n).1 (rgQ s (pickQ s f n) n).2 n)
  | _ => []
set_option maxHeartbeats 4000000 in
theorem ok10 (s : List Att) (hs : s.length ≤ 1000000) (f : List Prd) (hf : ∀ q ∈ f, q.nm.size ≤ 1000) (n : Int) : Go.Am.Pure Tryz.prog 10 [slF atC s, slF prC f, .d (nI n)] (.tuple [slS (ofL s f n), .d (geD (chooseE s f n))]) := by
  refine CallOk.softG ?_
  refine CallOk.of tysOk mixed od10 Tryz.func10 rfl rfl code10 ?_
  have k1 := ok8 s hs f n
  have bad : ∀ {e : GE}, chooseE s f n = e → e ≠ .ok → RetQ ([] : Store).length (fun v s' => v.softG = .tuple [slS (ofL s f n), .d (geD (chooseE s f n))] ∧ s' = []) .ret [(0, mkRet [.d (.lit (.slice none 0 0)), .d (geD e)])] [] := fun {e} h1 h2 => by
    have e1 : ofL s f n = [] := by
      unfold ofL
      rw [h1]
      cases e with
      | ok => exact absurd rfl h2
      | _ => rfl
    refine RetQ.part [] (by decide) (by simp) (by simp) ⟨?_, rfl⟩
    rw [e1, h1]
    cases e <;> rfl
  cases hc : chooseE s f n with
  | arg =>
    rw [hc] at k1
    refine W.pure k1 rfl rfl ?_
    repeat (first | refine W.ite_t rfl ?_ | refine W.ite_f rfl ?_)
    have := bad hc (by simp)
    rw [hc] at this
    exact W.ret this
  | val i =>
    rw [hc] at k1
    refine W.pure k1 rfl rfl ?_
    repeat (first | refine W.ite_t rfl ?_ | refine W.ite_f rfl ?_)
    have := bad hc (by simp)
    rw [hc] at this
    exact W.ret this
  | ok =>
  clear bad
  have hfine := chooseE_ok.1 hc
  obtain ⟨j, q, hj, hjl, hq, _⟩ := hfine.best
  have hci : chooseI s f n = j := by unfold chooseI; rw [hc]; exact hj
  have hpq : pickQ s f n = q := by unfold pickQ; rw [hj]; simp [hq]
  have hof : ofL s f n = names q.nm (Dy.cover (rgQ s q n).1 (rgQ s q n).2 n) := by unfold ofL; rw [hc]; simp only [hpq]
  rw [hc, hci] at k1
  rw [hof]
  have hqm := List.mem_of_getElem? hq
  obtain ⟨k, a, hk, ha, hat, hga, hpo, hsm⟩ := hfine.prd hqm
  have hkl := (List.getElem?_eq_some_iff.1 ha).1
  have hrq : rgQ s q n = rgA a q n := by unfold rgQ; rw [hat]
  have hnm := hf q hqm
  refine W.pure k1 rfl rfl ?_
  repeat (first | refine W.ite_t rfl ?_ | refine W.ite_f rfl ?_)
  refine W.need (ix_ok prC_len (by decide) hjl) ?_
  refine W.ld (prF0 hq) ?_
  refine W.need (ix_ok prC_len (by decide) hjl) ?_
  refine W.ld (prE hq) ?_
  refine W.pure (hk ▸ ok28 s (by omega) q.nm) rfl rfl ?_
  refine W.need (ix_ok atC_len (by decide) hkl) ?_
  refine W.ld (atE ha) ?_
  refine W.pure (Dy.ok27' a q n hsm) rfl rfl ?_
  have kc := Dy.ok33 (rgA a q n).1 (rgA a q n).2 n
  rw [hrq]
  have hsmall := cover_small (rgA a q n).1 (rgA a q n).2 n
  have hlen := Dy.cover_len (rgA a q n).1 (rgA a q n).2 n
  generalize Dy.cover (rgA a q n).1 (rgA a q n).2 n = C at *
  rw [slI_flat] at kc
  refine W.pure kc rfl rfl ?_
  refine W.loop (fun k fr σ => ∃ i : Nat, fr = [(1, slF prC f), (8, .d (nI j)), (47, slF ivC C), (48, .d (nI C.length)), (49, .d (nI i)), (12, .vec 0 i)] ∧ σ = [.vec 1 i (flat sC (names q.nm (C.take i)))] ∧ i ≤ C.length ∧ k = C.length - i) C.length
    (Start.of [1, 8, 47, 48, 49] [(12, 1)] (by simp; rfl)) ⟨0, rfl, rfl, by omega, rfl⟩ ?_
  rintro k fr σ ⟨i, rfl, rfl, hi, rfl⟩
  refine W.ite (fun c1 => ?_) (fun c1 => ?_)
  · have hil : i < C.length := by have := of_decide_eq_true c1; omega
    obtain ⟨p, hp⟩ : ∃ x, C[i]? = some x := ⟨_, List.getElem?_eq_getElem hil⟩
    obtain ⟨s1, s2, s3, s4⟩ := hsmall p (List.mem_of_getElem? hp)
    refine W.need (ix_ok ivC_len (by decide) hil) ?_
    refine W.ld (ivE hp) ?_
    refine W.need (ix_ok prC_len (by decide) hjl) ?_
    refine W.ld (prF0 hq) ?_
    have kn := ok20 q.nm p.1.toNat p.2.toNat hnm (by omega) (by omega)
    rw [show ((p.1.toNat : Nat) : Int) = p.1 from by omega, show ((p.2.toNat : Nat) : Int) = p.2 from by omega] at kn
    refine W.pure kn rfl rfl ?_
    refine W.alt_l ?_
    refine W.need ⟨rfl, rfl, rfl, by omega, by omega, by intro c hc; obtain rfl := List.mem_singleton.1 hc; rfl⟩ ?_
    have g1 : IntKind.i64.wrap ((i : Int) + 1) = ((i + 1 : Nat) : Int) := by rw [wrap64 (by omega) (by omega)]; rfl
    refine W.ret ⟨_, _, _, ?_, Trim.of [1, 8, 47, 48, 49, 12] [0] (by decide) (by simp) (by simp), i + 1, ?_, ?_, by omega, rfl⟩
    · omega
    · rw [← g1]; rfl
    · rw [names_take hp, flat_append]; rfl
  · have hil : i = C.length := by have := of_decide_eq_false c1; omega
    refine W.ret (W.ret ?_)
    refine RetQ.part [] (by decide) (by simp) (by simp) ⟨?_, rfl⟩
    show AV.tuple [.d (.sl i ((flat sC (names q.nm (C.take i))).take (i * 1))), .d (.lit .nilIface)] = _
    have hl : (names q.nm C).length = C.length := by simp [names]
    rw [hil, List.take_length, ← hl, flat_all sC_len]
    rfl
end Go.Proofs.YtbjjimllnffcpaaGreatDoor.Gr

set_option maxRecDepth 100000
set_option linter.unusedVariables false
set_option linter.unusedSimpArgs false
/- Package group: the groups of an event. -/
namespace Go.Proofs.YtbjjimllnffcpaaGreatDoor.Gr
open Go Go.Am Va
def od12 : Ords := [(11, [0, 1, 2, 3, 4, 5, 6, 8, 11, 1007, 1009, 10])]
theorem code12 : codeB Tryz.f12.ntmps od12 (match Tryz.f12.body with | some c => c | none => .skip) = true := by kernel_rfl
theorem chain_small (c n : Int) : Small (Dy.chain c n) := fun p hp => by
  unfold Dy.chain at hp
  split at hp
  · rename_i hg
    obtain ⟨h1, h2, h3, h4, h5, h6⟩ := Dy.good_iff.1 hg
    unfold Dy.chainI at hp
    obtain ⟨l, hl, rfl⟩ := List.mem_map.1 hp
    have hl := List.mem_range.1 hl
    exact good_small (Dy.chain_has hg (i := l) (by omega)).1
  · cases hp
def reachE (s : List Att) (e : Evt) (n : Int) : GE := match checkE s n with
  | .ok => ofO (evtErr s e)
  | e => e
/-- A schema and an event that are in form. -/
structure FineE (s : List Att) (e : Evt) (n : Int) : Prop where
  n0 : 0 ≤ n
  n8 : n ≤ 8
  chk : chkErr s = none
  evt : evtErr s e = none
theorem reachE_ok {s : List Att} {e : Evt} {n : Int} : reachE s e n = .ok ↔ FineE s e n := by
  unfold reachE checkE
  constructor
  · intro h
    by_cases hn : n < 0 ∨ n > 8
    · rw [if_pos hn] at h; cases h
    · rw [if_neg hn] at h
      cases hc : chkErr s with
      | some i => rw [hc] at h; cases h
      | none =>
        rw [hc] at h
        simp only [ofO] at h
        cases hf : evtErr s e with
        | some i => rw [hf] at h; cases h
        | none => exact ⟨by omega, by omega, hc, hf⟩
  · intro h
    rw [if_neg (by have := h.n0; have := h.n8; omega), h.chk]
    simp only [ofO, h.evt]
def attAt (s : List Att) (i : Nat) : Att := (s[i]?).getD noAtt
def valAt (e : Evt) (i : Nat) : Val := (e.vals[i]?).getD noVal
def chainAt (s : List Att) (e : Evt) (n : Int) (i : Nat) : List (Int × Int) := Dy.chain (Dy.cellA (attAt s i) (valAt e i) n) n
def reachN (s : List Att) (e : Evt) (n : Int) : Nat → List ByteArray
  | 0 => []
  | i + 1 => reachN s e n i ++ names (attAt s i).nm (chainAt s e n i)
def reachL (s : List Att) (e : Evt) (n : Int) : List ByteArray := match reachE s e n with
  | .ok => reachN s e n s.length
  | _ => []
theorem names_len (a : ByteArray) (C : List (Int × Int)) : (names a C).length = C.length := by simp [names]
theorem reachN_len (s : List Att) (e : Evt) (n : Int) : ∀ i, (reachN s e n i).length ≤ i * 1000
  | 0 => by simp [reachN]
  | i + 1 => by
    have := reachN_len s e n i
    have h2 := Dy.chain_len (Dy.cellA (attAt s i) (valAt e i) n) n
    rw [reachN, List.length_append, names_len]
    unfold chainAt
    omega
set_option maxHeartbeats 4000000 in
theorem ok12 (s : List Att) (hs : s.length ≤ 1000000) (hnm : ∀ a ∈ s, a.nm.size ≤ 1000) (e : Evt) (n : Int) : Go.Am.Pure Tryz.prog 12 [slF atC s, .d (.agg (evC e)), .d (nI n)] (.tuple [slS (reachL s e n), .d (geD (reachE s e n))]) := by
  refine CallOk.softG ?_
  refine CallOk.of tysOk mixed od12 Tryz.func12 rfl rfl code12 ?_
  have k1 := ok25 s n
  have bad : ∀ {g : GE}, reachE s e n = g → g ≠ .ok → ∀ {σ : Store}, RetQ ([] : Store).length (fun v s' => v.softG = .tuple [slS (reachL s e n), .d (geD (reachE s e n))] ∧ s' = []) .ret [(0, mkRet [.d (.lit (.slice none 0 0)), .d (geD g)])] σ := fun {g} h1 h2 σ => by
    have e1 : reachL s e n = [] := by
      unfold reachL
      rw [h1]
      cases g with
      | ok => exact absurd rfl h2
      | _ => rfl
    refine RetQ.part [] (by decide) (by simp) (by simp) ⟨?_, rfl⟩
    rw [e1, h1]
    cases g <;> rfl
  cases hc : checkE s n with
  | arg =>
    rw [hc] at k1
    have e1 : reachE s e n = .arg := by unfold reachE; rw [hc]
    refine W.pure k1 rfl rfl ?_
    repeat (first | refine W.ite_t rfl ?_ | refine W.ite_f rfl ?_)
    exact W.ret (bad e1 (by simp))
  | val i =>
    rw [hc] at k1
    have e1 : reachE s e n = .val i := by unfold reachE; rw [hc]
    refine W.pure k1 rfl rfl ?_
    repeat (first | refine W.ite_t rfl ?_ | refine W.ite_f rfl ?_)
    exact W.ret (bad e1 (by simp))
  | ok =>
  rw [hc] at k1
  refine W.pure k1 rfl rfl ?_
  repeat (first | refine W.ite_t rfl ?_ | refine W.ite_f rfl ?_)
  have k2 := ok35 s (by omega) e
  cases hf : evtErr s e with
  | some i =>
    rw [hf] at k2
    have e1 : reachE s e n = .val i := by unfold reachE; rw [hc, hf]; rfl
    refine W.pure k2 rfl rfl ?_
    repeat (first | refine W.ite_t rfl ?_ | refine W.ite_f rfl ?_)
    exact W.ret (bad e1 (by simp))
  | none =>
  rw [hf] at k2
  refine W.pure k2 rfl rfl ?_
  repeat (first | refine W.ite_t rfl ?_ | refine W.ite_f rfl ?_)
  clear bad
  have e1 : reachE s e n = .ok := by unfold reachE; rw [hc, hf]; rfl
  have hfine := reachE_ok.1 e1
  have hlen := evtErr_none hf
  have e2 : reachL s e n = reachN s e n s.length := by unfold reachL; rw [e1]
  have hn0 := hfine.n0
  have hn8 := hfine.n8
  rw [e1, e2]
  refine W.loop (fun k fr σ => ∃ i : Nat, fr = [(2, .d (nI n)), (4, .ptr 0 0), (27, slF atC s), (28, .d (nI s.length)), (29, .d (nI i)), (10, .vec 1 (reachN s e n i).length)] ∧ σ = [bD (evC e), .vec 1 (reachN s e n i).length (flat sC (reachN s e n i))] ∧ i ≤ s.length ∧ k = s.length - i) s.length
    (Start.of [2, 4, 27, 28, 29] [(10, 1)] (by simp; rfl)) ⟨0, rfl, rfl, by omega, rfl⟩ ?_
  rintro k fr σ ⟨i, rfl, rfl, hi, rfl⟩
  refine W.ite (fun c1 => ?_) (fun c1 => ?_)
  · have hil : i < s.length := by have := of_decide_eq_true c1; omega
    obtain ⟨a, ha⟩ : ∃ x, s[i]? = some x := ⟨_, List.getElem?_eq_getElem hil⟩
    obtain ⟨v, hv⟩ : ∃ x, e.vals[i]? = some x := ⟨_, List.getElem?_eq_getElem (by omega)⟩
    have hat : attAt s i = a := by unfold attAt; rw [ha]; rfl
    have hvt : valAt e i = v := by unfold valAt; rw [hv]; rfl
    have hct : chainAt s e n i = Dy.chain (Dy.cellA a v n) n := by unfold chainAt; rw [hat, hvt]
    have hna := hnm a (List.mem_of_getElem? ha)
    have hrl := reachN_len s e n i
    have hstep : reachN s e n (i + 1) = reachN s e n i ++ names a.nm (chainAt s e n i) := by rw [reachN, hat]
    refine W.need (ix_ok atC_len (by decide) hil) ?_
    refine W.ld (atE ha) ?_
    refine W.need (ix_ok vaC_len (by decide) (by omega)) ?_
    refine W.ld (vaE hv) ?_
    refine W.pure (Dy.ok37' a v n) rfl rfl ?_
    have kc := Dy.ok36 (Dy.cellA a v n) n
    rw [slI_flat, ← hct] at kc
    refine W.pure kc rfl rfl ?_
    have hsm : Small (chainAt s e n i) := by rw [hct]; exact chain_small _ _
    have hcl : (chainAt s e n i).length ≤ 1000 := by rw [hct]; exact Dy.chain_len _ _
    generalize chainAt s e n i = C at *
    generalize reachN s e n i = R at *
    refine W.loop (fun k fr σ => ∃ m : Nat, fr = [(2, .d (nI n)), (4, .ptr 0 0), (12, .ptr 2 0), (27, slF atC s), (28, .d (nI s.length)), (29, .d (nI i)), (10, .vec 1 (R.length + m)), (43, slF ivC C), (44, .d (nI C.length)), (45, .d (nI m))] ∧
        σ = [bD (evC e), .vec 1 (R.length + m) (flat sC (R ++ names a.nm (C.take m))), bD (atC a)] ∧ m ≤ C.length ∧ k = C.length - m) C.length
      (Start.of [2, 4, 12, 27, 28, 29, 10, 43, 44, 45] [] (by simp)) ⟨0, rfl, by rw [List.take_zero]; simp only [names, List.map_nil, List.append_nil]; rfl, by omega, rfl⟩ ?_
    rintro k fr σ ⟨m, rfl, rfl, hm, rfl⟩
    refine W.ite (fun c2 => ?_) (fun c2 => ?_)
    · have hml : m < C.length := by have := of_decide_eq_true c2; omega
      obtain ⟨p, hp⟩ : ∃ x, C[m]? = some x := ⟨_, List.getElem?_eq_getElem hml⟩
      obtain ⟨s1, s2, s3, s4⟩ := hsm p (List.mem_of_getElem? hp)
      refine W.need (ix_ok ivC_len (by decide) hml) ?_
      refine W.ld (ivE hp) ?_
      have kn := ok20 a.nm p.1.toNat p.2.toNat hna (by omega) (by omega)
      rw [show ((p.1.toNat : Nat) : Int) = p.1 from by omega, show ((p.2.toNat : Nat) : Int) = p.2 from by omega] at kn
      refine W.pure kn rfl rfl ?_
      refine W.alt_l ?_
      refine W.need ⟨rfl, rfl, rfl, by omega, by omega, by intro c hc; obtain rfl := List.mem_singleton.1 hc; rfl⟩ ?_
      have g1 : IntKind.i64.wrap ((m : Int) + 1) = ((m + 1 : Nat) : Int) := by rw [wrap64 (by omega) (by omega)]; rfl
      refine W.ret ⟨_, _, _, ?_, Trim.of [2, 4, 12, 27, 28, 29, 10, 43, 44, 45] [0, 1, 2] (by decide) (by simp) (by intro j hj; have : j = 0 ∨ j = 1 ∨ j = 2 := (by simp at hj; omega); rcases this with rfl | rfl | rfl <;> rfl), m + 1, ?_, ?_, by omega, rfl⟩
      · omega
      · rw [← g1]; rfl
      · rw [names_take hp, ← List.append_assoc, flat_append (a := R ++ names a.nm (C.take m))]; rfl
    · have hml : m = C.length := by have := of_decide_eq_false c2; omega
      have g1 : IntKind.i64.wrap ((i : Int) + 1) = ((i + 1 : Nat) : Int) := by rw [wrap64 (by omega) (by omega)]; rfl
      have hl2 : (reachN s e n (i + 1)).length = R.length + m := by rw [hstep, List.length_append, names_len, hml]
      refine W.ret (W.ret ⟨_, _, _, ?_, Trim.of [2, 4, 27, 28, 29, 10] [0, 1] (by decide) (by simp) (by intro j hj; have : j = 0 ∨ j = 1 := (by simp at hj; omega); rcases this with rfl | rfl <;> rfl), i + 1, ?_, ?_, by omega, rfl⟩)
      · omega
      · rw [← g1, hl2]; rfl
      · rw [hl2, hstep]
        rw [hml, List.take_length]
        rfl
  · have hil : i = s.length := by have := of_decide_eq_false c1; omega
    refine W.ret (W.ret ?_)
    refine RetQ.part [] (by decide) (by simp) (by simp) ⟨?_, rfl⟩
    show AV.tuple [.d (.sl (reachN s e n i).length ((flat sC (reachN s e n i)).take ((reachN s e n i).length * 1))), .d (.lit .nilIface)] = _
    rw [hil, flat_all sC_len]
    rfl
end Go.Proofs.YtbjjimllnffcpaaGreatDoor.Gr
