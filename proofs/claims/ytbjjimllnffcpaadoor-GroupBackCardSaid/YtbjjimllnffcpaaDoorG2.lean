import Derived.Test.YtbjjimllnffcpaaDoorG1
set_option maxRecDepth 100000
set_option linter.unusedVariables false
set_option linter.unusedSimpArgs false
/- Package group: the predicate that is chosen. -/
namespace Go.Proofs.YtbjjimllnffcpaaDoor.Gr
open Go Go.Am Va
def od14 : Ords := [(11, [0, 1, 2, 3, 7, 8, 4, 5, 6, 1009, 10, 11, 12, 13, 14])]
theorem code14 : codeB Tryd.f14.ntmps od14 (match Tryd.f14.body with | some c => c | none => .skip) = true := by kernel_rfl
def rgA (a : Att) (q : Prd) (n : Int) : Int × Int := Dy.rangeV a.k a.mn a.mx q.o q.lo q.hi q.str n
def rgQ (s : List Att) (q : Prd) (n : Int) : Int × Int := rgA (attOf s q.nm) q n
def wid (s : List Att) (q : Prd) (n : Int) : Int := (rgQ s q n).2 - (rgQ s q n).1
theorem pref_self (s : ByteArray) : prefOk s s = true := by
  unfold prefOk
  simp
theorem rgA_ok {a : Att} {q : Prd} {n : Int} (h0 : 0 ≤ n) (h8 : n ≤ 8) (hga : Dy.goodA a) (ho : prdOk a q = true) :
    0 ≤ (rgA a q n).1 ∧ (rgA a q n).1 ≤ (rgA a q n).2 ∧ (rgA a q n).2 < 2 ^ n.toNat := by
  have ht : takeV q ⟨q.lo, q.str⟩ = true := by
    unfold takeV
    unfold prdOk at ho
    split
    · rename_i h1
      rw [if_pos h1] at ho
      unfold numOk at ho
      simp only [Bool.and_eq_true, decide_eq_true_eq] at ho
      simp only [Bool.and_eq_true, decide_eq_true_eq]
      omega
    · split
      · unfold sEq; simp
      · exact pref_self _
  obtain ⟨q1, q2, q3, q4⟩ := Dy.in_range (n := n) h0 h8 hga ho ht
  exact ⟨q1, Int.le_trans q2 q3, q4⟩
/-- A schema and a filter that are in form. -/
structure Fine (s : List Att) (f : List Prd) (n : Int) : Prop where
  n0 : 0 ≤ n
  n8 : n ≤ 8
  chk : chkErr s = none
  flt : fltErr s f = none
theorem Fine.prd {s : List Att} {f : List Prd} {n : Int} (h : Fine s f n) {q : Prd} (hq : q ∈ f) :
    ∃ (k : Nat) (a : Att), findA s q.nm = k ∧ s[k]? = some a ∧ attOf s q.nm = a ∧ Dy.goodA a ∧ prdOk a q = true ∧ q.str.size ≤ 60 := by
  obtain ⟨hnf, hpo⟩ := prd_found h.flt hq
  rcases findA_spec s q.nm with hk | ⟨k, a, hk, ha, hat⟩
  · exact absurd hk hnf
  · rw [hat] at hpo
    exact ⟨k, a, hk, ha, hat, Dy.chk_good h.chk a (List.mem_of_getElem? ha), hpo, Dy.prd_small hpo⟩
theorem Fine.rg {s : List Att} {f : List Prd} {n : Int} (h : Fine s f n) {q : Prd} (hq : q ∈ f) : 0 ≤ (rgQ s q n).1 ∧ (rgQ s q n).1 ≤ (rgQ s q n).2 ∧ (rgQ s q n).2 < 2 ^ n.toNat := by
  obtain ⟨k, a, _, _, hat, hg, hp, _⟩ := h.prd hq
  unfold rgQ
  rw [hat]
  exact rgA_ok h.n0 h.n8 hg hp
theorem Fine.wd {s : List Att} {f : List Prd} {n : Int} (h : Fine s f n) {q : Prd} (hq : q ∈ f) : 0 ≤ wid s q n ∧ wid s q n < 256 := by
  have := h.rg hq
  have h2 := pow2_le (k := n.toNat) (by have := h.n8; omega)
  unfold wid
  omega
def chooseE (s : List Att) (f : List Prd) (n : Int) : GE := match checkE s n with
  | .ok => ofO (fltErr s f)
  | e => e
theorem chooseE_ok {s : List Att} {f : List Prd} {n : Int} : chooseE s f n = .ok ↔ Fine s f n := by
  unfold chooseE checkE
  constructor
  · intro h
    by_cases hn : n < 0 ∨ n > 8
    · rw [if_pos hn] at h; cases h
    · rw [if_neg hn] at h
      cases hc : chkErr s with
      | some i => rw [hc] at h; cases h
      | none =>
        rw [hc] at h
        simp only [ofO] at h
        cases hf : fltErr s f with
        | some i => rw [hf] at h; cases h
        | none => exact ⟨by omega, by omega, hc, hf⟩
  · intro h
    rw [if_neg (by have := h.n0; have := h.n8; omega), h.chk]
    simp only [ofO, h.flt]
def stepG (s : List Att) (n : Int) (i : Nat) (q : Prd) (b : Int × Int) : Int × Int := if b.1 < 0 ∨ wid s q n < b.2 then ((i : Int), wid s q n) else b
def bestG (s : List Att) (n : Int) : List Prd → Nat → Int × Int → Int × Int
  | [], _, b => b
  | q :: r, i, b => bestG s n r (i + 1) (stepG s n i q b)
def bestI (s : List Att) (f : List Prd) (n : Int) : Int := (bestG s n f 0 (-1, 0)).1
def chooseI (s : List Att) (f : List Prd) (n : Int) : Int := match chooseE s f n with
  | .ok => bestI s f n
  | _ => -1
theorem choose_bad {s : List Att} {f : List Prd} {n : Int} (h : chooseE s f n ≠ .ok) : chooseI s f n = -1 := by
  unfold chooseI
  cases hc : chooseE s f n with
  | ok => exact absurd hc h
  | _ => rfl
set_option maxHeartbeats 4000000 in
theorem ok14 (s : List Att) (hs : s.length ≤ 1000000) (f : List Prd) (n : Int) : Go.Am.Pure Tryd.prog 14 [slF atC s, slF prC f, .d (nI n)] (.tuple [.d (nI (chooseI s f n)), .d (geD (chooseE s f n))]) := by
  refine CallOk.of tysOk mixed od14 Tryd.func14 rfl rfl code14 ?_
  have k1 := ok28 s n
  cases hc : checkE s n with
  | arg =>
    rw [hc] at k1
    have e1 : chooseE s f n = .arg := by unfold chooseE; rw [hc]
    have e2 : chooseI s f n = -1 := by unfold chooseI; rw [e1]
    refine W.pure k1 rfl rfl ?_
    repeat (first | refine W.ite_t rfl ?_ | refine W.ite_f rfl ?_)
    rw [e1, e2]
    exact W.ret (RetQ.pure rfl rfl)
  | val i =>
    rw [hc] at k1
    have e1 : chooseE s f n = .val i := by unfold chooseE; rw [hc]
    have e2 : chooseI s f n = -1 := by unfold chooseI; rw [e1]
    refine W.pure k1 rfl rfl ?_
    repeat (first | refine W.ite_t rfl ?_ | refine W.ite_f rfl ?_)
    rw [e1, e2]
    exact W.ret (RetQ.pure rfl rfl)
  | ok =>
  rw [hc] at k1
  refine W.pure k1 rfl rfl ?_
  repeat (first | refine W.ite_t rfl ?_ | refine W.ite_f rfl ?_)
  have k2 := ok29 s (by omega) f
  cases hf : fltErr s f with
  | some i =>
    rw [hf] at k2
    have e1 : chooseE s f n = .val i := by unfold chooseE; rw [hc, hf]; rfl
    have e2 : chooseI s f n = -1 := by unfold chooseI; rw [e1]
    refine W.pure k2 rfl rfl ?_
    repeat (first | refine W.ite_t rfl ?_ | refine W.ite_f rfl ?_)
    rw [e1, e2]
    exact W.ret (RetQ.pure rfl rfl)
  | none =>
  rw [hf] at k2
  refine W.pure k2 rfl rfl ?_
  repeat (first | refine W.ite_t rfl ?_ | refine W.ite_f rfl ?_)
  have e1 : chooseE s f n = .ok := by unfold chooseE; rw [hc, hf]; rfl
  have hfine := chooseE_ok.1 e1
  have e2 : chooseI s f n = bestI s f n := by unfold chooseI; rw [e1]
  rw [e1, e2]
  have hf4 := (fltErr_none hf).2.1
  have hn0 := hfine.n0
  have hn8 := hfine.n8
  clear k1 k2 hc hf e1 e2
  refine W.loop (fun k fr σ => ∃ (i : Nat) (b : Int × Int), fr = [(0, slF atC s), (2, .d (nI n)), (10, .d (nI b.1)), (11, .d (nI b.2)), (28, slF prC f), (29, .d (nI f.length)), (30, .d (nI i))] ∧ σ = [] ∧ i ≤ f.length ∧ (bestG s n (f.drop i) i b).1 = bestI s f n ∧ -1 ≤ b.1 ∧ b.1 < 10 ∧ k = f.length - i) f.length
    (Start.of [0, 2, 10, 11, 28, 29, 30] [] (by simp)) ⟨0, (-1, 0), rfl, rfl, by omega, rfl, by decide, by decide, rfl⟩ ?_
  rintro k fr σ ⟨i, b, rfl, rfl, hi, hb, hb1, hb2, rfl⟩
  refine W.ite (fun c1 => ?_) (fun c1 => ?_)
  · have hil : i < f.length := by have := of_decide_eq_true c1; omega
    obtain ⟨q, hq⟩ : ∃ x, f[i]? = some x := ⟨_, List.getElem?_eq_getElem hil⟩
    have hqm := List.mem_of_getElem? hq
    obtain ⟨k, a, hk, ha, hat, hga, hpo, hsm⟩ := hfine.prd hqm
    have hkl := (List.getElem?_eq_some_iff.1 ha).1
    have hrg := hfine.rg hqm
    have hwd := hfine.wd hqm
    have hrq : rgQ s q n = rgA a q n := by unfold rgQ; rw [hat]
    have hp2 := pow2_le (k := n.toNat) (by omega)
    rw [drop_cons hq, bestG] at hb
    refine W.need (ix_ok prC_len (by decide) hil) ?_
    refine W.ld (prE hq) ?_
    refine W.pure (hk ▸ ok16 s (by omega) q.nm) rfl rfl ?_
    refine W.need (ix_ok atC_len (by decide) hkl) ?_
    refine W.ld (atE ha) ?_
    refine W.pure (Dy.ok15' a q n hsm) rfl rfl ?_
    have ew : IntKind.i64.wrap ((rgA a q n).2 - (rgA a q n).1) = wid s q n := by
      rw [wrap64 (by rw [← hrq]; omega) (by rw [← hrq]; omega), ← hrq]
      rfl
    have g1 : IntKind.i64.wrap ((i : Int) + 1) = ((i + 1 : Nat) : Int) := by rw [wrap64 (by omega) (by omega)]; rfl
    have done : ∀ {b' : Int × Int}, b' = stepG s n i q b → ∀ {fr : Fr} {σ : Store}, fr.get 0 = slF atC s → fr.get 2 = .d (nI n) → fr.get 10 = .d (nI b'.1) → fr.get 11 = .d (nI b'.2) → fr.get 28 = slF prC f → fr.get 29 = .d (nI f.length) → fr.get 30 = .d (nI (IntKind.i64.wrap ((i : Int) + 1))) →
        ∃ m fr'' σ'', m < f.length - i ∧ Trim ([] : Store).length fr σ fr'' σ'' ∧ ∃ (i : Nat) (b : Int × Int), fr'' = [(0, slF atC s), (2, .d (nI n)), (10, .d (nI b.1)), (11, .d (nI b.2)), (28, slF prC f), (29, .d (nI f.length)), (30, .d (nI i))] ∧ σ'' = [] ∧ i ≤ f.length ∧ (bestG s n (f.drop i) i b).1 = bestI s f n ∧ -1 ≤ b.1 ∧ b.1 < 10 ∧ m = f.length - i := fun {b'} hb' {fr σ} h0 h2 h10 h11 h28 h29 h30 => by
      rw [g1] at h30
      refine ⟨_, _, _, ?_, Trim.of [0, 2, 10, 11, 28, 29, 30] [] (by decide) (by simp) (by simp), i + 1, b', ?_, rfl, by omega, ?_, ?_, ?_, rfl⟩
      · omega
      · simp only [keepFr, h0, h2, h10, h11, h28, h29, h30]; rfl
      · rw [hb']; exact hb
      · rw [hb']; unfold stepG; split
        · show (-1 : Int) ≤ i; omega
        · exact hb1
      · rw [hb']; unfold stepG; split
        · show (i : Int) < 10; omega
        · exact hb2
    by_cases d1 : b.1 < 0
    · have c2 : decide (b.1 < 0) = true := decide_eq_true d1
      repeat (first | refine W.ite_t rfl ?_ | refine W.ite_f rfl ?_ | refine W.ite_t c2 ?_)
      refine W.ret (done (b' := ((i : Int), wid s q n)) ?_ rfl rfl rfl ?_ rfl rfl rfl)
      · unfold stepG; rw [if_pos (.inl d1)]
      · rw [← ew]; rfl
    · have c2 : decide (b.1 < 0) = false := decide_eq_false d1
      by_cases d2 : wid s q n < b.2
      · have c3 : decide (IntKind.i64.wrap ((rgA a q n).2 - (rgA a q n).1) < b.2) = true := by rw [ew]; exact decide_eq_true d2
        repeat (first | refine W.ite_t rfl ?_ | refine W.ite_f rfl ?_ | refine W.ite_f c2 ?_ | refine W.ite_t c3 ?_)
        refine W.ret (done (b' := ((i : Int), wid s q n)) ?_ rfl rfl rfl ?_ rfl rfl rfl)
        · unfold stepG; rw [if_pos (.inr d2)]
        · rw [← ew]; rfl
      · have c3 : decide (IntKind.i64.wrap ((rgA a q n).2 - (rgA a q n).1) < b.2) = false := by rw [ew]; exact decide_eq_false d2
        repeat (first | refine W.ite_t rfl ?_ | refine W.ite_f rfl ?_ | refine W.ite_f c2 ?_ | refine W.ite_f c3 ?_)
        refine W.ret (done (b' := b) ?_ rfl rfl rfl rfl rfl rfl rfl)
        unfold stepG; rw [if_neg (by omega)]
  · have hil : i = f.length := by have := of_decide_eq_false c1; omega
    rw [List.drop_of_length_le (by omega), bestG] at hb
    refine W.ret (W.ret (RetQ.pure rfl ?_))
    rw [← hb]
    rfl
end Go.Proofs.YtbjjimllnffcpaaDoor.Gr
