import Derived.Test.YtbjjimllnffcpaaDoorG3
set_option maxRecDepth 100000
set_option linter.unusedVariables false
set_option linter.unusedSimpArgs false
/- Package group: the groups of an event. -/
namespace Go.Proofs.YtbjjimllnffcpaaDoor.Gr
open Go Go.Am Va
def od18 : Ords := [(11, [0, 1, 2, 3, 4, 5, 6, 8, 11, 1007, 1009, 10])]
theorem code18 : codeB Tryd.f18.ntmps od18 (match Tryd.f18.body with | some c => c | none => .skip) = true := by kernel_rfl
theorem chain_small (c n : Int) : Small (Dy.chain c n) := fun p hp => by
  unfold Dy.chain at hp
  split at hp
  · rename_i hg
    obtain ⟨h1, h2, h3, h4, h5, h6⟩ := Dy.good_iff.1 hg
    unfold Dy.chainI at hp
    obtain ⟨l, hl, rfl⟩ := List.mem_map.1 hp
    have hl := List.mem_range.1 hl
    exact good_small (Dy.chain_has hg (i := l) (by omega)).1
  · cases hp
def reachE (s : List Att) (e : Evt) (n : Int) : GE := match checkE s n with
  | .ok => ofO (evtErr s e)
  | e => e
/-- A schema and an event that are in form. -/
structure FineE (s : List Att) (e : Evt) (n : Int) : Prop where
  n0 : 0 ≤ n
  n8 : n ≤ 8
  chk : chkErr s = none
  evt : evtErr s e = none
theorem reachE_ok {s : List Att} {e : Evt} {n : Int} : reachE s e n = .ok ↔ FineE s e n := by
  unfold reachE checkE
  constructor
  · intro h
    by_cases hn : n < 0 ∨ n > 8
    · rw [if_pos hn] at h; cases h
    · rw [if_neg hn] at h
      cases hc : chkErr s with
      | some i => rw [hc] at h; cases h
      | none =>
        rw [hc] at h
        simp only [ofO] at h
        cases hf : evtErr s e with
        | some i => rw [hf] at h; cases h
        | none => exact ⟨by omega, by omega, hc, hf⟩
  · intro h
    rw [if_neg (by have := h.n0; have := h.n8; omega), h.chk]
    simp only [ofO, h.evt]
def attAt (s : List Att) (i : Nat) : Att := (s[i]?).getD noAtt
def valAt (e : Evt) (i : Nat) : Val := (e.vals[i]?).getD noVal
def chainAt (s : List Att) (e : Evt) (n : Int) (i : Nat) : List (Int × Int) := Dy.chain (Dy.cellA (attAt s i) (valAt e i) n) n
def reachN (s : List Att) (e : Evt) (n : Int) : Nat → List ByteArray
  | 0 => []
  | i + 1 => reachN s e n i ++ names (attAt s i).nm (chainAt s e n i)
def reachL (s : List Att) (e : Evt) (n : Int) : List ByteArray := match reachE s e n with
  | .ok => reachN s e n s.length
  | _ => []
theorem names_len (a : ByteArray) (C : List (Int × Int)) : (names a C).length = C.length := by simp [names]
theorem reachN_len (s : List Att) (e : Evt) (n : Int) : ∀ i, (reachN s e n i).length ≤ i * 1000
  | 0 => by simp [reachN]
  | i + 1 => by
    have := reachN_len s e n i
    have h2 := Dy.chain_len (Dy.cellA (attAt s i) (valAt e i) n) n
    rw [reachN, List.length_append, names_len]
    unfold chainAt
    omega
set_option maxHeartbeats 4000000 in
theorem ok18 (s : List Att) (hs : s.length ≤ 1000000) (hnm : ∀ a ∈ s, a.nm.size ≤ 1000) (e : Evt) (n : Int) : Go.Am.Pure Tryd.prog 18 [slF atC s, .d (.agg (evC e)), .d (nI n)] (.tuple [slS (reachL s e n), .d (geD (reachE s e n))]) := by
  refine CallOk.softG ?_
  refine CallOk.of tysOk mixed od18 Tryd.func18 rfl rfl code18 ?_
  have k1 := ok28 s n
  have bad : ∀ {g : GE}, reachE s e n = g → g ≠ .ok → ∀ {σ : Store}, RetQ ([] : Store).length (fun v s' => v.softG = .tuple [slS (reachL s e n), .d (geD (reachE s e n))] ∧ s' = []) .ret [(0, mkRet [.d (.lit (.slice none 0 0)), .d (geD g)])] σ := fun {g} h1 h2 σ => by
    have e1 : reachL s e n = [] := by
      unfold reachL
      rw [h1]
      cases g with
      | ok => exact absurd rfl h2
      | _ => rfl
    refine RetQ.part [] (by decide) (by simp) (by simp) ⟨?_, rfl⟩
    rw [e1, h1]
    cases g <;> rfl
  cases hc : checkE s n with
  | arg =>
    rw [hc] at k1
    have e1 : reachE s e n = .arg := by unfold reachE; rw [hc]
    refine W.pure k1 rfl rfl ?_
    repeat (first | refine W.ite_t rfl ?_ | refine W.ite_f rfl ?_)
    exact W.ret (bad e1 (by simp))
  | val i =>
    rw [hc] at k1
    have e1 : reachE s e n = .val i := by unfold reachE; rw [hc]
    refine W.pure k1 rfl rfl ?_
    repeat (first | refine W.ite_t rfl ?_ | refine W.ite_f rfl ?_)
    exact W.ret (bad e1 (by simp))
  | ok =>
  rw [hc] at k1
  refine W.pure k1 rfl rfl ?_
  repeat (first | refine W.ite_t rfl ?_ | refine W.ite_f rfl ?_)
  have k2 := ok33 s (by omega) e
  cases hf : evtErr s e with
  | some i =>
    rw [hf] at k2
    have e1 : reachE s e n = .val i := by unfold reachE; rw [hc, hf]; rfl
    refine W.pure k2 rfl rfl ?_
    repeat (first | refine W.ite_t rfl ?_ | refine W.ite_f rfl ?_)
    exact W.ret (bad e1 (by simp))
  | none =>
  rw [hf] at k2
  refine W.pure k2 rfl rfl ?_
  repeat (first | refine W.ite_t rfl ?_ | refine W.ite_f rfl ?_)
  clear bad
  have e1 : reachE s e n = .ok := by unfold reachE; rw [hc, hf]; rfl
  have hfine := reachE_ok.1 e1
  have hlen := evtErr_none hf
  have e2 : reachL s e n = reachN s e n s.length := by unfold reachL; rw [e1]
  have hn0 := hfine.n0
  have hn8 := hfine.n8
  rw [e1, e2]
  refine W.loop (fun k fr σ => ∃ i : Nat, fr = [(2, .d (nI n)), (4, .ptr 0 0), (27, slF atC s), (28, .d (nI s.length)), (29, .d (nI i)), (10, .vec 1 (reachN s e n i).length)] ∧ σ = [bD (evC e), .vec 1 (reachN s e n i).length (flat sC (reachN s e n i))] ∧ i ≤ s.length ∧ k = s.length - i) s.length
    (Start.of [2, 4, 27, 28, 29] [(10, 1)] (by simp; rfl)) ⟨0, rfl, rfl, by omega, rfl⟩ ?_
  rintro k fr σ ⟨i, rfl, rfl, hi, rfl⟩
  refine W.ite (fun c1 => ?_) (fun c1 => ?_)
  · have hil : i < s.length := by have := of_decide_eq_true c1; omega
    obtain ⟨a, ha⟩ : ∃ x, s[i]? = some x := ⟨_, List.getElem?_eq_getElem hil⟩
    obtain ⟨v, hv⟩ : ∃ x, e.vals[i]? = some x := ⟨_, List.getElem?_eq_getElem (by omega)⟩
    have hat : attAt s i = a := by unfold attAt; rw [ha]; rfl
    have hvt : valAt e i = v := by unfold valAt; rw [hv]; rfl
    have hct : chainAt s e n i = Dy.chain (Dy.cellA a v n) n := by unfold chainAt; rw [hat, hvt]
    have hna := hnm a (List.mem_of_getElem? ha)
    have hrl := reachN_len s e n i
    have hstep : reachN s e n (i + 1) = reachN s e n i ++ names a.nm (chainAt s e n i) := by rw [reachN, hat]
    refine W.need (ix_ok atC_len (by decide) hil) ?_
    refine W.ld (atE ha) ?_
    refine W.need (ix_ok vaC_len (by decide) (by omega)) ?_
    refine W.ld (vaE hv) ?_
    refine W.pure (Dy.ok30' a v n) rfl rfl ?_
    have kc := Dy.ok34 (Dy.cellA a v n) n
    rw [slI_flat, ← hct] at kc
    refine W.pure kc rfl rfl ?_
    have hsm : Small (chainAt s e n i) := by rw [hct]; exact chain_small _ _
    have hcl : (chainAt s e n i).length ≤ 1000 := by rw [hct]; exact Dy.chain_len _ _
    generalize chainAt s e n i = C at *
    generalize reachN s e n i = R at *
    refine W.loop (fun k fr σ => ∃ m : Nat, fr = [(2, .d (nI n)), (4, .ptr 0 0), (12, .ptr 2 0), (27, slF atC s), (28, .d (nI s.length)), (29, .d (nI i)), (10, .vec 1 (R.length + m)), (43, slF ivC C), (44, .d (nI C.length)), (45, .d (nI m))] ∧
        σ = [bD (evC e), .vec 1 (R.length + m) (flat sC (R ++ names a.nm (C.take m))), bD (atC a)] ∧ m ≤ C.length ∧ k = C.length - m) C.length
      (Start.of [2, 4, 12, 27, 28, 29, 10, 43, 44, 45] [] (by simp)) ⟨0, rfl, by rw [List.take_zero]; simp only [names, List.map_nil, List.append_nil]; rfl, by omega, rfl⟩ ?_
    rintro k fr σ ⟨m, rfl, rfl, hm, rfl⟩
    refine W.ite (fun c2 => ?_) (fun c2 => ?_)
    · have hml : m < C.length := by have := of_decide_eq_true c2; omega
      obtain ⟨p, hp⟩ : ∃ x, C[m]? = some x := ⟨_, List.getElem?_eq_getElem hml⟩
      obtain ⟨s1, s2, s3, s4⟩ := hsm p (List.mem_of_getElem? hp)
      refine W.need (ix_ok ivC_len (by decide) hml) ?_
      refine W.ld (ivE hp) ?_
      have kn := ok11 a.nm p.1.toNat p.2.toNat hna (by omega) (by omega)
      rw [show ((p.1.toNat : Nat) : Int) = p.1 from by omega, show ((p.2.toNat : Nat) : Int) = p.2 from by omega] at kn
      refine W.pure kn rfl rfl ?_
      refine W.alt_l ?_
      refine W.need ⟨rfl, rfl, rfl, by omega, by omega, by intro c hc; obtain rfl := List.mem_singleton.1 hc; rfl⟩ ?_
      have g1 : IntKind.i64.wrap ((m : Int) + 1) = ((m + 1 : Nat) : Int) := by rw [wrap64 (by omega) (by omega)]; rfl
      refine W.ret ⟨_, _, _, ?_, Trim.of [2, 4, 12, 27, 28, 29, 10, 43, 44, 45] [0, 1, 2] (by decide) (by simp) (by intro j hj; have : j = 0 ∨ j = 1 ∨ j = 2 := (by simp at hj; omega); rcases this with rfl | rfl | rfl <;> rfl), m + 1, ?_, ?_, by omega, rfl⟩
      · omega
      · rw [← g1]; rfl
      · rw [names_take hp, ← List.append_assoc, flat_append (a := R ++ names a.nm (C.take m))]; rfl
    · have hml : m = C.length := by have := of_decide_eq_false c2; omega
      have g1 : IntKind.i64.wrap ((i : Int) + 1) = ((i + 1 : Nat) : Int) := by rw [wrap64 (by omega) (by omega)]; rfl
      have hl2 : (reachN s e n (i + 1)).length = R.length + m := by rw [hstep, List.length_append, names_len, hml]
      refine W.ret (W.ret ⟨_, _, _, ?_, Trim.of [2, 4, 27, 28, 29, 10] [0, 1] (by decide) (by simp) (by intro j hj; have : j = 0 ∨ j = 1 := (by simp at hj; omega); rcases this with rfl | rfl <;> rfl), i + 1, ?_, ?_, by omega, rfl⟩)
      · omega
      · rw [← g1, hl2]; rfl
      · rw [hl2, hstep]
        rw [hml, List.take_length]
        rfl
  · have hil : i = s.length := by have := of_decide_eq_false c1; omega
    refine W.ret (W.ret ?_)
    refine RetQ.part [] (by decide) (by simp) (by simp) ⟨?_, rfl⟩
    show AV.tuple [.d (.sl (reachN s e n i).length ((flat sC (reachN s e n i)).take ((reachN s e n i).length * 1))), .d (.lit .nilIface)] = _
    rw [hil, flat_all sC_len]
    rfl
end Go.Proofs.YtbjjimllnffcpaaDoor.Gr
