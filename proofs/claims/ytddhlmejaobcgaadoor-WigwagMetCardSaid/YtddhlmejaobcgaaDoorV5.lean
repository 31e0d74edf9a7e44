import Derived.Test.YtddhlmejaobcgaaDoorV4
set_option maxRecDepth 100000
set_option linter.unusedVariables false
set_option linter.unusedSimpArgs false
namespace Go.Proofs.YtddhlmejaobcgaaDoor.Va
open Go Go.Am
def od43 : Ords := [(1, [0, 1, 2, 3, 4, 5, 6, 7, 8, 1009, 10, 11])]
theorem code43 : codeB Tryd.f43.ntmps od43 (match Tryd.f43.body with | some c => c | none => .skip) = true := by kernel_rfl
def od20 : Ords := []
theorem code20 : codeB Tryd.f20.ntmps od20 (match Tryd.f20.body with | some c => c | none => .skip) = true := by kernel_rfl
theorem subS_two (ds es : List D) : subS [bD ds, bD es] [0, 1] = [bD ds, bD es] := by
  show [Blk.var (AV.subL _ _ (ds.map .d)), Blk.var (AV.subL _ _ (es.map .d))] = _
  rw [subL_ds, subL_ds]
theorem merge_two (ds es : List D) : mergeS [bD ds, bD es] [0, 1] [bD ds, bD es] = [bD ds, bD es] := by
  show [Blk.var (AV.subL _ _ (ds.map .d)), Blk.var (AV.subL _ _ (es.map .d))] = _
  rw [subL_ds, subL_ds]
theorem two_ix {i : Nat} (h : i < 2) : [0, 1][i]? = some i := by
  have : i = 0 ∨ i = 1 := by omega
  rcases this with rfl | rfl <;> rfl
theorem ok54b (p : Prd → Bool) (g : Nat) (ds es : List D) (l : List Prd) (hl : l.length ≤ 4611686018427387904) (hp : ∀ x ∈ l, CallOk Tryd.prog g [.d (.agg (prC x)), .ptr 1 0, .ptr 0 0] [bD ds, bD es] (fun v s => v = bI (p x) ∧ s = [bD ds, bD es])) :
    CallOk Tryd.prog 54 [slF prC l, .fn g [.ptr 1 0, .ptr 0 0]] [bD ds, bD es] (fun v s => v = .d (nI (ixF p l 0)) ∧ s = [bD ds, bD es]) := by
  refine CallOk.of tysOk mixed od54 Tryd.func54 rfl rfl code54 ?_
  have fin : ∀ {n : Int}, n = ixF p l 0 → RetQ [bD ds, bD es].length (fun v s => v = .d (nI (ixF p l 0)) ∧ s = [bD ds, bD es]) .ret [(0, mkRet [.d (.lit (.int .i64 n))])] [bD ds, bD es] := fun {n} h => by
    subst h
    exact RetQ.part [0, 1] (by decide) (by simp) (fun j hj => two_ix hj) ⟨rfl, subS_two ds es⟩
  refine W.loop (fun k fr σ => ∃ i : Nat, fr = [(0, slF prC l), (1, .fn g [.ptr 1 0, .ptr 0 0]), (7, .d (nI l.length)), (8, .d (nI i))] ∧ σ = [bD ds, bD es] ∧ i ≤ l.length ∧ ixF p (l.drop i) i = ixF p l 0 ∧ k = l.length - i) l.length
    (Start.of [0, 1, 7, 8] [] (by simp)) ⟨0, rfl, rfl, by omega, rfl, rfl⟩ ?_
  rintro k fr σ ⟨i, rfl, rfl, hi, hr, rfl⟩
  refine W.ite (fun c1 => ?_) (fun c1 => ?_)
  · have hil : i < l.length := by have := of_decide_eq_true c1; omega
    obtain ⟨x, hx⟩ : ∃ x, l[i]? = some x := ⟨_, List.getElem?_eq_getElem hil⟩
    have hmem := List.mem_of_getElem? hx
    rw [drop_cons hx, ixF] at hr
    refine W.need (ix_ok prC_len (by decide) hil) ?_
    refine W.ld (prE hx) ?_
    refine W.call [0, 1] (by decide) (by simp) (by simp) rfl (subS_two ds es) (hp x hmem) ?_
    rintro v s ⟨rfl, rfl⟩
    rw [merge_two]
    refine W.ite (fun c2 => ?_) (fun c2 => ?_)
    · refine W.ret ?_
      rw [if_pos c2] at hr
      exact W.ret (fin hr)
    · rw [if_neg (by rw [c2]; decide)] at hr
      have g1 : IntKind.i64.wrap ((i : Int) + 1) = ((i + 1 : Nat) : Int) := by rw [wrap64 (by omega) (by omega)]; rfl
      refine W.ret ⟨_, _, _, ?_, Trim.of [0, 1, 7, 8] [0, 1] (by decide) (by simp) (fun j hj => two_ix hj), i + 1, ?_, subS_two ds es, by omega, hr, rfl⟩
      · omega
      · rw [← g1]; rfl
  · have hil : l.drop i = [] := by have := of_decide_eq_false c1; exact List.drop_of_length_le (by omega)
    rw [hil] at hr
    exact W.ret (W.ret (fin hr))
theorem ok37b (p : Prd → Bool) (g : Nat) (ds es : List D) (l : List Prd) (hl : l.length ≤ 4611686018427387904) (hp : ∀ x ∈ l, CallOk Tryd.prog g [.d (.agg (prC x)), .ptr 1 0, .ptr 0 0] [bD ds, bD es] (fun v s => v = bI (p x) ∧ s = [bD ds, bD es])) :
    CallOk Tryd.prog 37 [slF prC l, .fn g [.ptr 1 0, .ptr 0 0]] [bD ds, bD es] (fun v s => v = bI (l.any p) ∧ s = [bD ds, bD es]) := by
  refine CallOk.of tysOk mixed od37 Tryd.func37 rfl rfl code37 ?_
  refine W.call [0, 1] (by decide) (by simp) (by simp) rfl (subS_two ds es) (ok54b p g ds es l hl hp) ?_
  rintro v s ⟨rfl, rfl⟩
  rw [merge_two]
  refine W.ret ?_
  refine RetQ.part [0, 1] (by decide) (by simp) (fun j hj => two_ix hj) ⟨?_, subS_two ds es⟩
  rw [← ixF_any p l 0]
  rfl
def noVal : Val := ⟨0, txt []⟩
/-- The value that a predicate asks. -/
def valOf (s : List Att) (e : Evt) (nm : ByteArray) : Val := (e.vals[(findA s nm).toNat]?).getD noVal
theorem ok43 (s : List Att) (hs : s.length ≤ 4611686018427387904) (e : Evt) (p : Prd) (hf : findA s p.nm ≠ -1) (hl : e.vals.length = s.length) :
    CallOk Tryd.prog 43 [.d (.agg (prC p)), .ptr 1 0, .ptr 0 0] [bD [.sl s.length (flat atC s)], bD (evC e)] (fun v s' => v = bI (!takeV p (valOf s e p.nm)) ∧ s' = [bD [.sl s.length (flat atC s)], bD (evC e)]) := by
  refine CallOk.of tysOk mixed od43 Tryd.func43 rfl rfl code43 ?_
  rcases findA_spec s p.nm with hk | ⟨k, a, hk, ha, hat⟩
  · exact absurd hk hf
  have hks := (List.getElem?_eq_some_iff.1 ha).1
  obtain ⟨v, hv⟩ : ∃ v, e.vals[k]? = some v := ⟨_, List.getElem?_eq_getElem (by omega)⟩
  have hvo : valOf s e p.nm = v := by unfold valOf; rw [hk]; simp [hv]
  rw [hvo]
  refine W.pure (hk ▸ ok12 s hs p.nm) rfl rfl ?_
  refine W.need (ix_ok vaC_len (by decide) (by omega)) ?_
  refine W.ld (vaE hv) ?_
  refine W.pure (ok44 p v) rfl rfl ?_
  refine W.ret ?_
  exact RetQ.part [0, 1] (by decide) (by simp) (fun j hj => two_ix hj) ⟨rfl, rfl⟩
/-- Takes a filter an event? -/
def matchV (s : List Att) (f : List Prd) (e : Evt) : Bool := if fltErr s f ≠ none ∨ evtErr s e ≠ none then false else !(f.any fun p => !takeV p (valOf s e p.nm))
theorem fltFrom_none (s : List Att) (f : List Prd) : ∀ (r : List Prd) (i : Nat), fltFrom s f r i = none → ∀ (j : Nat) (p : Prd), r[j]? = some p → prdBad s f (i + j) p = false
  | [], i, _, j, p, hp => by simp at hp
  | q :: r, i, h, j, p, hp => by
    unfold fltFrom at h
    split at h
    · cases h
    · rename_i hq
      cases j with
      | zero =>
        obtain rfl : q = p := by simpa using hp
        simpa using hq
      | succ j =>
        have := fltFrom_none s f r (i + 1) h j p (by simpa using hp)
        rw [show i + (j + 1) = i + 1 + j from by omega]
        exact this
theorem fltErr_none {s : List Att} {f : List Prd} (h : fltErr s f = none) : 1 ≤ f.length ∧ f.length ≤ 4 ∧ ∀ (j : Nat) (p : Prd), f[j]? = some p → prdBad s f j p = false := by
  unfold fltErr at h
  split at h
  · cases h
  · rename_i hn
    refine ⟨by omega, by omega, fun j p hp => ?_⟩
    have := fltFrom_none s f f 0 h j p hp
    rwa [Nat.zero_add] at this
theorem prd_found {s : List Att} {f : List Prd} (h : fltErr s f = none) {p : Prd} (hp : p ∈ f) : findA s p.nm ≠ -1 ∧ prdOk (attOf s p.nm) p = true := by
  obtain ⟨j, hj⟩ := List.getElem?_of_mem hp
  have := (fltErr_none h).2.2 j p hj
  unfold prdBad at this
  simp only [Bool.or_eq_false_iff, Bool.not_eq_false'] at this
  refine ⟨fun e => ?_, this.2.2⟩
  rw [e] at this
  exact absurd this.1 (by decide)
theorem evtErr_none {s : List Att} {e : Evt} (h : evtErr s e = none) : e.vals.length = s.length := by
  unfold evtErr at h
  split at h
  · cases h
  · rename_i hn
    exact Decidable.byContradiction fun h' => hn (.inl h')
theorem ok20 (s : List Att) (hs : s.length ≤ 4611686018427387904) (f : List Prd) (e : Evt) : Go.Am.Pure Tryd.prog 20 [slF atC s, slF prC f, .d (.agg (evC e))] (bI (matchV s f e)) := by
  refine CallOk.of tysOk mixed od20 Tryd.func20 rfl rfl code20 ?_
  have no : (fltErr s f ≠ none ∨ evtErr s e ≠ none) → ∀ {σ : Store}, RetQ ([] : Store).length (fun v s' => v = bI (matchV s f e) ∧ s' = []) .ret [(0, mkRet [.d (.lit (.bool false))])] σ := fun h σ => by
    refine RetQ.pure rfl (ret_bI ?_)
    unfold matchV
    rw [if_pos h]
  cases hf : fltErr s f with
  | some i =>
    have k1 := ok17 s hs f
    rw [hf] at k1
    refine W.pure k1 rfl rfl ?_
    repeat (first | refine W.ite_t rfl ?_ | refine W.ite_f rfl ?_)
    exact W.ret (no (.inl (by rw [hf]; simp)))
  | none =>
    have k1 := ok17 s hs f
    rw [hf] at k1
    refine W.pure k1 rfl rfl ?_
    repeat (first | refine W.ite_t rfl ?_ | refine W.ite_f rfl ?_)
    cases he : evtErr s e with
    | some i =>
      have k2 := ok21 s hs e
      rw [he] at k2
      refine W.pure k2 rfl rfl ?_
      repeat (first | refine W.ite_t rfl ?_ | refine W.ite_f rfl ?_)
      exact W.ret (no (.inr (by rw [he]; simp)))
    | none =>
      have k2 := ok21 s hs e
      rw [he] at k2
      refine W.pure k2 rfl rfl ?_
      repeat (first | refine W.ite_t rfl ?_ | refine W.ite_f rfl ?_)
      have hfl := fltErr_none hf
      refine W.call [0, 1] (by decide) (by simp) (by simp) rfl rfl (ok37b (fun p => !takeV p (valOf s e p.nm)) 43 [.sl s.length (flat atC s)] (evC e) f (by omega) (fun x hx => ok43 s hs e x (prd_found hf hx).1 (evtErr_none he))) ?_
      rintro v s' ⟨rfl, rfl⟩
      refine W.ret ?_
      refine RetQ.pure rfl (ret_bI ?_)
      unfold matchV
      rw [if_neg (by rw [hf, he]; simp)]
end Go.Proofs.YtddhlmejaobcgaaDoor.Va
