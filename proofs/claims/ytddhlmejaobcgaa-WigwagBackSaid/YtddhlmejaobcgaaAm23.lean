import Derived.Test.YtddhlmejaobcgaaAm22
/- Calls whose answers and stores are told as what they come to (so that no store grows unread). -/
set_option linter.unusedVariables false
set_option linter.unusedSimpArgs false
namespace Go.Am
variable {P : Program}
theorem notIn_not {T : List Nat} {i : Nat} (h : notIn T i = true) : i ∉ T := by
  induction T with
  | nil => simp
  | cons j r ih =>
    unfold notIn at h
    cases hb : Nat.beq j i with
    | true => rw [hb] at h; cases h
    | false =>
      rw [hb] at h
      have hne : ¬ i = j := fun e => by subst e; simp at hb
      intro hm
      rcases List.mem_cons.1 hm with e | e
      · exact hne e
      · exact ih h e
/-- A call on the blocks T. -/
theorem W.callT {f : FuncId} {args : List AV} {σ : Store} {L : List Nat} {k : AV → Store → Res} {Q : AExit → Fr → Store → Prop} (T : List Nat) {args' : List AV} {σ' : Store} {R : AV → Store → Prop} (h : CallOk P f args' σ' R) (hn : T.Nodup) (hT : T.all (fun i => Nat.blt i σ.length) = true)
    (hL : L.all (notIn T) = true) (ha : AV.subL σ (idx T) args = args') (hs : subS σ T = σ') (hk : ∀ v s, R v s → W P (k (v.sub s (back T σ.length)) (mergeS σ T s)) Q) : W P (.call f args σ L k) Q :=
  W.call T hn (fun i hi => by have := List.all_eq_true.1 hT i hi; simpa [Nat.blt_eq] using this) (fun i hi => notIn_not (List.all_eq_true.1 hL i hi)) ha hs h hk
/-- A call whose answer and store are known, told as what they come to. -/
theorem W.callF {f : FuncId} {args : List AV} {σ : Store} {L : List Nat} {k : AV → Store → Res} {Q : AExit → Fr → Store → Prop} (T : List Nat) (σ2 : Store) {x2 : AV} {args' : List AV} {σ' s1 : Store} {x : AV} (h : CallOk P f args' σ' (fun v s => v = x ∧ s = s1)) (hn : T.Nodup) (hT : T.all (fun i => Nat.blt i σ.length) = true)
    (hL : L.all (notIn T) = true) (ha : AV.subL σ (idx T) args = args') (hs : subS σ T = σ') (hx : x.sub s1 (back T σ.length) = x2) (hm : mergeS σ T s1 = σ2) (hk : W P (k x2 σ2) Q) : W P (.call f args σ L k) Q := by
  subst hx hm
  exact W.callT T h hn hT hL ha hs fun v s hv => by obtain ⟨rfl, rfl⟩ := hv; exact hk
theorem W.cond_t {b : Bool} {x y : Res} {Q : AExit → Fr → Store → Prop} (h : b = true) (hk : W P x Q) : W P (cond b x y) Q := by subst h; exact hk
/-- What lies in the front part of cells. -/
theorem Elem.left {cs xs : List D} {ks : List CK} {off n : Nat} (hn : ks.length = n) (h : Elem cs ks off n xs) (js : List D) : Elem (cs ++ js) ks off n xs := by
  subst hn
  have key := formed_shift (cs := cs ++ js) (ds := cs) (off := off) (k := off) ks 0 fun q hq => by
    have := h.ok.1
    simp only [rdD, List.getD_eq_getElem?_getD]
    rw [List.getElem?_append_left (show off + 0 + q < cs.length from by omega)]
  rw [Nat.add_zero] at key
  exact ⟨⟨by have := h.ok.1; simp; omega, key.2 h.ok.2⟩, by rw [key.1, h.eq]⟩
end Go.Am
