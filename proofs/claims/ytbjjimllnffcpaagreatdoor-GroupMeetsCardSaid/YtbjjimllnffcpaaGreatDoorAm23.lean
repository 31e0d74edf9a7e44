import Derived.Test.YtbjjimllnffcpaaGreatDoorAm22
/- Calls whose answers and stores are told as what they come to (so that no store grows unread). -/
set_option linter.unusedVariables false
set_option linter.unusedSimpArgs false
namespace Go.Am
variable {P : Program}
theorem notIn_not {T : List Nat} {i : Nat} (h : notIn T i = true) : i ∉ T := by
  induction T with
  | nil => simp
  | cons j r ih =>
    unfold notIn at h
    cases hb : Nat.beq j i with
    | true => rw [hb] at h; cases h
    | false =>
      rw [hb] at h
      have hne : ¬ i = j := fun e => by subst e; simp at hb
      intro hm
      rcases List.mem_cons.1 hm with e | e
      · exact hne e
      · exact ih h e
/-- A call on the blocks T. -/
theorem W.callT {f : FuncId} {args : List AV} {σ : Store} {L : List Nat} {k : AV → Store → Res} {Q : AExit → Fr → Store → Prop} (T : List Nat) {args' : List AV} {σ' : Store} {R : AV → Store → Prop} (h : CallOk P f args' σ' R) (hn : T.Nodup) (hT : T.all (fun i => Nat.blt i σ.length) = true)
    (hL : L.all (notIn T) = true) (ha : AV.subL σ (idx T) args = args') (hs : subS σ T = σ') (hk : ∀ v s, R v s → W P (k (v.sub s (back T σ.length)) (mergeS σ T s)) Q) : W P (.call f args σ L k) Q :=
  W.call T hn (fun i hi => by have := List.all_eq_true.1 hT i hi; simpa [Nat.blt_eq] using this) (fun i hi => notIn_not (List.all_eq_true.1 hL i hi)) ha hs h hk
/-- A call whose answer and store are known, told as what they come to. -/
theorem W.callF {f : FuncId} {args : List AV} {σ : Store} {L : List Nat} {k : AV → Store → Res} {Q : AExit → Fr → Store → Prop} (T : List Nat) (σ2 : Store) {x2 : AV} {args' : List AV} {σ' s1 : Store} {x : AV} (h : CallOk P f args' σ' (fun v s => v = x ∧ s = s1)) (hn : T.Nodup) (hT : T.all (fun i => Nat.blt i σ.length) = true)
    (hL : L.all (notIn T) = true) (ha : AV.subL σ (idx T) args = args') (hs : subS σ T = σ') (hx : x.sub s1 (back T σ.length) = x2) (hm : mergeS σ T s1 = σ2) (hk : W P (k x2 σ2) Q) : W P (.call f args σ L k) Q := by
  subst hx hm
  exact W.callT T h hn hT hL ha hs fun v s hv => by obtain ⟨rfl, rfl⟩ := hv; exact hk
end Go.Am
