/- The abstract machine 'Am': what it is to be right: calls, the predicate of a run, one operation. -/
import Derived.Test.YtddhlmejaobcgaaAm4
set_option linter.unusedVariables false
set_option linter.unusedSimpArgs false
namespace Go.Am
open Go

/-! ### sub-stores -/
def idx : List Nat → Nat → Option Nat
  | [], _ => none
  | j :: r, i => bif Nat.beq j i then some 0 else match idx r i with | some k => some (k + 1) | none => none
theorem idx_some : ∀ {T : List Nat} {i j : Nat}, idx T i = some j → T[j]? = some i
  | [], i, j, h => by simp [idx] at h
  | k :: r, i, j, h => by
    simp only [idx] at h
    cases hb : Nat.beq k i with
    | true =>
      rw [hb] at h
      simp at h
      subst h
      simp [Nat.eq_of_beq_eq_true hb]
    | false =>
      rw [hb] at h
      cases hi : idx r i with
      | none => simp [hi] at h
      | some m =>
        simp only [hi, cond_false, Option.some.injEq] at h
        subst h
        simpa using idx_some hi
theorem idx_of_get : ∀ {T : List Nat} {i j : Nat}, T.Nodup → T[j]? = some i → idx T i = some j
  | [], i, j, _, h => by simp at h
  | k :: r, i, 0, _, h => by simp at h; subst h; simp [idx, Nat.beq_refl]
  | k :: r, i, j + 1, hn, h => by
    have hr : r[j]? = some i := by simpa using h
    have hne : Nat.beq k i = false := by
      cases hb : Nat.beq k i with
      | false => rfl
      | true =>
        have e := Nat.eq_of_beq_eq_true hb
        subst e
        exact absurd (List.mem_of_getElem? hr) (List.nodup_cons.1 hn).1
    simp only [idx, hne, cond_false]
    rw [idx_of_get (List.nodup_cons.1 hn).2 hr]
theorem idx_none {T : List Nat} {i : Nat} (h : i ∉ T) : idx T i = none := by
  cases hi : idx T i with
  | none => rfl
  | some j => exact absurd (List.mem_of_getElem? (idx_some hi)) h
def subS (σ : Store) (T : List Nat) : Store := T.map fun i => (match σ[i]? with | some b => b | none => .dead).sub σ (idx T)
def back (T : List Nat) (n : Nat) (j : Nat) : Option Nat := bif Nat.blt j T.length then T[j]? else some (n + (j - T.length))
def mergeGo (T : List Nat) (σ1 : Store) (n : Nat) : Nat → Store → Store
  | _, [] => []
  | i, b :: r => (match idx T i with | some j => (match σ1[j]? with | some c => c.sub σ1 (back T n) | none => .dead) | none => b) :: mergeGo T σ1 n (i + 1) r
def mergeS (σ : Store) (T : List Nat) (σ1 : Store) : Store := mergeGo T σ1 σ.length 0 σ ++ (σ1.drop T.length).map (Blk.sub σ1 (back T σ.length))

/-- What a step of the machine comes to, calls gone through. -/
def NextSem (P : Program) (s : Sem Next) (w : World) (R : Value → World → Prop) : Prop :=
  match s.run P w with
  | .ok (.value v) w' => R v w'
  | .ok .skip w' => R undef w'
  | .ok (.enter f args) w' => Calls P f args w' fun e w'' => ∃ v, e = .returned v ∧ R v w''
  | _ => False
theorem NextSem.mono {P s w} {R R' : Value → World → Prop} (h : NextSem P s w R) (hr : ∀ v w, R v w → R' v w) : NextSem P s w R' := by
  unfold NextSem at *
  split <;> simp_all
  rename_i h1
  exact Calls.mono h fun _ _ ⟨v, e, k⟩ => ⟨v, e, hr _ _ k⟩
/-- A call of function f with such arguments, over such a store, returns, and R holds of the answer and the store behind it. -/
def CallOk (P : Program) (f : FuncId) (args : List AV) (σ : Store) (R : AV → Store → Prop) : Prop :=
  ∀ (g : Gh) (w : World) (vs : List Value), WR g σ w → VRL σ g args vs →
    NextSem P (callFunc f vs.toArray) w fun v w' => ∃ g' σ' av, VR σ' g' av v ∧ WR g' σ' w' ∧ Step g σ w g' σ' w' ∧ R av σ'
theorem CallOk.mono {P f args σ} {R R' : AV → Store → Prop} (h : CallOk P f args σ R) (hr : ∀ v s, R v s → R' v s) : CallOk P f args σ R' :=
  fun g w vs hw hv => (h g w vs hw hv).mono fun _ _ ⟨g', σ', av, h2, h3, h4, h5⟩ => ⟨g', σ', av, h2, h3, h4, hr _ _ h5⟩

/-- A weaker state: some slots are forgotten; some blocks, none of the first n, are dropped. -/
def Trim (n : Nat) (fr : Fr) (σ : Store) (fr' : Fr) (σ' : Store) : Prop :=
  ∃ K : List Nat, K.Nodup ∧ (∀ i ∈ K, i < σ.length) ∧ (∀ i, i < n → K[i]? = some i) ∧ σ' = subS σ K ∧ ∀ t, fr'.get t = (fr.get t).sub σ (idx K) ∨ fr'.get t = .undef
/-- A weaker state that holds of the same world: some slots are forgotten; nil slices go on as rows without elements. -/
def Start (fr : Fr) (σ : Store) (fr' : Fr) (σ' : Store) : Prop :=
  ∀ (g : Gh) (w : World), WR g σ w → ∃ g', WR g' σ' w ∧ Step g σ w g' σ' w ∧ ∀ t v, VR σ g (fr.get t) v → VR σ' g' (fr'.get t) v

def Res.wp (P : Program) : Res → (AExit → Fr → Store → Prop) → Prop
  | .ret e fr σ, Q => Q e fr σ
  | .fail, _ => False
  | .need p r, Q => p ∧ r.wp P Q
  | .ite b x y, Q => match b with | true => x.wp P Q | false => y.wp P Q
  | .alt x y, Q => x.wp P Q ∨ y.wp P Q
  | .both x y, Q => x.wp P Q ∧ y.wp P Q
  | .glob a k, Q => ∃ v, glJ a v ∧ (k v).wp P Q
  | .exL p k, Q => ∃ l, p l ∧ (k l).wp P Q
  | .exH p k, Q => ∃ H, p H ∧ (k H).wp P Q
  | .fa p k, Q => ∀ n, p n → (k n).wp P Q
  | .meth t v name k, Q => ∃ f, (∀ (args : Array Value) w, (callMethod (.iface t v) name args).run P w = (callFunc f (#[v] ++ args)).run P w) ∧ (k f).wp P Q
  | .call f args σ L k, Q => ∃ T : List Nat, T.Nodup ∧ (∀ i ∈ T, i < σ.length) ∧
      CallOk P f (AV.subL σ (idx T) args) (subS σ T) fun v σ1 => (∀ i ∈ L, i ∉ T ∨ ∃ ep H H', σ[i]? = some (.heap ep H) ∧ (mergeS σ T σ1)[i]? = some (.heap ep H')) ∧ (k (v.sub σ1 (back T σ.length)) (mergeS σ T σ1)).wp P Q
  | .loop body fr σ k, Q => ∃ I : Nat → Fr → Store → Prop, (∃ n fr' σ', Start fr σ fr' σ' ∧ I n fr' σ') ∧
      ∀ n fr₁ σ₁, I n fr₁ σ₁ → (body fr₁ σ₁).wp P fun e fr' σ' => match e with
        | .normal => ∃ m fr'' σ'', m < n ∧ Trim σ.length fr' σ' fr'' σ'' ∧ I m fr'' σ''
        | .exit i => (k (.exit i) fr' σ').wp P Q
        | .ret => (k .ret fr' σ').wp P Q
theorem Res.wp_mono {P : Program} : ∀ (r : Res) {Q Q' : AExit → Fr → Store → Prop}, (∀ e fr σ, Q e fr σ → Q' e fr σ) → r.wp P Q → r.wp P Q'
  | .ret e fr σ, _, _, h, k => h e fr σ k
  | .fail, _, _, _, k => k
  | .need _ r, _, _, h, k => ⟨k.1, Res.wp_mono r h k.2⟩
  | .ite true x _, _, _, h, k => Res.wp_mono x h k
  | .ite false _ y, _, _, h, k => Res.wp_mono y h k
  | .alt x y, _, _, h, k => k.imp (Res.wp_mono x h) (Res.wp_mono y h)
  | .both x y, _, _, h, k => ⟨Res.wp_mono x h k.1, Res.wp_mono y h k.2⟩
  | .glob _ k, _, _, h, ⟨v, a, b⟩ => ⟨v, a, Res.wp_mono (k v) h b⟩
  | .exL _ k, _, _, h, ⟨v, a, b⟩ => ⟨v, a, Res.wp_mono (k v) h b⟩
  | .exH _ k, _, _, h, ⟨v, a, b⟩ => ⟨v, a, Res.wp_mono (k v) h b⟩
  | .fa _ k, _, _, h, a => fun n hn => Res.wp_mono (k n) h (a n hn)
  | .meth _ _ _ k, _, _, h, ⟨v, a, c⟩ => ⟨v, a, Res.wp_mono (k v) h c⟩
  | .call _ _ σ _ c, _, _, h, ⟨T, a, b, k⟩ => ⟨T, a, b, k.mono fun v s k => ⟨k.1, Res.wp_mono (c (v.sub s (back T σ.length)) (mergeS σ T s)) h k.2⟩⟩
  | .loop body _ _ c, _, _, h, ⟨I, a, b⟩ => ⟨I, a, fun n fr σ hi => Res.wp_mono (body fr σ) (fun e fr' σ' k => by
      cases e with
      | normal => exact k
      | exit i => exact Res.wp_mono (c (.exit i) fr' σ') h k
      | ret => exact Res.wp_mono (c .ret fr' σ') h k) (b n fr σ hi)⟩

/-- What an operation of the machine comes to. -/
def OpSem (P : Program) (o : Oper) (ρ : Operand → Value) (w : World) (R : Value → World → Prop) : Prop := NextSem P (execOp ρ o) w R
theorem OpSem.mono {P o ρ w} {R R' : Value → World → Prop} (h : OpSem P o ρ w R) (hr : ∀ v w, R v w → R' v w) : OpSem P o ρ w R' := NextSem.mono h hr
theorem OpSem.value {P : Program} {o : Oper} {ρ : Operand → Value} {w w' : World} {v : Value} {R : Value → World → Prop} (h : (execOp ρ o).run P w = .ok (.value v) w') (k : R v w') : OpSem P o ρ w R := by
  unfold OpSem NextSem
  rw [h]
  exact k

/-- The blocks in L hold what they held. -/
structure Keep (g : Gh) (σ σ' : Store) (w w' : World) (L : List Nat) : Prop where
  heap : ∀ i ∈ L, ∀ c b, g.μ[i]? = some c → c.owns b → w'.heap[b]? = w.heap[b]?
  row : ∀ i ∈ L, ∀ sz e cs, σ[i]? = some (.row sz e cs) → σ'[i]? = some (.row sz e cs)
theorem Keep.refl (g : Gh) (σ : Store) (w : World) (L : List Nat) : Keep g σ σ w w L := ⟨fun _ _ _ _ _ _ => rfl, fun _ _ _ _ _ h => h⟩
theorem push_get {σ l : Store} : ∀ (i : Nat) (x : Blk), σ[i]? = some x → (σ ++ l)[i]? = some x := fun i x h => by
  rw [List.getElem?_append_left (List.getElem?_eq_some_iff.1 h).1, h]

/-- One operation is right. -/
def OpOk (P : Program) (ty : Tys) (o : Oper) : Prop :=
  ∀ {ev : Operand → AV} {ρ : Operand → Value} {L : List Nat} {σ : Store} {K : AV → Store → Res} {Q : AExit → Fr → Store → Prop} {g : Gh} {w : World},
    (∀ x, VR σ g (ev x) (ρ x)) → WR g σ w → (opR ty o ev L σ K).wp P Q →
    OpSem P o ρ w fun v w' => ∃ g' σ' av, VR σ' g' av v ∧ WR g' σ' w' ∧ Step g σ w g' σ' w' ∧ Keep g σ σ' w w' L ∧ (K av σ').wp P Q

/-- Worlds in which the facts hold, and in which these variables hold what they hold in w. -/
structure Meets (g : Gh) (σ : Store) (R : List Nat) (w w' : World) : Prop where
  fact : ∀ a v, g.I a v → w'.cell? a = some v
  var : ∀ i ∈ R, ∀ b, g.μ[i]? = some (.var b) → w'.heap[b]? = w.heap[b]?
  row : ∀ i ∈ R, ∀ b cap sz e cs, g.μ[i]? = some (.row b (cap + 1)) → σ[i]? = some (.row sz e cs) → w'.heap[b]? = w.heap[b]?
  map : ∀ i ∈ R, ∀ b, g.μ[i]? = some (.map b) → w'.heap[b]? = w.heap[b]?
  hp : ∀ i ∈ R, ∀ snap ep H, g.μ[i]? = some (.heap snap) → σ[i]? = some (.heap ep H) → ∀ b, snap b ≠ none → w'.heap[b]? = w.heap[b]?
theorem Meets.refl {g : Gh} {σ : Store} {w : World} (hw : WR g σ w) (R : List Nat) : Meets g σ R w w := ⟨hw.fact, fun _ _ _ _ => rfl, fun _ _ _ _ _ _ _ _ _ => rfl, fun _ _ _ _ => rfl, fun _ _ _ _ _ _ _ _ _ => rfl⟩
/-- What is known of a world later on is more. -/
theorem Meets.narrow {g : Gh} {σ : Store} {w : World} {g' : Gh} {σ' : Store} {w' v : World} {L R : List Nat} (k1 : Step g σ w g' σ' w') (k2 : Keep g σ σ' w w' L) (hL : ∀ i ∈ L, i ∈ R) (hv : Meets g' σ' R w' v) : Meets g σ L w v :=
  ⟨fun a u ha => hv.fact a u (k1.I a u ha), fun j hj b hb => by
    rw [hv.var j (hL j hj) b ((k1.cpt j (List.getElem?_eq_some_iff.1 hb).1).1 b hb)]
    exact k2.heap j hj _ b hb rfl, fun j hj b cap sz e cs hb hs => by
    have hs' := k2.row j hj sz e cs hs
    obtain ⟨b', cap', e', cs', h1, h2, h3, h4⟩ := (k1.cpt j (List.getElem?_eq_some_iff.1 hb).1).2.2.2.2.1 b _ sz e cs hb hs
    rw [hs'] at h2
    obtain ⟨rfl, rfl⟩ : e = e' ∧ cs = cs' := by simpa using h2
    obtain ⟨rfl, rfl⟩ := h4 rfl
    rw [hv.row j (hL j hj) _ cap sz e cs h1 hs']
    exact k2.heap j hj _ _ hb rfl, fun j hj b hb => by
    rw [hv.map j (hL j hj) b ((k1.cpt j (List.getElem?_eq_some_iff.1 hb).1).2.1 b hb)]
    exact k2.heap j hj _ b hb rfl, fun j hj snap ep H hb hs b hd => by
    obtain ⟨s', p', H', e1, e2, _, e3, _⟩ := (k1.cpt j (List.getElem?_eq_some_iff.1 hb).1).2.2.2.2.2 snap ep H hb hs
    rw [hv.hp j (hL j hj) s' p' H' e1 e2 b (e3 b hd)]
    exact k2.heap j hj _ b hb hd⟩
/-- The blocks that a load reads. -/
def QuietAt (P : Program) (o : Oper) (ρ : Operand → Value) (σ : Store) (K : AV → Store → Res) (Q : AExit → Fr → Store → Prop) (g : Gh) (w : World) (R : List Nat) : Prop :=
  ∃ v g' σ' av, (∀ w', Meets g σ R w w' → (execOp ρ o).run P w' = .ok (.value v) w') ∧ VR σ' g' av v ∧ WR g' σ' w ∧ Step g σ w g' σ' w ∧ (∀ L, Keep g σ σ' w w L) ∧ (K av σ').wp P Q
/-- One operation that leaves the world as it is, and that yields the same in all worlds that meet the facts and the variables that it reads. -/
def Quiet (P : Program) (ty : Tys) (o : Oper) : Prop :=
  ∀ {ev : Operand → AV} {ρ : Operand → Value} {L : List Nat} {σ : Store} {K : AV → Store → Res} {Q : AExit → Fr → Store → Prop} {g : Gh} {w : World},
    (∀ x, VR σ g (ev x) (ρ x)) → WR g σ w → (opR ty o ev L σ K).wp P Q → QuietAt P o ρ σ K Q g w (readsOf o ev)
theorem Quiet.ok {P : Program} {ty : Tys} {o : Oper} (h : Quiet P ty o) : OpOk P ty o := by
  intro ev ρ L σ K Q g w hev hw hk
  obtain ⟨v, g', σ', av, h1, h2, h3, h4, h5, h6⟩ := h hev hw hk
  exact OpSem.value (h1 w (Meets.refl hw _)) ⟨g', σ', av, h2, h3, h4, h5 L, h6⟩
/-- An operation that leaves world and store alone. -/
theorem quiet_ok {P : Program} {o : Oper} {ρ : Operand → Value} {σ : Store} {K : AV → Store → Res} {Q : AExit → Fr → Store → Prop} {g : Gh} {w : World} {R : List Nat} (hw : WR g σ w)
    {v : Value} {av : AV} (hr : ∀ w', Meets g σ R w w' → (execOp ρ o).run P w' = .ok (.value v) w') (hv : VR σ g av v) (h : (K av σ).wp P Q) : QuietAt P o ρ σ K Q g w R :=
  ⟨v, g, σ, av, hr, hv, hw, Step.refl g σ w, Keep.refl g σ w, h⟩

variable {P : Program} {ty : Tys}
theorem ok_move {o : Oper} {x : Operand} (ho : o.op = .move x ∨ o.op = .assign x) : Quiet P ty o := by
  intro ev ρ L σ K Q g w hev hw h
  have h' : (K (ev x) σ).wp P Q := by
    unfold opR at h
    rcases ho with ho | ho <;> (rw [ho] at h; simpa [AV.force_eq] using h)
  exact quiet_ok hw (v := ρ x) (fun w' _ => by rcases ho with ho | ho <;> simp [execOp, ho]) (hev x) h'
theorem ok_pick {o : Oper} {c a b : Operand} (ho : o.op = .pick c a b) : Quiet P ty o := by
  intro ev ρ L σ K Q g w hev hw h
  unfold opR at h
  rw [ho] at h
  simp only [AV.force_eq] at h
  split at h
  · rename_i t hc
    have hc' : ρ c = .bool t := by have := hev c; rw [hc] at this; exact this
    cases t with
    | true => exact quiet_ok hw (v := ρ a) (fun w' _ => by simp [execOp, ho, hc', asBool]) (hev a) h
    | false => exact quiet_ok hw (v := ρ b) (fun w' _ => by simp [execOp, ho, hc', asBool]) (hev b) h
  · exact h.elim
end Go.Am
