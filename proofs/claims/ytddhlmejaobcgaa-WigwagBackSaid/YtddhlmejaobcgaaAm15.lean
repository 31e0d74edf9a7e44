/- The abstract machine 'Am': regions. -/
import Derived.Test.YtddhlmejaobcgaaAm14
set_option linter.unusedVariables false
set_option linter.unusedSimpArgs false
namespace Go.Am
open Go
variable {P : Program} {ty : Tys}

/-! ### frames -/
structure FR (n : Nat) (σ : Store) (g : Gh) (fr : Fr) (a : Act) : Prop where
  defers : a.defers = []
  size : n ≤ a.tmps.size
  slot : ∀ t, VR σ g (fr.get t) (a.tmps.getD t undef)
theorem lits_drl {I : Facts} : ∀ l : List Value, DRL I (l.map .lit) l
  | [] => rfl
  | v :: r => ⟨v, r, rfl, rfl, lits_drl r⟩
theorem FR.eval {n : Nat} {σ : Store} {g : Gh} {fr : Fr} {a : Act} (h : FR n σ g fr a) : ∀ x, VR σ g (evF fr.get x) (a.eval x)
  | .tmp t => h.slot t
  | .global g => by show _ = _; rfl
  | .func f => ⟨[], rfl, rfl⟩
  | .const v => by
    cases v with
    | agg cs => exact ⟨cs.toList, by show Value.agg cs = _; simp, lits_drl cs.toList⟩
    | _ => exact vr_lit _
theorem FR.step {n : Nat} {σ : Store} {g : Gh} {fr : Fr} {a : Act} {w w' : World} {g' : Gh} {σ' : Store} (h : FR n σ g fr a) (k : Step g σ w g' σ' w') : FR n σ' g' fr a :=
  ⟨h.defers, h.size, fun t => k.vr (h.slot t)⟩
def dstB (n : Nat) (o : Oper) : Bool := match o.dst with | some t => Nat.blt t n | none => true
theorem FR.put {n : Nat} {σ : Store} {g : Gh} {fr : Fr} {a : Act} (h : FR n σ g fr a) {t : Nat} (ht : t < n) {av : AV} {v : Value} (hv : VR σ g av v) : FR n σ g ((t, av) :: fr) (a.put (some t) v) := by
  refine ⟨h.defers, by simp [Act.put]; exact h.size, fun s => ?_⟩
  have hs := h.size
  simp only [Fr.get, Act.put]
  cases hb : Nat.beq t s with
  | true =>
    obtain rfl := Nat.eq_of_beq_eq_true hb
    have : (a.tmps.setIfInBounds t v).getD t undef = v := by
      simp only [Array.getD_eq_getD_getElem?]
      rw [Array.getElem?_setIfInBounds_self_of_lt (by omega)]
      rfl
    rw [this]
    exact hv
  | false =>
    have hne : t ≠ s := fun e => by subst e; rw [Nat.beq_refl] at hb; cases hb
    have : (a.tmps.setIfInBounds t v).getD s undef = a.tmps.getD s undef := by
      simp only [Array.getD_eq_getD_getElem?]
      rw [Array.getElem?_setIfInBounds_ne hne]
    rw [this]
    exact h.slot s

/-! ### one operation -/
theorem OpSem.wp {o : Oper} {a : Act} {w : World} {R : Value → World → Prop} (h : OpSem P o a.eval w R) {K : Act → World → Prop} {Q : Exit → Act → World → Prop} (hk : ∀ v w', R v w' → K (a.put o.dst v) w') : o.wp P a w K Q := by
  unfold OpSem NextSem at h
  unfold Oper.wp
  split at h
  · rename_i v w' hr
    rw [hr]
    exact hk v w' h
  · rename_i w' hr
    rw [hr]
    exact hk _ w' h
  · rename_i f args w' hr
    rw [hr]
    refine Calls.mono h fun e w'' ⟨v, e', k⟩ => ?_
    subst e'
    exact hk v w'' k
  · exact h.elim

theorem opP_ok (hty : TysOk P ty) {n : Nat} {o : Oper} (hd : dstB n o = true) {fr : Fr} {L : List Nat} {σ : Store} {K : Fr → Store → Res} {Q : AExit → Fr → Store → Prop} {g : Gh} {a : Act} {w : World}
    (hf : FR n σ g fr a) (hw : WR g σ w) (h : (opP ty o fr L σ K).wp P Q) :
    OpSem P o a.eval w fun v w' => ∃ fr' σ' g', FR n σ' g' fr' (a.put o.dst v) ∧ WR g' σ' w' ∧ Step g σ w g' σ' w' ∧ Keep g σ σ' w w' L ∧ (K fr' σ').wp P Q := by
  unfold opP at h
  unfold dstB at hd
  cases ho : o.dst with
  | none =>
    rw [ho] at h
    refine OpSem.mono (op_ok hty o hf.eval hw h) fun v w' ⟨g', σ', av, h1, h2, h3, h4, h5⟩ => ⟨fr, σ', g', hf.step h3, h2, h3, h4, h5⟩
  | some t =>
    rw [ho] at h hd
    refine OpSem.mono (op_ok hty o hf.eval hw h) fun v w' ⟨g', σ', av, h1, h2, h3, h4, h5⟩ => ⟨_, σ', g', (hf.step h3).put (by simpa [Nat.blt_eq] using hd) h1, h2, h3, h4, h5⟩
theorem skipP_ok {n : Nat} {o : Oper} (hd : dstB n o = true) {fr : Fr} {σ : Store} {K : Fr → Store → Res} {Q : AExit → Fr → Store → Prop} {g : Gh} {a : Act} (hf : FR n σ g fr a) (h : (skipP o fr σ K).wp P Q) :
    ∃ fr', FR n σ g fr' (a.put o.dst undef) ∧ (K fr' σ).wp P Q := by
  unfold skipP at h
  unfold dstB at hd
  cases ho : o.dst with
  | none => rw [ho] at h; exact ⟨fr, hf, h⟩
  | some t => rw [ho] at h hd; exact ⟨_, hf.put (av := .d (.lit (.tuple #[]))) (by simpa [Nat.blt_eq] using hd) (vr_lit _), h⟩
/-- What a guard says. -/
theorem guard_ok {n : Nat} {ops : Array Oper} {o : Oper} {fr : Fr} {L : List Nat} {σ : Store} {K : Fr → Store → Res} {Q : AExit → Fr → Store → Prop} {g : Gh} {a : Act} (hf : FR n σ g fr a)
    (h : (oneP ty ops.toList o fr L σ K).wp P Q) :
    (Region.wanted o (yielded ops a.tmps) = true ∧ (opP ty o fr L σ K).wp P Q) ∨ (Region.wanted o (yielded ops a.tmps) = false ∧ (skipP o fr σ K).wp P Q) := by
  unfold oneP at h
  unfold Region.wanted
  split at h
  · rename_i hg
    exact .inl ⟨by simp [hg], h⟩
  · rename_i j want hg
    rw [hg]
    split at h
    · exact h.elim
    · rename_i t ht
      split at h
      · rename_i b hb
        have hv := hf.slot t
        rw [hb] at hv
        have hv := hv.lit
        have hlt : t < a.tmps.size := by
          rcases Nat.lt_or_ge t a.tmps.size with h' | h'
          · exact h'
          · rw [Array.getD_eq_getD_getElem?, Array.getElem?_eq_none h'] at hv
            cases hv
        have hy : yielded ops a.tmps j = some b := by
          unfold guardSlot at ht
          simp only [Array.getElem?_toList] at ht
          have : (ops[j]?).bind (·.dst) = some t := by
            split at ht
            · rename_i o' ho'
              rw [ho']
              exact ht
            · cases ht
          unfold yielded
          rw [this]
          simp only [Option.bind_some]
          rw [Array.getElem?_eq_getElem hlt]
          have : a.tmps[t] = .bool b := by
            rw [Array.getD_eq_getD_getElem?, Array.getElem?_eq_getElem hlt] at hv
            exact hv
          rw [this]
        simp only [hy]
        cases want <;> cases b <;> first | exact .inl ⟨rfl, h⟩ | exact .inr ⟨rfl, h⟩
      · rename_i x hb
        have hv := hf.slot t
        rw [hb] at hv
        have hv := hv.lit
        refine .inr ⟨?_, h⟩
        have hy : yielded ops a.tmps j = none := by
          unfold guardSlot at ht
          simp only [Array.getElem?_toList] at ht
          have : (ops[j]?).bind (·.dst) = some t := by
            split at ht
            · rename_i o' ho'
              rw [ho']
              exact ht
            · cases ht
          unfold yielded
          rw [this]
          simp only [Option.bind_some]
          rw [Array.getD_eq_getD_getElem?] at hv
          cases hs : a.tmps[t]? with
          | none => rfl
          | some y =>
            rw [hs] at hv
            have hv : y = .tuple x := hv
            rw [hv]
        simp [hy]
      · exact h.elim
theorem oneP_ok (hty : TysOk P ty) {n : Nat} {ops : Array Oper} {i : Nat} {o : Oper} (hi : ops[i]? = some o) (hd : dstB n o = true) {fr : Fr} {L : List Nat} {σ : Store} {K : Fr → Store → Res} {Q : AExit → Fr → Store → Prop} {g : Gh} {a : Act} {w : World}
    (hf : FR n σ g fr a) (hw : WR g σ w) (h : (oneP ty ops.toList o fr L σ K).wp P Q) {Kc : Act → World → Prop} {Qc : Exit → Act → World → Prop}
    (hk : ∀ fr' σ' g' a' w', FR n σ' g' fr' a' → WR g' σ' w' → Step g σ w g' σ' w' → Keep g σ σ' w w' L → (K fr' σ').wp P Q → Kc a' w') : wpOp P ops Qc i Kc a w := by
  unfold wpOp
  simp only [hi]
  rcases guard_ok hf h with ⟨hg, h⟩ | ⟨hg, h⟩
  · rw [if_pos hg]
    exact .inl ((opP_ok hty hd hf hw h).wp fun v w' ⟨fr', σ', g', h1, h2, h3, h4, h5⟩ => hk fr' σ' g' _ w' h1 h2 h3 h4 h5)
  · rw [if_neg (by rw [hg]; decide)]
    obtain ⟨fr', h1, h2⟩ := skipP_ok hd hf h
    exact hk fr' σ g _ w h1 hw (Step.refl g σ w) (Keep.refl g σ w L) h2

/-! ### regions in text order -/
theorem opsR_ok (hty : TysOk P ty) {n : Nat} {ops : Array Oper} {Qc : Exit → Act → World → Prop} {K : Fr → Store → Res} {Q : AExit → Fr → Store → Prop} {g0 : Gh} {σ0 : Store} {w0 : World}
    (hq : ∀ fr σ g a w, FR n σ g fr a → WR g σ w → Step g0 σ0 w0 g σ w → (K fr σ).wp P Q → Qc .normal a w) : ∀ (rest : List Oper) (k : Nat), ops.toList.drop k = rest → rest.all (dstB n) = true →
    ∀ {fr : Fr} {σ : Store} {g : Gh} {a : Act} {w : World}, FR n σ g fr a → WR g σ w → Step g0 σ0 w0 g σ w → (opsR ty ops.toList rest fr σ K).wp P Q → wpOps P ops Qc (List.range' k rest.length) a w
  | [], k, _, _, fr, σ, g, a, w, hf, hw, hs, h => hq fr σ g a w hf hw hs h
  | o :: rest, k, hd, ha, fr, σ, g, a, w, hf, hw, hs, h => by
    simp only [List.all_cons, Bool.and_eq_true] at ha
    have hk : ops[k]? = some o := by
      have : (ops.toList.drop k)[0]? = some o := by rw [hd]; rfl
      rw [List.getElem?_drop] at this
      simpa using this
    have hd' : ops.toList.drop (k + 1) = rest := by
      rw [← List.drop_drop, hd]; rfl
    show wpOps P ops Qc (k :: List.range' (k + 1) rest.length) a w
    rw [wpOps_cons]
    exact oneP_ok hty hk ha.1 hf hw h fun fr' σ' g' a' w' h1 h2 h3 _ h5 => opsR_ok hty hq rest (k + 1) hd' ha.2 h1 h2 (hs.trans h3) h5

/-! ### regions that draw -/
/-- The operations that an operation waits for, through others too. -/
def predsOf (md : Region.Mode) (ops : Array Oper) (j : Nat) : List Nat := match ops[j]? with | some o => (o.after.toList.filter (Region.binds md)).map (·.on) | none => []
/-- A list of numbers as bits. -/
def maskO : List Nat → Nat
  | [] => 0
  | k :: r => maskO r ||| 2 ^ k
theorem mask_bit : ∀ {l : List Nat} {x : Nat}, (maskO l).testBit x = true → x ∈ l
  | [], x, h => by simp [maskO] at h
  | k :: r, x, h => by
    rw [maskO, Nat.testBit_or, Bool.or_eq_true, Nat.testBit_two_pow] at h
    rcases h with h | h
    · exact List.mem_cons_of_mem _ (mask_bit h)
    · have : k = x := by simpa using h
      subst this; exact List.mem_cons_self
/-- What must be done before some operations, through others too: one pass from the last operation down. -/
def passO (md : Region.Mode) (ops : Array Oper) : Nat → Nat → Nat
  | 0, s => s
  | k + 1, s => passO md ops k (bif s.testBit k then s ||| maskO (predsOf md ops k) else s)
def ClosedO (md : Region.Mode) (ops : Array Oper) (listed : Array Bool) : Prop := ∀ j, listed.getD j false = true → ∀ k ∈ predsOf md ops j, listed.getD k false = true
theorem passO_listed {md : Region.Mode} {ops : Array Oper} {listed : Array Bool} (hc : ClosedO md ops listed) : ∀ (n s : Nat), (∀ x, s.testBit x = true → listed.getD x false = true) → ∀ x, (passO md ops n s).testBit x = true → listed.getD x false = true
  | 0, s, h => h
  | n + 1, s, h => passO_listed hc n _ fun x hx => by
      cases hb : s.testBit n with
      | false => rw [hb, cond_false] at hx; exact h x hx
      | true =>
        rw [hb, cond_true, Nat.testBit_or, Bool.or_eq_true] at hx
        rcases hx with hx | hx
        · exact h x hx
        · exact hc n (h n hb) x (mask_bit hx)
/-- May its answer turn with the memory? -/
def readB : Op → Bool
  | .load _ _ => true
  | .convert _ _ _ => true
  | .lookup _ _ _ _ => true
  | _ => false
theorem readsOf_nil {o : Oper} {ev : Operand → AV} (h : readB o.op = false) : readsOf o ev = [] := by
  unfold readsOf
  cases ho : o.op <;> rw [ho] at h <;> first | rfl | cases h
/-- All that was read must be read before i. -/
def SyncO (md : Region.Mode) (ops : Array Oper) (listed : Array Bool) (i : Nat) : Prop := ∀ (k : Nat) (o : Oper), ops[k]? = some o → readB o.op = true → listed.getD k false = true → (passO md ops ops.size (maskO (predsOf md ops i))).testBit k = true
def readAt (ops : Array Oper) (k : Nat) : Bool := match ops[k]? with | some o => readB o.op | none => false
def syncB (md : Region.Mode) (ops : Array Oper) (listed : Array Bool) (i : Nat) : Bool :=
  let r := passO md ops ops.size (maskO (predsOf md ops i))
  (List.range listed.size).all fun k => bif listed.getD k false && readAt ops k then r.testBit k else true
theorem syncB_spec {md : Region.Mode} {ops : Array Oper} {listed : Array Bool} {i : Nat} (h : syncB md ops listed i = true) : SyncO md ops listed i := fun k o hko hro hk => by
  have hrd : readAt ops k = true := by unfold readAt; rw [hko]; exact hro
  have hlt : k < listed.size := by
    rcases Nat.lt_or_ge k listed.size with h' | h'
    · exact h'
    · rw [Array.getD_eq_getD_getElem?, Array.getElem?_eq_none h'] at hk
      cases hk
  have := List.all_eq_true.1 h k (List.mem_range.2 hlt)
  simpa only [hk, hrd, Bool.and_true, cond_true] using this
theorem preds_ready {md : Region.Mode} {ops : Array Oper} {listed : Array Bool} {i : Nat} (h : i ∈ Region.ready md ops listed) : ∀ x ∈ predsOf md ops i, listed.getD x false = true := by
  obtain ⟨h0, o, ho, hall⟩ := mem_ready.1 h
  intro x hx
  simp only [predsOf, ho, List.mem_map, List.mem_filter] at hx
  obtain ⟨e, ⟨he, hb⟩, rfl⟩ := hx
  exact hall e (by simpa using he) hb
theorem getD_set_true {listed : Array Bool} {i k : Nat} (h : listed.getD k false = true) : (listed.setIfInBounds i true).getD k false = true := by
  rcases Nat.lt_or_ge k listed.size with h' | h'
  · by_cases hik : i = k
    · subst hik
      simp [Array.getD_eq_getD_getElem?, h']
    · simpa [Array.getD_eq_getD_getElem?, Array.getElem?_setIfInBounds_ne hik] using h
  · rw [Array.getD_eq_getD_getElem?, Array.getElem?_eq_none h'] at h
    cases h
theorem ClosedO.set {md : Region.Mode} {ops : Array Oper} {listed : Array Bool} {i : Nat} (hc : ClosedO md ops listed) (h : i ∈ Region.ready md ops listed) : ClosedO md ops (listed.setIfInBounds i true) := by
  intro j hj k hk
  by_cases hij : i = j
  · subst hij
    exact getD_set_true (preds_ready h k hk)
  · have : listed.getD j false = true := by simpa [Array.getD_eq_getD_getElem?, Array.getElem?_setIfInBounds_ne hij] using hj
    exact getD_set_true (hc j this k hk)
theorem ClosedO.start (md : Region.Mode) (ops : Array Oper) (n : Nat) : ClosedO md ops (Array.replicate n false) := by
  intro j hj
  rw [Array.getD_eq_getD_getElem?, Array.getElem?_replicate] at hj
  split at hj <;> cases hj
/-- Whatever order is picked from here on; what is known of the world may be narrowed behind every operation, and forgotten where all that was taken is done. -/
def wpAnyV (P : Program) (md : Region.Mode) (ops : Array Oper) (Q : Exit → Act → World → Prop) : Nat → (World → Prop) → (World → Prop) → Array Bool → Act → World → Prop
  | 0, _, _, listed, a, w => Region.ready md ops listed = [] ∧ Q .normal a w
  | fuel + 1, B, S, listed, a, w =>
    (Region.ready md ops listed = [] → Q .normal a w) ∧
    ∀ i ∈ Region.ready md ops listed, wpOp P ops Q i (fun a' w' => ∃ B' S' : World → Prop, (∀ v, B' v → B v) ∧ (∀ v, S' v → B' v) ∧ ((∀ v, S' v → S v) ∨ SyncO md ops listed i) ∧ S' w' ∧ wpAnyV P md ops Q fuel B' S' (listed.setIfInBounds i true) a' w') a w
section
variable {ops : Array Oper} {Q : Exit → Act → World → Prop} {md : Region.Mode} {B S : World → Prop}
theorem wpAny_of_V : ∀ (fuel : Nat) (B S : World → Prop) (listed : Array Bool) (a : Act) (w : World), wpAnyV P md ops Q fuel B S listed a w → wpAny P md ops Q fuel listed a w
  | 0, _, _, _, _, _, h => h
  | fuel + 1, _, _, _, _, _, h => ⟨h.1, fun i hi => wpOp_mono (fun a' w' ⟨B', S', _, _, _, _, h'⟩ => wpAny_of_V fuel B' S' _ a' w' h') (h.2 i hi)⟩
theorem wpAnyV.mono {B' S' : World → Prop} (hb : ∀ w, B' w → B w) (hs : ∀ w, S' w → S w) : ∀ {fuel : Nat} {listed : Array Bool} {a : Act} {w : World}, wpAnyV P md ops Q fuel B' S' listed a w → wpAnyV P md ops Q fuel B S listed a w
  | 0, _, _, _, h => h
  | fuel + 1, _, _, _, h => ⟨h.1, fun i hi => wpOp_mono (fun a' w' ⟨B'', S'', h0, h00, h1, h2, h3⟩ => ⟨B'', S'', fun v hv => hb v (h0 v hv), h00, h1.imp (fun h1 v hv => hs v (h1 v hv)) id, h2, h3⟩) (h.2 i hi)⟩
theorem YieldsIf.mono {S' : World → Prop} (hs : ∀ w, S' w → S w) {o : Oper} {v : Value} {a : Act} (h : YieldsIf P ops S o v a) : YieldsIf P ops S' o v a :=
  h.imp (fun ⟨hw, hv⟩ => ⟨hw, fun w h => hv w (hs w h)⟩) id
theorem wpAnyV_first {i : Nat} {oi : Oper} {v : Value} (hi : ops[i]? = some oi) (hsel : ∀ (j : Nat) (o : Oper) cs b, ops[j]? = some o → o.op ≠ .select cs b)
    (hQ : ∀ c a w, Q (.panic c) (a.put oi.dst v) w → Q (.panic c) a w) {Sy : World → Prop} :
    ∀ (fuel : Nat) (B S : World → Prop) (listed : Array Bool) (a : Act) (w : World),
      (∀ j oj, ops[j]? = some oj → j ≠ i → listed.getD j true = false → (∀ e ∈ oj.after, Region.binds md e = true → e.on ≠ i) → oi.apart ops oj = true) →
      ClosedO md ops listed → i ∈ Region.ready md ops listed → (∀ v, S v → Sy v) → (readB oi.op = true ∨ ∀ v, B v → Sy v) → (∀ v, S v → B v) → YieldsIf P ops Sy oi v a → S w →
      wpAnyV P md ops Q fuel B S (listed.setIfInBounds i true) (a.put oi.dst v) w → wpAnyV P md ops Q (fuel + 1) B S listed a w := by
  intro fuel
  induction fuel with
  | zero =>
    intro B S listed a w _ hcl hr hSy hBy hSB hy hS H
    refine ⟨fun h => (by rw [h] at hr; cases hr), fun j hj => ?_⟩
    by_cases hji : j = i
    · subst hji; exact hy.wpOp hi (hSy _ hS) ⟨B, S, fun _ h => h, hSB, .inl fun _ h => h, hS, H⟩
    · have := ready_mono hj hji
      rw [H.1] at this
      cases this
  | succ fuel ih =>
    intro B S listed a w hfree hcl hr hSy hBy hSB hy hS H
    refine ⟨fun h => (by rw [h] at hr; cases hr), fun j hj => ?_⟩
    by_cases hji : j = i
    · subst hji; exact hy.wpOp hi (hSy _ hS) ⟨B, S, fun _ h => h, hSB, .inl fun _ h => h, hS, H⟩
    · have h1 := H.2 j (ready_mono hj hji)
      obtain ⟨hjun, oj, hoj, hall⟩ := mem_ready.1 hj
      have hnot : ∀ e ∈ oj.after, Region.binds md e = true → e.on ≠ i := fun e he hb heq => by
        have h1 := hall e he hb
        have h0 := (mem_ready.1 hr).1
        rw [heq] at h1
        rcases Nat.lt_or_ge i listed.size with h' | h'
        · simp [h'] at h0 h1; rw [h0] at h1; cases h1
        · simp [Array.getElem?_eq_none h'] at h1
      have h2 := wpOp_putIf hoj (hfree j oj hoj hji hjun hnot) (fun cs b => hsel i oi cs b hi) (fun cs b => hsel j oj cs b hoj) hQ hy h1
      have hfree' : ∀ k ok, ops[k]? = some ok → k ≠ i → (listed.setIfInBounds j true).getD k true = false →
          (∀ e ∈ ok.after, Region.binds md e = true → e.on ≠ i) → oi.apart ops ok = true := fun k ok hk hki hun hno => by
        refine hfree k ok hk hki ?_ hno
        by_cases hjk : j = k
        · subst hjk; exact hjun
        · rw [getD_set_ne true hjk] at hun; exact hun
      refine wpOp_mono (fun a' w' h3 => ?_) h2
      obtain ⟨hy', B', S', hb0, hb1, hs1, hs2, h3⟩ := h3
      have hno : readB oi.op = true → ¬ SyncO md ops (listed.setIfInBounds i true) j := fun hrd hsy => by
        have hlt : i < listed.size := by
          have h0 := (mem_ready.1 hr).1
          rcases Nat.lt_or_ge i listed.size with h' | h'
          · exact h'
          · rw [Array.getD_eq_getD_getElem?, Array.getElem?_eq_none h'] at h0
            cases h0
        have h1 := hsy i oi hi hrd (by simp [Array.getD_eq_getD_getElem?, hlt])
        have h2 := passO_listed hcl _ _ (fun x hx => preds_ready hj x (mask_bit hx)) i h1
        have h0 := (mem_ready.1 hr).1
        simp only [Array.getD_eq_getD_getElem?, Array.getElem?_eq_getElem hlt, Option.getD_some] at h0 h2
        rw [h0] at h2
        cases h2
      have hSy' : ∀ v, S' v → Sy v := fun v hv => by
        rcases hs1 with hs1 | hsy
        · exact hSy v (hs1 v hv)
        · rcases hBy with hrd | hBy
          · exact absurd hsy (hno hrd)
          · exact hBy v (hb0 v (hb1 v hv))
      have hs1' : (∀ v, S' v → S v) ∨ SyncO md ops listed j := hs1.imp _root_.id fun hsy k o hk hrd hl => hsy k o hk hrd (getD_set_true hl)
      refine ⟨B', S', hb0, hb1, hs1', hs2, ih B' S' (listed.setIfInBounds j true) a' w' hfree' (hcl.set hj) (ready_mono hr (Ne.symm hji)) hSy' (hBy.imp _root_.id fun hBy v hv => hBy v (hb0 v hv)) hb1 hy' hs2 ?_⟩
      rw [Array.setIfInBounds_comm _ _ hji]
      exact h3
theorem wpAnyV_done {listed : Array Bool} {a : Act} {w : World} (hr : Region.ready md ops listed = []) (h : Q .normal a w) : ∀ fuel, wpAnyV P md ops Q fuel B S listed a w
  | 0 => ⟨hr, h⟩
  | _ + 1 => ⟨fun _ => h, by rw [hr]; simp⟩
end

theorem Keep.none (g : Gh) (σ σ' : Store) (w w' : World) : Keep g σ σ' w w' [] := ⟨(fun _ h => by cases h), (fun _ h => by cases h)⟩
theorem Meets.base {g : Gh} {σ : Store} {w : World} {g' : Gh} {σ' : Store} {w' : World} (k1 : Step g σ w g' σ' w') (v : World) (h : Meets g' σ' [] w' v) : Meets g σ [] w v :=
  h.narrow k1 (Keep.none g σ σ' w w') fun _ h => h
theorem Meets.bare {g : Gh} {σ : Store} {w : World} (hw : WR g σ w) {L : List Nat} (v : World) (h : Meets g σ L w v) : Meets g σ [] w v :=
  h.narrow (Step.refl g σ w) (Keep.none g σ σ w w) fun _ h => by cases h
theorem readB_or {o : Oper} (ev : Operand → AV) {g : Gh} {σ : Store} {w : World} : readB o.op = true ∨ ∀ v, Meets g σ [] w v → Meets g σ (readsOf o ev) w v := by
  cases h : readB o.op with
  | true => exact .inl rfl
  | false => exact .inr fun v hv => by rw [readsOf_nil h]; exact hv
/-- May a region that draws be gone through in this order? -/
def ordB (ops : Array Oper) : List Nat → Array Bool → Bool
  | [], listed => (Region.ready .any ops listed).isEmpty
  | i :: r, listed => bif Nat.ble 1000 i then Region.ready .any ops listed == [i - 1000] && syncB .any ops listed (i - 1000) && ordB ops r (listed.setIfInBounds (i - 1000) true)
    else (match ops[i]? with
    | none => false
    | some o => bif quietB o.op then Region.free .any ops listed i && (Region.ready .any ops listed).contains i else Region.ready .any ops listed == [i]) && ordB ops r (listed.setIfInBounds i true)

theorem opsD_ok (hty : TysOk P ty) {n : Nat} {ops : Array Oper} (hsel : Region.noSelect ops = true) (hdst : ops.toList.all (dstB n) = true) {Qc : Exit → Act → World → Prop} {K : Fr → Store → Res} {Q : AExit → Fr → Store → Prop} {g0 : Gh} {σ0 : Store} {w0 : World}
    (hp : ∀ c a w, ¬ Qc (.panic c) a w)
    (hq : ∀ fr σ g a w, FR n σ g fr a → WR g σ w → Step g0 σ0 w0 g σ w → (K fr σ).wp P Q → Qc .normal a w) : ∀ (l : List Nat) (fuel : Nat) (listed : Array Bool), ClosedO .any ops listed → ordB ops l listed = true → l.length ≤ fuel →
    ∀ {fr : Fr} {L : List Nat} {σ : Store} {g : Gh} {a : Act} {w : World}, FR n σ g fr a → WR g σ w → Step g0 σ0 w0 g σ w → (opsD ty ops.toList l fr L σ K).wp P Q → wpAnyV P .any ops Qc fuel (Meets g σ [] w) (Meets g σ L w) listed a w
  | [], fuel, listed, hcl, ho, _, fr, L, σ, g, a, w, hf, hw, hs, h => wpAnyV_done (by simpa [ordB] using ho) (hq fr σ g a w hf hw hs h) fuel
  | i :: rest, 0, listed, _, _, hl, fr, L, σ, g, a, w, hf, hw, hs, h => by simp at hl
  | i :: rest, fuel + 1, listed, hcl, ho, hl, fr, L, σ, g, a, w, hf, hw, hs, h => by
    have hl' : rest.length ≤ fuel := by simpa using hl
    cases hbig : Nat.ble 1000 i with
    | true =>
      simp only [ordB, hbig, cond_true, Bool.and_eq_true, beq_iff_eq] at ho
      obtain ⟨⟨h1, hsy⟩, h2⟩ := ho
      simp only [opsD, hbig, cond_true, Array.getElem?_toList] at h
      generalize i - 1000 = i at *
      cases hi : ops[i]? with
      | none => simp only [hi] at h; exact h.elim
      | some o =>
        simp only [hi] at h
        have hd : dstB n o = true := List.all_eq_true.1 hdst o (by
          have := List.mem_of_getElem? (l := ops.toList) (i := i) (a := o) (by simpa using hi)
          exact this)
        have hready : i ∈ Region.ready .any ops listed := by rw [h1]; simp
        refine ⟨fun e => (by rw [e] at h1; cases h1), fun j hj => ?_⟩
        rw [h1] at hj
        obtain rfl : j = i := by simpa using hj
        exact oneP_ok hty hi hd hf hw h fun fr' σ' g' a' w' k1 k2 k3 k4 k5 =>
          ⟨Meets g' σ' [] w', Meets g' σ' [] w', Meets.base k3, fun _ h => h, .inr (syncB_spec hsy), Meets.refl k2 _, opsD_ok hty hsel hdst hp hq rest fuel _ (hcl.set hready) h2 hl' k1 k2 (hs.trans k3) k5⟩
    | false =>
    simp only [ordB, hbig, cond_false, Bool.and_eq_true] at ho
    obtain ⟨h1, h2⟩ := ho
    simp only [opsD, hbig, cond_false, Array.getElem?_toList] at h
    cases hi : ops[i]? with
    | none => simp [hi] at h1
    | some o =>
      simp only [hi, forceL_eq] at h h1
      cases hcv : convS ty o with
      | true => rw [hcv] at h; exact h.elim
      | false =>
      rw [hcv, cond_false] at h
      have hd : dstB n o = true := List.all_eq_true.1 hdst o (by
        have := List.mem_of_getElem? (l := ops.toList) (i := i) (a := o) (by simpa using hi)
        exact this)
      -- what is known of the world later on is more
      have narrow : ∀ {σ' : Store} {g' : Gh} {w' : World}, Step g σ w g' σ' w' → Keep g σ σ' w w' L → ∀ v, Meets g' σ' (readsOf o (evF fr.get) ++ L) w' v → Meets g σ L w v := fun {σ' g' w'} k1 k2 v hv => hv.narrow k1 k2 fun i hi => List.mem_append.2 (.inr hi)
      cases hquiet : quietB o.op with
      | false =>
        simp only [hquiet, cond_false, beq_iff_eq] at h1
        have hready : i ∈ Region.ready .any ops listed := by rw [h1]; simp
        refine ⟨fun e => (by rw [e] at h1; cases h1), fun j hj => ?_⟩
        rw [h1] at hj
        obtain rfl : j = i := by simpa using hj
        exact oneP_ok hty hi hd hf hw h fun fr' σ' g' a' w' k1 k2 k3 k4 k5 =>
          ⟨Meets g' σ' [] w', Meets g' σ' (readsOf o (evF fr.get) ++ L) w', Meets.base k3, Meets.bare k2, .inl (narrow k3 k4), Meets.refl k2 _, opsD_ok hty hsel hdst hp hq rest fuel _ (hcl.set hready) h2 hl' k1 k2 (hs.trans k3) k5⟩
      | true =>
        simp only [hquiet, cond_true, Bool.and_eq_true] at h1
        obtain ⟨hfree, hready⟩ := h1
        have take : ∀ {v : Value} {fr' : Fr} {σ' : Store} {g' : Gh}, Step g σ w g' σ' w → (∀ L, Keep g σ σ' w w L) → YieldsIf P ops (Meets g' σ' (readsOf o (evF fr.get)) w) o v a → FR n σ' g' fr' (a.put o.dst v) → WR g' σ' w →
            (opsD ty ops.toList rest fr' (readsOf o (evF fr.get) ++ L) σ' K).wp P Q → wpAnyV P .any ops Qc (fuel + 1) (Meets g σ [] w) (Meets g σ L w) listed a w := fun {v fr' σ' g'} k1 k0 k2 k3 k4 k5 =>
          wpAnyV.mono (B' := Meets g' σ' [] w) (S' := Meets g' σ' (readsOf o (evF fr.get) ++ L) w) (Meets.base k1) (narrow k1 (k0 L))
            (wpAnyV_first hi (Region.noSelect_spec hsel) (fun c a w h => absurd h (hp c _ w)) (Sy := Meets g' σ' (readsOf o (evF fr.get)) w) fuel _ _ listed a w (Region.free_spec hi hfree) hcl (by simpa using hready) (fun v hv => hv.narrow (Step.refl g' σ' w) (Keep.refl g' σ' w _) fun i hi => List.mem_append.2 (.inl hi)) (readB_or (evF fr.get)) (Meets.bare k4) k2 (Meets.refl k4 _)
              (opsD_ok hty hsel hdst hp hq rest fuel _ (hcl.set (by simpa using hready)) h2 hl' k3 k4 (hs.trans k1) k5))
        rcases guard_ok hf h with ⟨hg, h⟩ | ⟨hg, h⟩
        · unfold opP at h
          unfold dstB at hd
          have sub : ∀ {σ' : Store} {g' : Gh}, Step g σ w g' σ' w → (∀ L, Keep g σ σ' w w L) → ∀ v, Meets g' σ' (readsOf o (evF fr.get)) w v → Meets g σ (readsOf o (evF fr.get)) w v := fun {σ' g'} k1 k0 v hv => hv.narrow k1 (k0 _) fun i hi => hi
          cases hod : o.dst with
          | none =>
            rw [hod] at h
            obtain ⟨v, g', σ', av, k1, k2, k3, k4, k0, k5⟩ := op_quiet hty o hquiet hcv hf.eval hw h
            exact take (v := v) k4 k0 (.inl ⟨hg, fun w' hw' => k1 w' (sub k4 k0 w' hw')⟩) (by rw [hod]; exact hf.step k4) k3 k5
          | some t =>
            rw [hod] at h hd
            obtain ⟨v, g', σ', av, k1, k2, k3, k4, k0, k5⟩ := op_quiet hty o hquiet hcv hf.eval hw h
            exact take (v := v) k4 k0 (.inl ⟨hg, fun w' hw' => k1 w' (sub k4 k0 w' hw')⟩) (by rw [hod]; exact (hf.step k4).put (by simpa [Nat.blt_eq] using hd) k2) k3 k5
        · obtain ⟨fr', k1, k2⟩ := skipP_ok hd hf h
          exact take (v := undef) (Step.refl g σ w) (Keep.refl g σ w) (.inr ⟨hg, rfl⟩) k1 hw k2
/-- How many operations an order has. -/
def lenE : List Nat → Nat
  | [] => 0
  | i :: r => bif Nat.ble 2000 i then lenE r else lenE r + 1
/-- As ordB, of orders that fork. -/
def ordE (ops : Array Oper) (od : Ords) : List Nat → Array Bool → Bool
  | [], listed => (Region.ready .any ops listed).isEmpty
  | i :: r, listed => bif Nat.ble 2000 i then (match od.get i, r with
      | some (y :: l'), x :: r' => Nat.blt x 1000 && Nat.blt y 1000 && (Region.ready .any ops listed).all (fun j => Nat.beq j x || Nat.beq j y) && (Region.ready .any ops listed).contains x && (Region.ready .any ops listed).contains y &&
          Nat.ble (y :: l').length (lenE r' + 1) && ordE ops od r' (listed.setIfInBounds x true) && ordB ops l' (listed.setIfInBounds y true)
      | _, _ => false)
    else bif Nat.ble 1000 i then Region.ready .any ops listed == [i - 1000] && syncB .any ops listed (i - 1000) && ordE ops od r (listed.setIfInBounds (i - 1000) true)
    else (match ops[i]? with
    | none => false
    | some o => bif quietB o.op then Region.free .any ops listed i && (Region.ready .any ops listed).contains i else Region.ready .any ops listed == [i]) && ordE ops od r (listed.setIfInBounds i true)
theorem opsE_ok (hty : TysOk P ty) {n : Nat} {ops : Array Oper} (hsel : Region.noSelect ops = true) (hdst : ops.toList.all (dstB n) = true) {Qc : Exit → Act → World → Prop} {K : Fr → Store → Res} {Q : AExit → Fr → Store → Prop} {od : Ords} {g0 : Gh} {σ0 : Store} {w0 : World}
    (hp : ∀ c a w, ¬ Qc (.panic c) a w)
    (hq : ∀ fr σ g a w, FR n σ g fr a → WR g σ w → Step g0 σ0 w0 g σ w → (K fr σ).wp P Q → Qc .normal a w) : ∀ (l : List Nat) (fuel : Nat) (listed : Array Bool), ClosedO .any ops listed → ordE ops od l listed = true → lenE l ≤ fuel →
    ∀ {fr : Fr} {L : List Nat} {σ : Store} {g : Gh} {a : Act} {w : World}, FR n σ g fr a → WR g σ w → Step g0 σ0 w0 g σ w → (opsE ty od ops.toList l fr L σ K).wp P Q → wpAnyV P .any ops Qc fuel (Meets g σ [] w) (Meets g σ L w) listed a w
  | [], fuel, listed, hcl, ho, _, fr, L, σ, g, a, w, hf, hw, hs, h => wpAnyV_done (by simpa [ordE] using ho) (hq fr σ g a w hf hw hs h) fuel
  | i :: rest, fuel, listed, hcl, ho, hl, fr, L, σ, g, a, w, hf, hw, hs, h => by
    cases hfork : Nat.ble 2000 i with
    | true =>
      unfold ordE at ho
      simp only [hfork, cond_true] at ho
      simp only [opsE, hfork, cond_true] at h
      simp only [lenE, hfork, cond_true] at hl
      cases hgo : od.get i with
      | none => simp only [hgo] at h; exact h.elim
      | some l =>
        simp only [hgo] at h ho
        obtain ⟨hA, hB⟩ := h
        cases l with
        | nil => cases rest <;> simp at ho
        | cons y l' =>
        cases rest with
        | nil => simp at ho
        | cons x rest' =>
          simp only [Bool.and_eq_true] at ho
          obtain ⟨⟨⟨⟨⟨⟨⟨o1, o2⟩, o3⟩, o4⟩, o5⟩, o6⟩, o7⟩, o8⟩ := ho
          have o1 : Nat.ble 1000 x = false := by simp only [Nat.blt_eq] at o1; rw [Bool.eq_false_iff]; intro hh; have := Nat.le_of_ble_eq_true hh; omega
          have o2 : Nat.ble 1000 y = false := by simp only [Nat.blt_eq] at o2; rw [Bool.eq_false_iff]; intro hh; have := Nat.le_of_ble_eq_true hh; omega
          have o1' : Nat.ble 2000 x = false := by rw [Bool.eq_false_iff] at o1 ⊢; intro hh; exact o1 (Nat.ble_eq_true_of_le (by have := Nat.le_of_ble_eq_true hh; omega))
          have hlx : lenE (x :: rest') = lenE rest' + 1 := by simp only [lenE, o1', cond_false]
          rw [hlx] at hl
          obtain ⟨fuel, rfl⟩ : ∃ f, fuel = f + 1 := ⟨fuel - 1, by omega⟩
          have o6' : l'.length ≤ fuel := by
            have := Nat.le_of_ble_eq_true o6
            simp only [List.length_cons] at this
            omega
          have hrx : x ∈ Region.ready .any ops listed := by simpa using o4
          have hry : y ∈ Region.ready .any ops listed := by simpa using o5
          have narrow : ∀ {o : Oper} {σ' : Store} {g' : Gh} {w' : World}, Step g σ w g' σ' w' → Keep g σ σ' w w' L → ∀ v, Meets g' σ' (readsOf o (evF fr.get) ++ L) w' v → Meets g σ L w v := fun {o σ' g' w'} k1 k2 v hv => hv.narrow k1 k2 fun i hi => List.mem_append.2 (.inr hi)
          refine ⟨fun e => (by rw [e] at hrx; cases hrx), fun j hj => ?_⟩
          have hxy := List.all_eq_true.1 o3 j hj
          simp only [Bool.or_eq_true] at hxy
          rcases hxy with hx | hy
          · obtain rfl := Nat.eq_of_beq_eq_true hx
            simp only [opsE, o1, o1', cond_false, Array.getElem?_toList] at hA
            cases hi : ops[j]? with
            | none => simp only [hi] at hA; exact hA.elim
            | some o =>
              simp only [hi, forceL_eq] at hA
              cases hcv : convS ty o with
              | true => rw [hcv] at hA; exact hA.elim
              | false =>
              rw [hcv, cond_false] at hA
              have hd : dstB n o = true := List.all_eq_true.1 hdst o (by
                have := List.mem_of_getElem? (l := ops.toList) (i := j) (a := o) (by simpa using hi)
                exact this)
              exact oneP_ok hty hi hd hf hw hA fun fr' σ' g' a' w' k1 k2 k3 k4 k5 =>
                ⟨Meets g' σ' [] w', Meets g' σ' (readsOf o (evF fr.get) ++ L) w', Meets.base k3, Meets.bare k2, .inl (narrow k3 k4), Meets.refl k2 _, opsE_ok hty hsel hdst hp hq rest' fuel _ (hcl.set hj) o7 (by omega) k1 k2 (hs.trans k3) k5⟩
          · obtain rfl := Nat.eq_of_beq_eq_true hy
            simp only [opsD, o2, cond_false, Array.getElem?_toList] at hB
            cases hi : ops[j]? with
            | none => simp only [hi] at hB; exact hB.elim
            | some o =>
              simp only [hi, forceL_eq] at hB
              cases hcv : convS ty o with
              | true => rw [hcv] at hB; exact hB.elim
              | false =>
              rw [hcv, cond_false] at hB
              have hd : dstB n o = true := List.all_eq_true.1 hdst o (by
                have := List.mem_of_getElem? (l := ops.toList) (i := j) (a := o) (by simpa using hi)
                exact this)
              exact oneP_ok hty hi hd hf hw hB fun fr' σ' g' a' w' k1 k2 k3 k4 k5 =>
                ⟨Meets g' σ' [] w', Meets g' σ' (readsOf o (evF fr.get) ++ L) w', Meets.base k3, Meets.bare k2, .inl (narrow k3 k4), Meets.refl k2 _, opsD_ok hty hsel hdst hp hq l' fuel _ (hcl.set hj) o8 o6' k1 k2 (hs.trans k3) k5⟩
    | false =>
    unfold ordE at ho
    simp only [hfork, cond_false] at ho
    simp only [opsE, hfork, cond_false] at h
    simp only [lenE, hfork, cond_false] at hl
    obtain ⟨fuel, rfl⟩ : ∃ f, fuel = f + 1 := ⟨fuel - 1, by omega⟩
    have hl' : lenE rest ≤ fuel := by omega
    cases hbig : Nat.ble 1000 i with
    | true =>
      simp only [hbig, cond_true, Bool.and_eq_true, beq_iff_eq] at ho
      obtain ⟨⟨h1, hsy⟩, h2⟩ := ho
      simp only [hbig, cond_true, Array.getElem?_toList] at h
      generalize i - 1000 = i at *
      cases hi : ops[i]? with
      | none => simp only [hi] at h; exact h.elim
      | some o =>
        simp only [hi] at h
        have hd : dstB n o = true := List.all_eq_true.1 hdst o (by
          have := List.mem_of_getElem? (l := ops.toList) (i := i) (a := o) (by simpa using hi)
          exact this)
        have hready : i ∈ Region.ready .any ops listed := by rw [h1]; simp
        refine ⟨fun e => (by rw [e] at h1; cases h1), fun j hj => ?_⟩
        rw [h1] at hj
        obtain rfl : j = i := by simpa using hj
        exact oneP_ok hty hi hd hf hw h fun fr' σ' g' a' w' k1 k2 k3 k4 k5 =>
          ⟨Meets g' σ' [] w', Meets g' σ' [] w', Meets.base k3, fun _ h => h, .inr (syncB_spec hsy), Meets.refl k2 _, opsE_ok hty hsel hdst hp hq rest fuel _ (hcl.set hready) h2 hl' k1 k2 (hs.trans k3) k5⟩
    | false =>
    simp only [hbig, cond_false, Bool.and_eq_true] at ho
    obtain ⟨h1, h2⟩ := ho
    simp only [hbig, cond_false, Array.getElem?_toList] at h
    cases hi : ops[i]? with
    | none => simp [hi] at h1
    | some o =>
      simp only [hi, forceL_eq] at h h1
      cases hcv : convS ty o with
      | true => rw [hcv] at h; exact h.elim
      | false =>
      rw [hcv, cond_false] at h
      have hd : dstB n o = true := List.all_eq_true.1 hdst o (by
        have := List.mem_of_getElem? (l := ops.toList) (i := i) (a := o) (by simpa using hi)
        exact this)
      -- what is known of the world later on is more
      have narrow : ∀ {σ' : Store} {g' : Gh} {w' : World}, Step g σ w g' σ' w' → Keep g σ σ' w w' L → ∀ v, Meets g' σ' (readsOf o (evF fr.get) ++ L) w' v → Meets g σ L w v := fun {σ' g' w'} k1 k2 v hv => hv.narrow k1 k2 fun i hi => List.mem_append.2 (.inr hi)
      cases hquiet : quietB o.op with
      | false =>
        simp only [hquiet, cond_false, beq_iff_eq] at h1
        have hready : i ∈ Region.ready .any ops listed := by rw [h1]; simp
        refine ⟨fun e => (by rw [e] at h1; cases h1), fun j hj => ?_⟩
        rw [h1] at hj
        obtain rfl : j = i := by simpa using hj
        exact oneP_ok hty hi hd hf hw h fun fr' σ' g' a' w' k1 k2 k3 k4 k5 =>
          ⟨Meets g' σ' [] w', Meets g' σ' (readsOf o (evF fr.get) ++ L) w', Meets.base k3, Meets.bare k2, .inl (narrow k3 k4), Meets.refl k2 _, opsE_ok hty hsel hdst hp hq rest fuel _ (hcl.set hready) h2 hl' k1 k2 (hs.trans k3) k5⟩
      | true =>
        simp only [hquiet, cond_true, Bool.and_eq_true] at h1
        obtain ⟨hfree, hready⟩ := h1
        have take : ∀ {v : Value} {fr' : Fr} {σ' : Store} {g' : Gh}, Step g σ w g' σ' w → (∀ L, Keep g σ σ' w w L) → YieldsIf P ops (Meets g' σ' (readsOf o (evF fr.get)) w) o v a → FR n σ' g' fr' (a.put o.dst v) → WR g' σ' w →
            (opsE ty od ops.toList rest fr' (readsOf o (evF fr.get) ++ L) σ' K).wp P Q → wpAnyV P .any ops Qc (fuel + 1) (Meets g σ [] w) (Meets g σ L w) listed a w := fun {v fr' σ' g'} k1 k0 k2 k3 k4 k5 =>
          wpAnyV.mono (B' := Meets g' σ' [] w) (S' := Meets g' σ' (readsOf o (evF fr.get) ++ L) w) (Meets.base k1) (narrow k1 (k0 L))
            (wpAnyV_first hi (Region.noSelect_spec hsel) (fun c a w h => absurd h (hp c _ w)) (Sy := Meets g' σ' (readsOf o (evF fr.get)) w) fuel _ _ listed a w (Region.free_spec hi hfree) hcl (by simpa using hready) (fun v hv => hv.narrow (Step.refl g' σ' w) (Keep.refl g' σ' w _) fun i hi => List.mem_append.2 (.inl hi)) (readB_or (evF fr.get)) (Meets.bare k4) k2 (Meets.refl k4 _)
              (opsE_ok hty hsel hdst hp hq rest fuel _ (hcl.set (by simpa using hready)) h2 hl' k3 k4 (hs.trans k1) k5))
        rcases guard_ok hf h with ⟨hg, h⟩ | ⟨hg, h⟩
        · unfold opP at h
          unfold dstB at hd
          have sub : ∀ {σ' : Store} {g' : Gh}, Step g σ w g' σ' w → (∀ L, Keep g σ σ' w w L) → ∀ v, Meets g' σ' (readsOf o (evF fr.get)) w v → Meets g σ (readsOf o (evF fr.get)) w v := fun {σ' g'} k1 k0 v hv => hv.narrow k1 (k0 _) fun i hi => hi
          cases hod : o.dst with
          | none =>
            rw [hod] at h
            obtain ⟨v, g', σ', av, k1, k2, k3, k4, k0, k5⟩ := op_quiet hty o hquiet hcv hf.eval hw h
            exact take (v := v) k4 k0 (.inl ⟨hg, fun w' hw' => k1 w' (sub k4 k0 w' hw')⟩) (by rw [hod]; exact hf.step k4) k3 k5
          | some t =>
            rw [hod] at h hd
            obtain ⟨v, g', σ', av, k1, k2, k3, k4, k0, k5⟩ := op_quiet hty o hquiet hcv hf.eval hw h
            exact take (v := v) k4 k0 (.inl ⟨hg, fun w' hw' => k1 w' (sub k4 k0 w' hw')⟩) (by rw [hod]; exact (hf.step k4).put (by simpa [Nat.blt_eq] using hd) k2) k3 k5
        · obtain ⟨fr', k1, k2⟩ := skipP_ok hd hf h
          exact take (v := undef) (Step.refl g σ w) (Keep.refl g σ w) (.inr ⟨hg, rfl⟩) k1 hw k2
end Go.Am
