/- The abstract machine 'Am': code, functions. -/
import Derived.Test.YtddhlmejaobcgaaAm15
import Derived.Deep.LoopGhost
set_option linter.unusedVariables false
set_option linter.unusedSimpArgs false
namespace Go.Am
open Go
variable {P : Program} {ty : Tys}

theorem wp_post {c : Code} {Q Q' : Exit → Act → World → Prop} {a : Act} {w : World} (h : c.wp P Q a w) (hq : ∀ e a w, Q e a w → Q' e a w) : c.wp P Q' a w := wp_mono h hq

/-- What is checked of a body. -/
def codeB (n : Nat) (od : Ords) : Code → Bool
  | .region id ops draw => ops.toList.all (dstB n) && (bif draw then Region.noSelect ops && (match od.get id with | some l => Nat.ble (lenE l) ops.size && ordE ops od l (Array.replicate ops.size false) | none => true) else true)
  | .seq a b => codeB n od a && codeB n od b
  | .cond _ a b => codeB n od a && codeB n od b
  | .block _ b => codeB n od b
  | .loop b => codeB n od b
  | _ => true

def Post (P : Program) (n : Nat) (g0 : Gh) (σ0 : Store) (w0 : World) (K : AExit → Fr → Store → Res) (Q : AExit → Fr → Store → Prop) : Exit → Act → World → Prop
  | .normal, a, w => ∃ fr σ g, FR n σ g fr a ∧ WR g σ w ∧ Step g0 σ0 w0 g σ w ∧ (K .normal fr σ).wp P Q
  | .exit i, a, w => ∃ fr σ g, FR n σ g fr a ∧ WR g σ w ∧ Step g0 σ0 w0 g σ w ∧ (K (.exit i) fr σ).wp P Q
  | .ret, a, w => ∃ fr σ g, FR n σ g fr a ∧ WR g σ w ∧ Step g0 σ0 w0 g σ w ∧ (K .ret fr σ).wp P Q
  | _, _, _ => False

/-- Blocks are dropped. -/
theorem trim_ok {n : Nat} {σ : Store} {g : Gh} {w : World} {fr : Fr} {a : Act} {gL : Gh} {σL : Store} {wL : World} (hw : WR g σ w) (hs : Step gL σL wL g σ w) {T : List Nat} (hn : T.Nodup) (hT : ∀ i ∈ T, i < σ.length) (hL : ∀ i, i < gL.μ.length → T[i]? = some i) :
    WR (subG g T) (subS σ T) w ∧ Step gL σL wL (subG g T) (subS σ T) w ∧ ∀ x v, VR σ g x v → VR (subS σ T) (subG g T) (x.sub σ (idx T)) v := by
  have hc : ∀ i j, idx T i = some j → Cpt σ g (subS σ T) (subG g T) i j := fun i j e => sub_cpt hT hw.len (idx_some e)
  refine ⟨hw.subS hn hT, ⟨hs.I, hs.size, hs.same, hs.os, hs.tape, hs.output, fun i hi => (hs.cpt i hi).trans (sub_cpt hT hw.len (hL i hi)), ?_, fun j c b h1 h2 => ?_, hs.news⟩, fun x v h => VR.sub (g := g) (g' := subG g T) (fun _ _ h => h) hc x v h⟩
  · have : (subG g T).μ.length = T.length := by simp [subG]
    rw [this]
    rcases Nat.eq_zero_or_pos gL.μ.length with h | h
    · omega
    · have := (List.getElem?_eq_some_iff.1 (hL (gL.μ.length - 1) (by omega))).1
      omega
  · simp only [subG, List.getElem?_map, Option.map_eq_some_iff] at h1
    obtain ⟨i, hi, e⟩ := h1
    have : i < g.μ.length := by rw [hw.len]; exact hT i (List.mem_of_getElem? hi)
    rw [List.getElem?_eq_getElem this] at e
    exact hs.own i c b (by rw [List.getElem?_eq_getElem this]; exact congrArg some e) h2

theorem rows_ok {g : Gh} {σ : Store} {w : World} (hw : WR g σ w) : ∀ rows : List Nat, ∃ g', WR g' (σ ++ rows.map (fun sz => .vec sz 0 [])) w ∧ Step g σ w g' (σ ++ rows.map (fun sz => .vec sz 0 [])) w ∧
    ∀ k, σ.length ≤ k → k < σ.length + rows.length → VR (σ ++ rows.map (fun sz => .vec sz 0 [])) g' (.vec k 0) (.slice none 0 0) := by
  intro rows
  induction rows generalizing g σ with
  | nil => exact ⟨g, by simpa using hw, by simpa using Step.refl g σ w, fun k h1 h2 => by simp at h2; omega⟩
  | cons sz r ih =>
    obtain ⟨g1, h1, h2, h3⟩ := new_empty hw none sz
    obtain ⟨g2, k1, k2, k3⟩ := ih h2
    rw [List.append_assoc] at k1 k2
    refine ⟨g2, k1, h3.trans k2, fun k q1 q2 => ?_⟩
    simp only [List.length_append, List.length_cons, List.length_nil, List.append_assoc] at k3 q2
    rcases Nat.lt_or_ge σ.length k with h | h
    · exact k3 k (by omega) (by omega)
    · obtain rfl : k = σ.length := by omega
      have := k2.vr h1
      simpa using this
theorem start_rows {fr fr' : Fr} {σ σ' : Store} (h : ∃ rows : List Nat, σ' = σ ++ rows.map (fun sz => .vec sz 0 []) ∧ ∀ t, fr'.get t = fr.get t ∨ fr'.get t = .undef ∨ (fr.get t = .d (.lit (.slice none 0 0)) ∧ ∃ k, σ.length ≤ k ∧ k < σ.length + rows.length ∧ fr'.get t = .vec k 0)) : Start fr σ fr' σ' := by
  intro g w hw
  obtain ⟨rows, rfl, hfr⟩ := h
  obtain ⟨g', h1, h2, h3⟩ := rows_ok hw rows
  refine ⟨g', h1, h2, fun t v hv => ?_⟩
  rcases hfr t with e | e | ⟨e, k, k1, k2, k3⟩
  · rw [e]; exact h2.vr hv
  · rw [e]; exact True.intro
  · rw [e] at hv
    rw [k3, hv.lit]
    exact h3 k k1 k2
theorem Start.trans {fr fr1 fr2 : Fr} {σ σ1 σ2 : Store} (h : Start fr σ fr1 σ1) (k : Start fr1 σ1 fr2 σ2) : Start fr σ fr2 σ2 := by
  intro g w hw
  obtain ⟨g1, h1, h2, h3⟩ := h g w hw
  obtain ⟨g2, k1, k2, k3⟩ := k g1 w h1
  exact ⟨g2, k1, h2.trans k2, fun t v hv => k3 t v (h3 t v hv)⟩
theorem VRL.set {σ : Store} {g : Gh} {x : AV} {u : Value} (hx : VR σ g x u) : ∀ {cs : List AV} {vs : List Value} (j : Nat), VRL σ g cs vs → vs[j]? = some u → VRL σ g (cs.set j x) vs
  | [], _, _, h, _ => h
  | c :: cs, _, 0, ⟨v, r, e, h, k⟩, hu => by
    subst e
    simp at hu
    subst hu
    exact ⟨v, r, rfl, hx, k⟩
  | c :: cs, _, j + 1, ⟨v, r, e, h, k⟩, hu => by
    subst e
    exact ⟨v, r, rfl, h, VRL.set hx j k (by simpa using hu)⟩
/-- A nil slice in a variable goes on as a row without elements. -/
theorem Start.nil {fr : Fr} {σ : Store} (id j sz : Nat) {cs : List AV} (hs : σ[id]? = some (.var cs)) (hj : cs[j]? = some (.d (.lit (.slice none 0 0)))) :
    Start fr σ fr (σ.set id (.var (cs.set j (.vec σ.length 0))) ++ [.vec sz 0 []]) := by
  intro g w hw
  have hid : id < σ.length := (List.getElem?_eq_some_iff.1 hs).1
  obtain ⟨g1, h1, h2, h3⟩ := new_empty hw none sz
  have hs1 : (σ ++ [Blk.vec sz 0 []])[id]? = some (.var cs) := by rw [List.getElem?_append_left hid]; exact hs
  have hlen := h2.len
  obtain ⟨c, hc⟩ : ∃ c, g1.μ[id]? = some c := ⟨_, List.getElem?_eq_getElem (by rw [hlen]; simp; omega)⟩
  have hb := h2.blk id _ c hs1 hc
  obtain ⟨b, rfl⟩ : ∃ b, c = .var b := by
    cases c with
    | var b => exact ⟨b, rfl⟩
    | _ => exact hb.elim
  obtain ⟨⟨arr, tt, q1, q2⟩, q3⟩ := hb
  obtain ⟨u, hu, hr⟩ := q2.get hj
  have hu' : arr.toList[j]? = some (.slice none 0 0) := by rw [hu]; exact congrArg some hr.lit
  obtain ⟨k1, k2, _⟩ := h2.turn (w' := w) (x' := .var (cs.set j (.vec σ.length 0))) (c' := .var b) hs1 hc (J := g1.I) (fun _ _ h => h) h2.fact
    (Cpt.of_var hc (List.getElem?_set_self (List.getElem?_eq_some_iff.1 hc).1))
    (fun hall => ⟨⟨arr, tt, q1, VRL.mono (g := g1) (g' := ⟨g1.μ.set id (.var b), g1.I⟩) (fun _ _ h => h) hall _ _ (VRL.set h1 j q2 hu')⟩, q3⟩)
    (Nat.le_refl _) (fun _ _ _ => rfl) (fun _ h => .inl h) (fun _ _ h => .inl h) ⟨rfl, rfl, rfl⟩
  rw [List.set_append_left _ _ hid] at k1 k2
  exact ⟨_, k1, h3.trans k2, fun t v hv => (h3.trans k2).vr hv⟩
theorem start_ok {n : Nat} {fr fr' : Fr} {σ σ' : Store} {g : Gh} {a : Act} {w : World} (hf : FR n σ g fr a) (hw : WR g σ w) (h : Start fr σ fr' σ') : ∃ g', FR n σ' g' fr' a ∧ WR g' σ' w ∧ Step g σ w g' σ' w := by
  obtain ⟨g', h1, h2, h3⟩ := h g w hw
  exact ⟨g', ⟨hf.defers, hf.size, fun t => h3 t _ (hf.slot t)⟩, h1, h2⟩

theorem code_ok (hty : TysOk P ty) (hm : P.follows .mixedOrders = true) {n : Nat} {od : Ords} : ∀ (c : Code), codeB n od c = true → ∀ {g0 : Gh} {σ0 : Store} {w0 : World} {K : AExit → Fr → Store → Res} {Q : AExit → Fr → Store → Prop} {fr : Fr} {σ : Store} {g : Gh} {a : Act} {w : World},
    FR n σ g fr a → WR g σ w → Step g0 σ0 w0 g σ w → (codeR ty od c fr σ K).wp P Q → c.wp P (Post P n g0 σ0 w0 K Q) a w
  | .skip, _, g0, σ0, w0, K, Q, fr, σ, g, a, w, hf, hw, hs, h => wp_skip ⟨fr, σ, g, hf, hw, hs, h⟩
  | .exit i, _, g0, σ0, w0, K, Q, fr, σ, g, a, w, hf, hw, hs, h => wp_exit ⟨fr, σ, g, hf, hw, hs, h⟩
  | .ret, _, g0, σ0, w0, K, Q, fr, σ, g, a, w, hf, hw, hs, h => wp_ret ⟨fr, σ, g, hf, hw, hs, h⟩
  | .seq x y, hb, g0, σ0, w0, K, Q, fr, σ, g, a, w, hf, hw, hs, h => by
    simp only [codeB, Bool.and_eq_true] at hb
    refine wp_seq (wp_post (code_ok hty hm (Q := Q) x hb.1 hf hw hs h) fun e a' w' hp => ?_)
    cases e with
    | normal =>
      obtain ⟨fr', σ', g', h1, h2, h3, h4⟩ := hp
      exact code_ok hty hm (Q := Q) y hb.2 h1 h2 h3 h4
    | exit i => exact hp
    | ret => exact hp
    | goto l => exact hp
    | panic ch => exact hp
    | outgrown => exact hp
  | .cond c x y, hb, g0, σ0, w0, K, Q, fr, σ, g, a, w, hf, hw, hs, h => by
    simp only [codeB, Bool.and_eq_true] at hb
    unfold codeR at h
    split at h
    · rename_i t ht
      have hv := hf.eval c
      rw [ht] at hv
      refine wp_cond (t := t) hv.lit ?_
      cases t with
      | true => exact code_ok hty hm (Q := Q) x hb.1 hf hw hs h
      | false => exact code_ok hty hm (Q := Q) y hb.2 hf hw hs h
    · exact h.elim
  | .block id c, hb, g0, σ0, w0, K, Q, fr, σ, g, a, w, hf, hw, hs, h => by
    simp only [codeB] at hb
    refine wp_block (wp_post (code_ok hty hm (Q := Q) c hb hf hw hs h) fun e a' w' hp => ?_)
    cases e with
    | normal => exact hp
    | exit i =>
      obtain ⟨fr', σ', g', h1, h2, h3, h4⟩ := hp
      simp only [Exit.inBlock]
      cases hi : Nat.beq i id with
      | true =>
        simp only [hi, cond_true] at h4
        rw [if_pos (Nat.eq_of_beq_eq_true hi)]
        exact ⟨fr', σ', g', h1, h2, h3, h4⟩
      | false =>
        simp only [hi, cond_false] at h4
        rw [if_neg (fun e => by subst e; rw [Nat.beq_refl] at hi; cases hi)]
        exact ⟨fr', σ', g', h1, h2, h3, h4⟩
    | ret => exact hp
    | goto l => exact hp
    | panic ch => exact hp
    | outgrown => exact hp
  | .region id ops draw, hb, g0, σ0, w0, K, Q, fr, σ, g, a, w, hf, hw, hs, h => by
    simp only [codeB, Bool.and_eq_true] at hb
    unfold codeR at h
    cases draw with
    | false =>
      simp only [cond_false] at h
      refine wp_region ?_
      rw [List.range_eq_range']
      have := opsR_ok hty (Qc := Post P n g0 σ0 w0 K Q) (fun fr' σ' g' a' w' h1 h2 h3 h4 => ⟨fr', σ', g', h1, h2, h3, h4⟩) ops.toList 0 (by simp) hb.1 hf hw hs h
      simpa using this
    | true =>
      simp only [cond_true, Bool.and_eq_true] at h hb
      split at h
      · rename_i l hl
        rw [hl] at hb
        simp only [Bool.and_eq_true] at hb
        refine wp_region_any hm (wpAny_of_V _ _ _ _ _ _ (opsE_ok hty hb.2.1 hb.1 (Qc := Post P n g0 σ0 w0 K Q) (K := fun fr σ => K .normal fr σ) (Q := Q) (fun c a w h => h) (fun fr' σ' g' a' w' h1 h2 h3 h4 => ⟨fr', σ', g', h1, h2, h3, h4⟩) l _ _ (ClosedO.start _ _ _) hb.2.2.2 (Nat.le_of_ble_eq_true hb.2.2.1) hf (drew_wr hw) (hs.trans (drew_step g σ w)) h))
      · exact h.elim
  | .loop body, hb, g0, σ0, w0, K, Q, fr, σ, g, a, w, hf, hw, hs, h => by
    simp only [codeB] at hb
    unfold codeR at h
    obtain ⟨I, ⟨n0, fr0, σs, hstart, hI⟩, hbody⟩ := h
    obtain ⟨gs, s1, s2, s3⟩ := start_ok hf hw hstart
    refine wp_loop_ghost (fun k a' w' => ∃ fr' σ' g', FR n σ' g' fr' a' ∧ WR g' σ' w' ∧ Step g σ w g' σ' w' ∧ I k fr' σ') n0 ⟨fr0, σs, gs, s1, s2, s3, hI⟩ ?_
    · intro k a' w' ⟨fr', σ', g', h1, h2, h3, h4⟩
      refine wp_post (code_ok hty hm body hb h1 h2 h3 (hbody k fr' σ' h4)) fun e a2 w2 hp => ?_
      cases e with
      | normal =>
        obtain ⟨fr2, σ2, g2, k1, k2, k3, m, fr3, σ3, hlt, ⟨T, t1, t2, t3, t4, t5⟩, k4⟩ := hp
        obtain ⟨q1, q2, q3⟩ := trim_ok (n := n) (fr := fr2) (a := a2) k2 k3 t1 t2 (fun i hi => t3 i (by rw [← hw.len]; exact hi))
        subst t4
        refine ⟨m, hlt, fr3, _, subG g2 T, ⟨k1.defers, k1.size, fun t => ?_⟩, q1, q2, k4⟩
        rcases t5 t with e | e
        · rw [e]; exact q3 _ _ (k1.slot t)
        · rw [e]; exact True.intro
      | exit i =>
        obtain ⟨fr2, σ2, g2, k1, k2, k3, k4⟩ := hp
        exact ⟨fr2, σ2, g2, k1, k2, hs.trans k3, k4⟩
      | ret =>
        obtain ⟨fr2, σ2, g2, k1, k2, k3, k4⟩ := hp
        exact ⟨fr2, σ2, g2, k1, k2, hs.trans k3, k4⟩
      | goto l => exact hp
      | panic ch => exact hp
      | outgrown => exact hp
  | .rangeFunc _ _ _ _, _, _, _, _, _, _, _, _, _, _, _, _, _, _, h => h.elim
  | .scope _, _, _, _, _, _, _, _, _, _, _, _, _, _, _, h => h.elim
  | .label _, _, _, _, _, _, _, _, _, _, _, _, _, _, _, h => h.elim
  | .goto _, _, _, _, _, _, _, _, _, _, _, _, _, _, _, h => h.elim
  | .refuse _, _, _, _, _, _, _, _, _, _, _, _, _, _, _, h => h.elim

/-! ### functions -/
def frOf : Nat → List AV → Fr
  | _, [] => []
  | k, v :: r => (k, v) :: frOf (k + 1) r
theorem frOf_get : ∀ (l : List AV) (k t : Nat), (frOf k l).get t = if k ≤ t then (match l[t - k]? with | some v => v | none => .undef) else .undef
  | [], k, t => by simp [frOf, Fr.get]
  | v :: r, k, t => by
    simp only [frOf, Fr.get]
    cases hb : Nat.beq k t with
    | true =>
      obtain rfl := Nat.eq_of_beq_eq_true hb
      simp
    | false =>
      have hne : k ≠ t := fun e => by subst e; rw [Nat.beq_refl] at hb; cases hb
      simp only [cond_false]
      rw [frOf_get r (k + 1) t]
      by_cases h : k ≤ t
      · rw [if_pos h, if_pos (by omega)]
        rw [show t - k = (t - (k + 1)) + 1 from by omega, List.getElem?_cons_succ]
      · rw [if_neg h, if_neg (by omega)]
/-- The results of a body, one behind the other. -/
def resL (ty : Tys) (fr : Fr) (σ : Store) : List ResultVar → (List AV → Res) → Res
  | [], k => k []
  | .tmp t :: r, k => (fr.get t).force fun v => resL ty fr σ r fun l => k (v :: l)
  | .cell a t :: r, k => match ty.get t with
    | some i => loadR σ i (fr.get a) fun v => resL ty fr σ r fun l => k (v :: l)
    | none => .fail
def mkRet : List AV → AV
  | [v] => v
  | l => .tuple l
def endR (ty : Tys) (rs : List ResultVar) (e : AExit) (fr : Fr) (σ : Store) : Res :=
  match e with
  | .exit _ => .fail
  | _ => resL ty fr σ rs fun l => .ret .ret [(0, mkRet l)] σ
/-- What is said of an answer: of the whole store behind it, or of a part of it. -/
def RetQ (m : Nat) (R : AV → Store → Prop) (e : AExit) (fr : Fr) (σ : Store) : Prop :=
  ∃ v, fr = [(0, v)] ∧ (R v σ ∨ ∃ T : List Nat, T.Nodup ∧ (∀ i ∈ T, i < σ.length) ∧ (∀ i, i < m → T[i]? = some i) ∧ R (v.sub σ (idx T)) (subS σ T))

theorem loadR_mono {σ : Store} {i : TyI} {av : AV} {K K' : AV → Res} {Q : AExit → Fr → Store → Prop} (hk : ∀ v, (K v).wp P Q → (K' v).wp P Q) (h : (loadR σ i av K).wp P Q) : (loadR σ i av K').wp P Q := by
  unfold loadR at h ⊢
  split at h
  · rename_i id off
    split at h
    · rename_i cs hs
      cases hle : Nat.ble (off + i.size) cs.length with
      | false => simp only [hle, cond_false] at h; exact h.elim
      | true =>
        cases ha : i.agg with
        | true =>
          simp only [hle, ha, cond_true, AV.force_eq] at h ⊢
          exact hk _ h
        | false =>
          cases h1 : Nat.beq i.size 1 with
          | false => simp only [hle, ha, h1, cond_true, cond_false] at h; exact h.elim
          | true =>
            simp only [hle, ha, h1, cond_true, cond_false, AV.force_eq] at h ⊢
            cases hc : cs[off]? with
            | none => simp only [hc] at h; exact h.elim
            | some v => simp only [hc] at h ⊢; exact hk _ h
    · exact h.elim
  · rename_i cs off
    cases hk' : Nat.beq i.kinds.length i.size with
    | false => simp only [hk', cond_false] at h; exact h.elim
    | true =>
      simp only [hk', cond_true] at h ⊢
      obtain ⟨h1, h⟩ := h
      refine ⟨h1, ?_⟩
      unfold loadK at h ⊢
      cases ha : i.agg with
      | true =>
        simp only [ha, cond_true, forceL_eq] at h ⊢
        exact hk _ h
      | false =>
        cases h1 : Nat.beq i.size 1 with
        | false => simp only [ha, h1, cond_false] at h; exact h.elim
        | true =>
          simp only [ha, h1, cond_true, cond_false, AV.force_eq] at h ⊢
          cases hc : formed cs i.kinds off with
          | nil => simp only [hc] at h; exact h.elim
          | cons v r => simp only [hc] at h ⊢; exact hk _ h
  · rename_i b off
    split at h
    · rename_i ep H r
      cases hk' : Nat.beq i.kinds.length i.size with
      | false => simp only [hk', cond_false] at h; exact h.elim
      | true =>
        simp only [hk', cond_true] at h ⊢
        obtain ⟨l, hl, h⟩ := h
        refine ⟨l, hl, ?_⟩
        unfold loadK at h ⊢
        cases ha : i.agg with
        | true =>
          simp only [ha, cond_true, forceL_eq] at h ⊢
          exact hk _ h
        | false =>
          cases h1 : Nat.beq i.size 1 with
          | false => simp only [ha, h1, cond_false] at h; exact h.elim
          | true =>
            simp only [ha, h1, cond_true, cond_false, AV.force_eq] at h ⊢
            cases l with
            | nil => exact h.elim
            | cons v r => exact hk _ h
    cases ha : i.agg with
    | true => simp only [ha, cond_true] at h; exact h.elim
    | false =>
      simp only [ha, cond_false] at h ⊢
      cases h1' : Nat.beq i.size 1 with
      | false => simp only [h1', cond_false] at h; exact h.elim
      | true =>
        simp only [h1', cond_true] at h ⊢
        obtain ⟨v, hj, h⟩ := h
        exact ⟨v, hj, hk _ h⟩
  · split at h
    · rename_i sz ep' cs hs
      (try simp only [hs])
      rename_i id ep off _
      cases hk' : Nat.beq i.kinds.length i.size && Nat.beq ep' ep with
      | false => simp only [hk', cond_false] at h; exact h.elim
      | true =>
        simp only [hk', cond_true] at h ⊢
        obtain ⟨h1, h⟩ := h
        refine ⟨h1, ?_⟩
        unfold loadK at h ⊢
        cases ha : i.agg with
        | true =>
          simp only [ha, cond_true, forceL_eq] at h ⊢
          exact hk _ h
        | false =>
          cases h1 : Nat.beq i.size 1 with
          | false => simp only [ha, h1, cond_false] at h; exact h.elim
          | true =>
            simp only [ha, h1, cond_true, cond_false, AV.force_eq] at h ⊢
            cases hc : formed cs i.kinds off with
            | nil => simp only [hc] at h; exact h.elim
            | cons v r => simp only [hc] at h ⊢; exact hk _ h
    · exact h.elim
  · exact h.elim
theorem loadR_ok (hty : TysOk P ty) {t : TypeId} {i : TyI} (hi : ty.get t = some i) {σ : Store} {g : Gh} {w : World} (hw : WR g σ w) {av : AV} {v : Value} (hv : VR σ g av v) {K : AV → Res} {Q : AExit → Fr → Store → Prop} (h : (loadR σ i av K).wp P Q) :
    ∃ u av' g', (do loadVar t (← asAddr v) : Sem Value).run P w = .ok u w ∧ VR σ g' av' u ∧ WR g' σ w ∧ Step g σ w g' σ w ∧ (K av').wp P Q := by
  let ev : Operand → AV := fun x => match x with | .tmp 0 => av | _ => .undef
  let ρ : Operand → Value := fun x => match x with | .tmp 0 => v | _ => undef
  let o : Oper := { (default : Oper) with op := .load t (.tmp 0) }
  have hev : ∀ x, VR σ g (ev x) (ρ x) := fun x => by
    show VR σ g (match x with | .tmp 0 => av | _ => .undef) (match x with | .tmp 0 => v | _ => undef)
    split
    · exact hv
    · exact True.intro
  have h' : (opR ty o ev [] σ (fun av' σ' => .need (σ' = σ) (K av'))).wp P Q := by
    show (match ty.get t with | some i => loadR σ i av fun v => .need (σ = σ) (K v) | none => .fail).wp P Q
    rw [hi]
    exact loadR_mono (K := K) (fun v hv => ⟨rfl, hv⟩) h
  obtain ⟨u, g', σ', av', h1, h2, h3, h4, _, rfl, h5⟩ := ok_load hty (o := o) rfl (w := w) hev hw h'
  have hrun := h1 w (Meets.refl hw _)
  refine ⟨u, av', g', ?_, h2, h3, h4, h5⟩
  have e1 : (execOp ρ o).run P w = (do pure (.value (← Instr.loadAt t v)) : Sem Next).run P w := rfl
  have hp : ∃ a, v = .pointer (some a) := by
    unfold loadR at h
    split at h
    · obtain ⟨b, _, e⟩ := hv; exact ⟨_, e⟩
    · obtain ⟨b, base, e, _⟩ := hv; exact ⟨_, e⟩
    · exact ⟨_, hv.lit⟩
    · obtain ⟨_, _, _, _, _, _, _, _, e, _⟩ := hv; exact ⟨_, e⟩
    · exact h.elim
  obtain ⟨a, rfl⟩ := hp
  rw [e1] at hrun
  simp only [Instr.loadAt, Instr.sureAddr, Sem.run_bind, Sem.run_pure, Result.andThen_ok, asAddr] at hrun ⊢
  cases hr : (loadVar t a).run P w with
  | ok x w' =>
    rw [hr] at hrun
    simp only [Result.andThen_ok, Result.ok.injEq, Next.value.injEq] at hrun
    rw [hrun.1, hrun.2]
  | halt x w' =>
    rw [hr] at hrun
    cases hrun

theorem resL_ok (hty : TysOk P ty) {n : Nat} {fr : Fr} {σ : Store} {a : Act} {w : World} {Q : AExit → Fr → Store → Prop} : ∀ (rs : List ResultVar) {g : Gh} {K : List AV → Res}, FR n σ g fr a → WR g σ w → (resL ty fr σ rs K).wp P Q →
    ∃ vs l g', (rs.mapM (m := Sem) fun | .tmp t => pure (a.tmps.getD t undef) | .cell x t => do loadVar t (← asAddr (a.tmps.getD x undef))).run P w = .ok vs w ∧ VRL σ g' l vs ∧ WR g' σ w ∧ Step g σ w g' σ w ∧ (K l).wp P Q
  | [], g, K, hf, hw, h => ⟨[], [], g, by simp, rfl, hw, Step.refl g σ w, h⟩
  | .tmp t :: r, g, K, hf, hw, h => by
    simp only [resL, AV.force_eq] at h
    obtain ⟨vs, l, g', h1, h2, h3, h4, h5⟩ := resL_ok hty r hf hw h
    exact ⟨a.tmps.getD t undef :: vs, fr.get t :: l, g', by rw [List.mapM_cons, Sem.run_bind, Sem.run_pure, Result.andThen_ok, Sem.run_bind, h1]; simp, ⟨_, _, rfl, h4.vr (hf.slot t), h2⟩, h3, h4, h5⟩
  | .cell x t :: r, g, K, hf, hw, h => by
    simp only [resL] at h
    split at h
    · rename_i i hi
      obtain ⟨u, av, g1, k1, k2, k3, k4, k5⟩ := loadR_ok hty hi hw (hf.slot x) h
      obtain ⟨vs, l, g', h1, h2, h3, h4, h5⟩ := resL_ok hty r (hf.step k4) k3 k5
      refine ⟨u :: vs, av :: l, g', ?_, ⟨_, _, rfl, h4.vr k2, h2⟩, h3, k4.trans h4, h5⟩
      rw [List.mapM_cons, Sem.run_bind, k1, Result.andThen_ok, Sem.run_bind, h1]
      simp
    · exact h.elim
theorem mkRet_ok {σ : Store} {g : Gh} {l : List AV} {vs : List Value} (h : VRL σ g l vs) : VR σ g (mkRet l) (if h : vs.toArray.size = 1 then vs.toArray[0] else .tuple vs.toArray) := by
  have hl := h.length
  match l, h with
  | [], h => rw [VRL] at h; subst h; exact ⟨[], rfl, rfl⟩
  | [x], h =>
    obtain ⟨v, r, rfl, h1, h2⟩ := h
    rw [VRL] at h2
    subst h2
    exact h1
  | x :: y :: r, h =>
    rw [dif_neg (by simp at hl ⊢; omega)]
    exact ⟨vs, rfl, h⟩
theorem endR_ok (hty : TysOk P ty) {fn : Func} {n : Nat} {fr : Fr} {σ : Store} {a : Act} {w : World} {Q : AExit → Fr → Store → Prop} {e : AExit} {g : Gh} (hf : FR n σ g fr a) (hw : WR g σ w) (h : (endR ty fn.results.toList e fr σ).wp P Q) :
    ∃ v av g', (results fn a.tmps).run P w = .ok v w ∧ VR σ g' av v ∧ WR g' σ w ∧ Step g σ w g' σ w ∧ Q .ret [(0, av)] σ := by
  have h' : (resL ty fr σ fn.results.toList fun l => .ret .ret [(0, mkRet l)] σ).wp P Q := by
    cases e with
    | exit i => exact h.elim
    | normal => exact h
    | ret => exact h
  obtain ⟨vs, l, g', h1, h2, h3, h4, h5⟩ := resL_ok hty _ hf hw h'
  refine ⟨_, mkRet l, g', ?_, mkRet_ok h2, h3, h4, h5⟩
  unfold results
  rw [Array.mapM_eq_mapM_toList, map_eq_pure_bind]
  simp only [bind_assoc, pure_bind]
  rw [Sem.run_bind]
  exact congrArg (fun r => Result.andThen r fun (a : List Value) w' => Sem.run P (pure (if h : a.toArray.size = 1 then a.toArray[0] else Value.tuple a.toArray)) w') h1

theorem func_ok (hty : TysOk P ty) (hm : P.follows .mixedOrders = true) {od : Ords} {f : FuncId} {fn : Func} {c : Code} (hf : P.funcs[f]? = some fn) (hb : fn.body = some c) (hn : (fn.name == "runtime.NumGoroutine") = false)
    (hc : codeB fn.ntmps od c = true) {args : List AV} {σ : Store} {R : AV → Store → Prop}
    (h : (codeR ty od c (frOf 0 args) σ (endR ty fn.results.toList)).wp P (RetQ σ.length R)) : CallOk P f args σ R := by
  intro g w vs hw hv
  have hrun : (callFunc f vs.toArray).run P w = .ok (.enter f vs.toArray) w := by
    have hn' : ¬ fn.name = "runtime.NumGoroutine" := by simpa using hn
    simp [callFunc, program, Sem.run, hf, hb, hn']
  unfold NextSem
  rw [hrun]
  have hlen := hv.length
  have hfr : FR fn.ntmps σ g (frOf 0 args) { tmps := vs.toArray ++ Array.replicate (fn.ntmps - vs.toArray.size) undef, defers := [] } := by
    refine ⟨rfl, by simp; omega, fun t => ?_⟩
    rw [frOf_get, if_pos (Nat.zero_le t)]
    simp only [Nat.sub_zero]
    cases ht : args[t]? with
    | none => exact True.intro
    | some av =>
      obtain ⟨v, h1, h2⟩ := hv.get ht
      have hlt := (List.getElem?_eq_some_iff.1 h1).1
      have : (vs.toArray ++ Array.replicate (fn.ntmps - vs.toArray.size) undef).getD t undef = v := by
        rw [Array.getD_eq_getD_getElem?, Array.getElem?_append_left (by simpa using hlt)]
        simp [h1]
      simp only
      rw [this]
      exact h2
  refine calls_of_wp hf hb (wp_post (code_ok hty hm c hc hfr hw (Step.refl g σ w) h) fun e a' w' hp => ?_)
  have key : ∀ {e : AExit} {fr' : Fr} {σ' : Store} {g' : Gh}, FR fn.ntmps σ' g' fr' a' → WR g' σ' w' → Step g σ w g' σ' w' → (endR ty fn.results.toList e fr' σ').wp P (RetQ σ.length R) →
      a'.defers = [] ∧ ∃ v, (results fn a'.tmps).run P w' = .ok v w' ∧ ∃ v', Ending.returned v = .returned v' ∧ ∃ g' σ' av, VR σ' g' av v' ∧ WR g' σ' w' ∧ Step g σ w g' σ' w' ∧ R av σ' := fun {e fr' σ' g'} h1 h2 h3 h4 => by
    obtain ⟨v, av, g2, k1, k2, k3, k4, u, ku, k5⟩ := endR_ok hty h1 h2 h4
    obtain rfl : av = u := by simpa using ku
    refine ⟨h1.defers, v, k1, v, rfl, ?_⟩
    rcases k5 with k5 | ⟨T, t1, t2, t3, k5⟩
    · exact ⟨g2, σ', av, k2, k3, h3.trans k4, k5⟩
    · obtain ⟨q1, q2, q3⟩ := trim_ok (n := fn.ntmps) (fr := fr') (a := a') k3 (h3.trans k4) t1 t2 (fun i hi => t3 i (by rw [← hw.len]; exact hi))
      exact ⟨_, _, _, q3 _ _ k2, q1, q2, k5⟩
  cases e with
  | normal => obtain ⟨fr', σ', g', h1, h2, h3, h4⟩ := hp; exact key h1 h2 h3 h4
  | ret => obtain ⟨fr', σ', g', h1, h2, h3, h4⟩ := hp; exact key h1 h2 h3 h4
  | exit i => obtain ⟨fr', σ', g', h1, h2, h3, h4⟩ := hp; exact h4.elim
  | goto l => exact hp.elim
  | panic ch => exact hp.elim
  | outgrown => exact hp.elim
end Go.Am
