/- The abstract machine 'Am': append, calls. -/
import Derived.Test.YtddhlmejaobcgaaAm12
set_option linter.unusedVariables false
set_option linter.unusedSimpArgs false
namespace Go.Am
open Go
variable {P : Program} {ty : Tys}

theorem srcA_push {σ : Store} {b : Blk} {sz : Nat} {x : AV} {r : Nat × List D} (h : srcA σ sz x = some r) : srcA (σ ++ [b]) sz x = some r := by
  have get : ∀ (i : Nat) (y : Blk), σ[i]? = some y → (σ ++ [b])[i]? = some y := fun i y hy => by
    rw [List.getElem?_append_left (List.getElem?_eq_some_iff.1 hy).1, hy]
  cases x with
  | vec id n =>
    simp only [srcA, srcS] at h ⊢
    cases hs : σ[id]? with
    | none => simp [hs] at h
    | some y => rw [hs] at h; rw [get _ _ hs]; exact h
  | row id ep off n =>
    simp only [srcA] at h ⊢
    cases hs : σ[id]? with
    | none => simp [hs] at h
    | some y => rw [hs] at h; rw [get _ _ hs]; exact h
  | d y =>
    unfold srcA at h ⊢
    split at h
    · exact h
    · rename_i h0; cases h0
    · unfold srcS at h ⊢
      split at h <;> first | exact h | (rename_i h0; cases h0)
  | _ => cases h
theorem appendR_wp {σ : Store} {L : List Nat} {t : TypeId} {s x : AV} {K : AV → Store → Res} {Q} (h : (appendR ty σ L t s x K).wp P Q) : (appendR0 ty σ L t s x K).wp P Q := by
  unfold appendR at h
  unfold appendR0
  split at h
  · rename_i hi
    split at h
    · rename_i id ep off n
      split at h
      · rename_i sz' ep' cs hs
        obtain ⟨rfl, h⟩ := h
        have : ∀ sz, srcA σ sz (.row id ep' off n) = srcB σ sz id off n := fun sz => by
          unfold srcA srcB
          simp only [hs]
          rw [show Nat.beq ep' ep' = true from Nat.beq_refl ep', Bool.and_true]
        rw [this]
        exact h
      · exact h.elim
    · exact h
  · exact h.elim
theorem ok_append (hty : TysOk P ty) {o : Oper} {c : Call} (ho : o.op = .call c) (hc : c.callee = .builtin .append) : OpOk P ty o := by
  intro ev ρ L σ K Q g w hev hw h
  unfold opR at h
  rw [ho] at h
  simp only [hc] at h
  split at h
  · rename_i t t' s x ht hx
    have ht := toArray2 ht
    have hx := toArray2 hx
    have hvs := hev s
    have hvx := hev x
    generalize ev s = as at h hvs
    generalize ev x = ax at h hvx
    have ht' : ((∃ e', P.underlying t' = some (.slice e')) ∨ P.underlying t' = some .string) ∧ (appendR0 ty σ L t as ax K).wp P Q := by
      split at h
      · rename_i i hi
        exact ⟨.inl ⟨_, (und_slice (hty.ok _ _ hi) rfl).1⟩, appendR_wp h⟩
      · rename_i i hi
        exact ⟨.inr (und_str (hty.ok _ _ hi) rfl), appendR_wp h⟩
      · exact h.elim
    clear h
    obtain ⟨ht', h⟩ := ht'
    have hrun : ∀ {v : Value} {w' : World}, (Builtin.append_ #[t, t'] o.type #[ρ s, ρ x]).run P w = .ok v w' → (execOp ρ o).run P w = .ok (.value v) w' := fun hr => by
      simp [execOp, ho, resolve, hc, ht, hx, invoke, builtin, hr]
    unfold appendR0 appendK at h
    split at h
    · rename_i e sz by_ u8 agg size zero kinds eqs flag hi
      obtain ⟨hu, ⟨ie, z, hie, rfl, hby, hz, hzs, hpos⟩, _⟩ := und_slice (hty.ok _ _ hi) rfl
      split at h
      · exact h.elim
      · rename_i m new hsrc
        split at h
        · -- nothing to append to
          obtain ⟨⟨n1, n2, n3, n4⟩, h⟩ := h
          simp only [lenK_eq, forceL_eq, Nat.zero_add] at h
          have es := hvs.lit
          obtain ⟨g1, h1, h2, h3, hμ⟩ := new_empty' hw none ie.size
          have hid : (σ ++ [.vec ie.size 0 []])[σ.length]? = some (.vec ie.size 0 []) := by simp
          have hax := h3.vr hvx
          have hsrc' : srcA (σ ++ [.vec ie.size 0 []]) ie.size ax = some (m, new) := srcA_push hsrc
          obtain ⟨news, k1, k2, k3⟩ := srcA_ok (P := P) h2 hax hsrc' n1
          obtain ⟨s', sz', m', cs', a', cap', f1, f2, f3, f4, f5, f6, f7, f8⟩ := h1
          rw [hid] at f2
          obtain ⟨rfl, rfl, rfl⟩ : ie.size = sz' ∧ 0 = m' ∧ ([] : List D) = cs' := by simpa using f2
          obtain rfl := f6 rfl
          obtain ⟨v, w', g', r1, r2, r3, r4, r5⟩ := append_vec (P := P) h2 (ty' := o.type) hid f1 hu ht' hie hz rfl hzs hpos k1 k2 k3 n1 (by rw [hby]; simpa using n2) (by simpa using n3) n4
          have hset : (σ ++ [Blk.vec ie.size 0 []]).set σ.length (.vec ie.size (0 + m) ([] ++ new)) = σ ++ [.vec ie.size m new] := by simp
          rw [hset] at r2 r3 r4
          simp only [Nat.zero_add] at r2
          refine OpSem.value (hrun (by rw [es]; exact r1)) ⟨g', _, _, r2, r3, h3.trans r4, ⟨fun i hi c b hc hb => ?_, fun i hi sz e cs h => push_get i _ h⟩, h⟩
          have hlt := (List.getElem?_eq_some_iff.1 hc).1
          have hne : σ.length ≠ i := by rw [← hw.len]; omega
          exact (r5 [i] (by simpa using hne)).heap i (by simp) c b (by rw [hμ i hlt]; exact hc) hb
        · rename_i id n
          cases hn : notIn L id with
          | false => simp only [hn, cond_false] at h; exact h.elim
          | true =>
            simp only [hn, cond_true] at h
            split at h
            · rename_i sz' n' cs hs
              obtain ⟨⟨rfl, rfl, n1, n2, n3, n4⟩, h⟩ := h
              simp only [forceL_eq] at h
              obtain ⟨news, k1, k2, k3⟩ := srcA_ok (P := P) hw hvx hsrc n1
              obtain ⟨s', sz', m', cs', a', cap', f1, f2, f3, f4, f5, f6, f7, f8⟩ := hvs
              rw [hs] at f2
              obtain ⟨rfl, rfl, rfl⟩ : ie.size = sz' ∧ n' = m' ∧ cs = cs' := by simpa using f2
              have e1 := f6 rfl
              obtain ⟨v, w', g', r1, r2, r3, r4, r5⟩ := append_vec (P := P) hw (ty' := o.type) hs f1 hu ht' hie hz rfl hzs hpos k1 k2 k3 n1 (by rw [hby]; exact n2) n3 n4
              exact OpSem.value (hrun (by rw [e1]; exact r1)) ⟨g', _, _, r2, r3, r4, r5 L (notIn_spec hn), h⟩
            · exact h.elim
        · rename_i id ep off n
          cases hn : notIn L id with
          | false => simp only [hn, cond_false] at h; exact h.elim
          | true =>
            simp only [hn, cond_true] at h
            split at h
            · rename_i sz' ep' cs hs
              obtain ⟨⟨rfl, rfl, rfl, n1, n2, n3, n4, n5⟩, h⟩ := h
              simp only [forceL_eq] at h
              obtain ⟨news, k1, k2, k3⟩ := srcA_ok (P := P) hw hvx hsrc n2
              obtain ⟨b, cap, sz0, e0, cs0, a, kk, hb, hs0, e, hnk, hna, hep, hcur⟩ := hvs
              rw [hs] at hs0
              obtain ⟨rfl, rfl, rfl⟩ : ie.size = sz0 ∧ ep' = e0 ∧ cs = cs0 := by simpa using hs0
              obtain ⟨hc1, hc2⟩ := hcur rfl
              obtain ⟨A, B⟩ := append_row (P := P) hw (ty' := o.type) (a := a) (k := kk) hs hb hu ht' hie hz rfl hzs hpos k1 k2 k3 hnk (by omega) hc2 hna n1 n2 (by rw [hby]; exact n3) n4 n5
              cases hf : Nat.ble ((n + m) * ie.size) cs.length with
              | true =>
                simp only [hf] at h
                obtain ⟨v, w', g', r1, r2, r3, r4, r5⟩ := A hf
                exact OpSem.value (hrun (by rw [e]; exact r1)) ⟨g', _, _, r2, r3, r4, r5 L (notIn_spec hn), h⟩
              | false =>
                simp only [hf] at h
                obtain ⟨v, w', g', r1, r2, r3, r4, r5⟩ := B hf
                exact OpSem.value (hrun (by rw [e]; exact r1)) ⟨g', _, _, r2, r3, r4, r5 L (notIn_spec hn), h⟩
            · exact h.elim
        · exact h.elim
    · exact h.elim
  · exact h.elim
theorem lits_drl0 {I : Facts} : ∀ l : List Value, DRL I (l.map .lit) l
  | [] => rfl
  | v :: r => ⟨v, r, rfl, rfl, lits_drl0 r⟩
theorem plainEq_one : ∀ {a b : Value}, plainEq a b = true → a.oneCell' = true := by
  intro a b h
  unfold plainEq at h
  split at h <;> first | rfl | (simp at h; done)
theorem plainsEq_one : ∀ {a b : List Value}, plainsEq a b = true → ∀ v ∈ a, v.oneCell' = true
  | [], _, _, v, hv => by simp at hv
  | _ :: _, [], h, _, _ => by simp [plainsEq] at h
  | a :: r, b :: s, h, v, hv => by
    simp only [plainsEq, Bool.and_eq_true] at h
    rcases List.mem_cons.1 hv with rfl | hv
    · exact plainEq_one h.1
    · exact plainsEq_one h.2 v hv
theorem zero_one {t : TypeId} {i : TyI} (h : tyB P t i = true) : ∀ v ∈ i.zero, v.oneCell' = true := by
  simp only [tyB, Bool.and_eq_true] at h
  cases hi : P.info? t with
  | none => simp [hi] at h
  | some inf =>
    cases hz : inf.zero with
    | none => simp [hi, hz] at h
    | some z =>
      simp only [hi, hz, Bool.and_eq_true] at h
      exact plainsEq_one h.1.1.1.2
theorem DRL.flat {I : Facts} {cs : List D} {vs : List Value} (h : DRL I cs vs) : ∀ n : Nat, DRL I (List.replicate n cs).flatten (List.replicate n vs).flatten
  | 0 => by simp [DRL]
  | n + 1 => by
    simp only [List.replicate_succ, List.flatten_cons]
    exact DRL.append h (DRL.flat h n)
theorem zeroCells_flat (z : Array Value) (n : Nat) : (Builtin.zeroCells z n).toList = (List.replicate n z.toList).flatten := by
  induction n with
  | zero => simp [Builtin.zeroCells]
  | succ n ih =>
    have e : (n + 1) * z.size = z.size + n * z.size := by rw [Nat.succ_mul, Nat.add_comm]
    simp only [Builtin.zeroCells, Array.toList_map, Array.toList_range] at ih ⊢
    rw [e, List.range_add, List.map_append, List.map_map, List.replicate_succ, List.flatten_cons, ← ih]
    congr 1
    · apply List.ext_getElem?
      intro j
      rcases Nat.lt_or_ge j z.size with h | h
      · simp [List.getElem?_map, List.getElem?_range h, Nat.mod_eq_of_lt h, h]
      · rw [List.getElem?_eq_none (by simpa using h), List.getElem?_eq_none (by simpa using h)]
    · apply List.map_congr_left
      intro i _
      simp
theorem ok_clear (hty : TysOk P ty) {o : Oper} {c : Call} (ho : o.op = .call c) (hc : c.callee = .builtin .clear) : OpOk P ty o := by
  intro ev ρ L σ K Q g w hev hw h
  unfold opR at h
  rw [ho] at h
  simp only [hc] at h
  split at h
  · rename_i t x ht hx
    have ht := toArray1 ht
    have hx := toArray1 hx
    have hv := hev x
    generalize ev x = ax at h hv
    unfold clearR at h
    split at h
    · rename_i e sz by_ u8 agg size zero kinds eqs flag id ep off n hi
      obtain ⟨hu, ⟨ie, z, hie, rfl, hby, hz, hzs, hpos⟩, _⟩ := und_slice (hty.ok _ _ hi) rfl
      split at h
      · rename_i je hje
        cases hn : notIn L id with
        | false => simp only [hn, cond_false] at h; exact h.elim
        | true =>
          simp only [hn, cond_true] at h
          split at h
          · rename_i sz' ep' cs hs
            cases hb1 : Nat.beq sz' ie.size && Nat.beq ep' ep && Nat.beq je.zero.length ie.size with
            | false => simp only [hb1, cond_false] at h; exact h.elim
            | true =>
              simp only [hb1, cond_true, forceL_eq] at h
              simp only [Bool.and_eq_true] at hb1
              obtain rfl := Nat.eq_of_beq_eq_true hb1.1.1
              obtain rfl := Nat.eq_of_beq_eq_true hb1.1.2
              have hzl := Nat.eq_of_beq_eq_true hb1.2
              obtain ⟨hfit, h⟩ := h
              obtain ⟨b, cap, sz0, e0, cs0, a, kk, hb, hs0, e', hnk, hna, hep, hcur⟩ := hv
              rw [hs] at hs0
              obtain ⟨rfl, rfl, rfl⟩ : ie.size = sz0 ∧ ep' = e0 ∧ cs = cs0 := by simpa using hs0
              obtain ⟨hc1, hc2⟩ := hcur rfl
              have hclr : ∀ {v : Value} {w' : World}, (Builtin.clear_ #[t] o.type #[.slice a n kk]).run P w = .ok v w' → (execOp ρ o).run P w = .ok (.value v) w' := fun hr => by
                simp [execOp, ho, resolve, hc, ht, hx, invoke, builtin, e', hr]
              have hlz : (List.replicate n (je.zero.map D.lit)).flatten.length = n * ie.size := by
                rw [List.length_flatten]
                simp [hzl]
              by_cases hn0 : n = 0
              · subst hn0
                have hset : σ.set id (.row ie.size ep' (cs.take off ++ (List.replicate 0 (je.zero.map D.lit)).flatten ++ cs.drop (off + 0 * ie.size))) = σ := by
                  simp only [List.replicate_zero, List.flatten_nil, List.append_nil, Nat.zero_mul, Nat.add_zero, List.take_append_drop]
                  apply List.ext_getElem?
                  intro j
                  by_cases e : id = j
                  · subst e; rw [List.getElem?_set_self (List.getElem?_eq_some_iff.1 hs).1, hs]
                  · rw [List.getElem?_set_ne e]
                rw [hset] at h
                refine OpSem.value (v := .tuple #[]) (w' := w) (hclr ?_) ⟨g, σ, .undef, True.intro, hw, Step.refl g σ w, Keep.refl g σ w L, h⟩
                cases a <;> simp [Builtin.clear_, run_underlying hu]
              · have hk0 : kk ≠ 0 := by omega
                have hcap : 0 < cap := by have := Nat.mul_pos (Nat.pos_of_ne_zero hk0) hpos; omega
                obtain ⟨arr, tt, k1, k2, k3, k4, k5, k6⟩ := row_cap hw hs hb hcap
                rcases hc2 with h0 | rfl
                · exact absurd h0 hk0
                obtain ⟨zi, zv, j1, j2, j3, j4⟩ := ty_info (hty.ok _ _ hje)
                obtain rfl : ie = zi := by rw [hie] at j1; exact Option.some.inj j1
                obtain rfl : z = zv := by rw [hz] at j3; exact Option.some.inj j3
                have hnd : DRL g.I (List.replicate n (je.zero.map D.lit)).flatten (Builtin.zeroCells z.cells n).toList := by
                  rw [zeroCells_flat, j4]
                  exact (lits_drl0 je.zero).flat n
                have hzv : (zeroValue e).run P w = .ok z w := by simp [zeroValue, typeInfo, hie, hz]
                have hone : ∀ v ∈ (Builtin.zeroCells z.cells n).toList, v.oneCell' = true := fun v hv => by
                  rw [zeroCells_flat, j4] at hv
                  simp only [List.mem_flatten, List.mem_replicate] at hv
                  obtain ⟨l, ⟨_, rfl⟩, hv⟩ := hv
                  exact zero_one (hty.ok _ _ hje) v hv
                have hlen : (Builtin.zeroCells z.cells n).toList.length = n * ie.size := by rw [hnd.length, hlz]
                have hst := run_storeCells_at P b off tt (Builtin.zeroCells z.cells n).toList 0 arr w k1 (by rw [hlen]; omega) hone
                simp only [Nat.add_zero] at hst
                obtain ⟨p1, p2⟩ := row_splice (off := off) k6 hnd (by rw [hlz]; exact hfit) (by omega)
                rw [hlz] at p1 p2
                obtain ⟨q1, q2, q3⟩ := row_turn hw hs hb hcap k1 _ (by
                  have h1 : arr.toList.length = cap := k2
                  show (arr.toList.take off ++ (Builtin.zeroCells z.cells n).toList ++ arr.toList.drop (off + (Builtin.zeroCells z.cells n).toList.length)).length = cap
                  simp only [List.length_append, List.length_take, List.length_drop, h1, hlen]
                  omega) (by rw [p1]; exact k3) p2 (Nat.le_refl _) k5
                refine OpSem.value (v := .tuple #[]) (hclr ?_) ⟨_, _, .undef, True.intro, q1, q2, q3 L (notIn_spec hn), h⟩
                obtain ⟨n, rfl⟩ : ∃ n', n = n' + 1 := ⟨n - 1, by omega⟩
                simp [Builtin.clear_, run_underlying hu, hzv, hst]
          · exact h.elim
      · exact h.elim
    · exact h.elim
  · exact h.elim

/-! ### calls -/
theorem AV.subL_eq (σ : Store) (ρ : Nat → Option Nat) : ∀ l, AV.subL σ ρ l = l.map (AV.sub σ ρ)
  | [] => by simp [AV.subL]
  | c :: cs => by simp [AV.subL, AV.subL_eq σ ρ cs]
def subG (g : Gh) (T : List Nat) : Gh := ⟨T.map fun i => match g.μ[i]? with | some c => c | none => .dead, g.I⟩
theorem sub_cpt {σ : Store} {g : Gh} {T : List Nat} (hT : ∀ i ∈ T, i < σ.length) (hl : g.μ.length = σ.length) {i j : Nat} (h : T[j]? = some i) : Cpt σ g (subS σ T) (subG g T) i j := by
  have hi : i < σ.length := hT i (List.mem_of_getElem? h)
  have hμ : (subG g T).μ[j]? = g.μ[i]? := by
    simp only [subG, List.getElem?_map, h, Option.map_some]
    rw [List.getElem?_eq_getElem (by omega)]
  have hσ : (subS σ T)[j]? = (σ[i]?).map (Blk.sub σ (idx T)) := by
    simp only [subS, List.getElem?_map, h, Option.map_some]
    rw [List.getElem?_eq_getElem hi]
    rfl
  refine ⟨fun b e => by rw [hμ]; exact e, fun b e => by rw [hμ]; exact e, fun b e => by rw [hμ]; exact e, fun s sz m cs e1 e2 => ⟨s, m, [], by rw [hμ]; exact e1, ?_, Nat.le_refl _, fun _ => rfl⟩, fun b cap sz e cs e1 e2 => ⟨b, cap, e, cs, by rw [hμ]; exact e1, ?_, Nat.le_refl _, fun _ => ⟨rfl, rfl⟩⟩, fun sn ep H e1 e2 => ⟨sn, ep, H, by rw [hμ]; exact e1, ?_, Nat.le_refl _, fun _ h => h, fun _ _ _ h => h⟩⟩
  rotate_right 1
  · rw [hσ, e2]
    simp [Blk.sub]
  · rw [hσ, e2]
    simp [Blk.sub]
  · rw [hσ, e2]
    simp [Blk.sub]
theorem BR.sub {σ g w σ' g'} {ρ : Nat → Option Nat} {x : Blk} {c : Cn} (hI : g'.I = g.I) (hc : ∀ i j, ρ i = some j → Cpt σ g σ' g' i j) (h : BR σ g w x c) : BR σ' g' w (x.sub σ ρ) c := by
  have hI' : ∀ a v, g.I a v → g'.I a v := fun a v h => by rw [hI]; exact h
  cases x with
  | var cs =>
    cases c with
    | var b =>
      obtain ⟨⟨arr, t, h1, h2⟩, h3⟩ := h
      exact ⟨⟨arr, t, h1, VRL.sub hI' hc _ _ h2⟩, by rw [hI]; exact h3⟩
    | _ => exact h.elim
  | vec sz m cs =>
    cases c with
    | vec s => unfold BR Blk.sub; rw [hI]; exact h
    | _ => exact h.elim
  | map es =>
    cases c with
    | map b => unfold BR Blk.sub; rw [hI]; exact h
    | _ => exact h.elim
  | row sz ep cs =>
    cases c with
    | row b cap => unfold BR Blk.sub; rw [hI]; exact h
    | _ => exact h.elim
  | iter s pos =>
    cases c with
    | iter b => unfold BR Blk.sub; rw [hI]; exact h
    | _ => exact h.elim
  | heap ep H =>
    cases c with
    | heap snap => unfold BR Blk.sub; rw [hI]; exact h
    | _ => exact h.elim
  | dead => exact True.intro
theorem WR.subS {g : Gh} {σ : Store} {w : World} (hw : WR g σ w) {T : List Nat} (hn : T.Nodup) (hT : ∀ i ∈ T, i < σ.length) : WR (subG g T) (subS σ T) w := by
  have get : ∀ {j : Nat} {c : Cn}, (subG g T).μ[j]? = some c → ∃ i, T[j]? = some i ∧ g.μ[i]? = some c := fun {j c} h => by
    simp only [subG, List.getElem?_map, Option.map_eq_some_iff] at h
    obtain ⟨i, hi, e⟩ := h
    have : i < g.μ.length := by rw [hw.len]; exact hT i (List.mem_of_getElem? hi)
    rw [List.getElem?_eq_getElem this] at e
    exact ⟨i, hi, by rw [List.getElem?_eq_getElem this]; exact congrArg some e⟩
  refine ⟨by simp [subG, Am.subS], fun j x c h1 h2 => ?_, hw.fact, fun i j c c' b h1 h2 h3 h4 => ?_, fun j c b h1 h2 => ?_, hw.glob⟩
  · obtain ⟨i, hi, hc⟩ := get h2
    simp only [Am.subS, List.getElem?_map, hi, Option.map_some] at h1
    have hlt : i < σ.length := hT i (List.mem_of_getElem? hi)
    rw [List.getElem?_eq_getElem hlt] at h1
    obtain rfl := Option.some.inj h1
    exact BR.sub (g := g) (g' := subG g T) rfl (fun i j e => sub_cpt hT hw.len (idx_some e)) (hw.blk i _ c (List.getElem?_eq_getElem hlt) hc)
  · obtain ⟨k, hk, e1⟩ := get h1
    obtain ⟨l, hl, e2⟩ := get h2
    obtain rfl := hw.dist k l c c' b e1 e2 h3 h4
    exact (List.getElem?_inj (List.getElem?_eq_some_iff.1 hk).1 hn).1 (hk.trans hl.symm)
  · obtain ⟨k, hk, e1⟩ := get h1
    exact hw.inb k c b e1 h2

def mergeGoG (T : List Nat) (μ1 : List Cn) : Nat → List Cn → List Cn
  | _, [] => []
  | i, b :: r => (match idx T i with | some j => (match μ1[j]? with | some c => c | none => .dead) | none => b) :: mergeGoG T μ1 (i + 1) r
def mergeG (g : Gh) (T : List Nat) (g1 : Gh) : Gh := ⟨mergeGoG T g1.μ 0 g.μ ++ g1.μ.drop T.length, g1.I⟩
theorem mergeGo_get (T : List Nat) (σ1 : Store) (n : Nat) : ∀ (σ : Store) (k i : Nat), (mergeGo T σ1 n k σ)[i]? = (σ[i]?).map fun b => match idx T (k + i) with | some j => (match σ1[j]? with | some c => c.sub σ1 (back T n) | none => .dead) | none => b
  | [], _, _ => by simp [mergeGo]
  | b :: r, k, 0 => by
    simp only [mergeGo, List.getElem?_cons_zero, Option.map_some, Nat.add_zero]
    cases idx T k with
    | none => rfl
    | some j => cases σ1[j]? <;> rfl
  | b :: r, k, i + 1 => by
    simp only [mergeGo, List.getElem?_cons_succ]
    rw [mergeGo_get T σ1 n r (k + 1) i, show k + 1 + i = k + (i + 1) from by omega]
theorem mergeGoG_get (T : List Nat) (μ1 : List Cn) : ∀ (μ : List Cn) (k i : Nat), (mergeGoG T μ1 k μ)[i]? = (μ[i]?).map fun b => match idx T (k + i) with | some j => (match μ1[j]? with | some c => c | none => .dead) | none => b
  | [], _, _ => by simp [mergeGoG]
  | b :: r, k, 0 => by
    simp only [mergeGoG, List.getElem?_cons_zero, Option.map_some, Nat.add_zero]
    try (cases idx T k with
    | none => rfl
    | some j => cases μ1[j]? <;> rfl)
  | b :: r, k, i + 1 => by
    simp only [mergeGoG, List.getElem?_cons_succ]
    rw [mergeGoG_get T μ1 r (k + 1) i, show k + 1 + i = k + (i + 1) from by omega]
theorem mergeGo_len (T : List Nat) (σ1 : Store) (n : Nat) : ∀ (σ : Store) (k : Nat), (mergeGo T σ1 n k σ).length = σ.length
  | [], _ => rfl
  | b :: r, k => by simp [mergeGo, mergeGo_len T σ1 n r (k + 1)]
theorem mergeGoG_len (T : List Nat) (μ1 : List Cn) : ∀ (μ : List Cn) (k : Nat), (mergeGoG T μ1 k μ).length = μ.length
  | [], _ => rfl
  | b :: r, k => by simp [mergeGoG, mergeGoG_len T μ1 r (k + 1)]

section merge
variable {g : Gh} {σ : Store} {w : World} {T : List Nat} {g1 : Gh} {σ1 : Store} {w1 : World}
/-- Where the parts of a merged store come from. -/
theorem merge_back (hw : WR g σ w) (hn : T.Nodup) (hT : ∀ i ∈ T, i < σ.length) (h1 : WR g1 σ1 w1) (hlen : T.length ≤ g1.μ.length) {i j : Nat} (h : back T σ.length j = some i) :
    (mergeG g T g1).μ[i]? = g1.μ[j]? ∧ (mergeS σ T σ1)[i]? = (σ1[j]?).map (Blk.sub σ1 (back T σ.length)) := by
  unfold back at h
  cases hb : Nat.blt j T.length with
  | true =>
    simp only [hb, cond_true] at h
    have hj : j < T.length := by simpa [Nat.blt_eq] using hb
    have hi := hT i (List.mem_of_getElem? h)
    have hx := idx_of_get hn h
    have hj1 : j < g1.μ.length := by omega
    have hj2 : j < σ1.length := by rw [← h1.len]; omega
    constructor
    · simp only [mergeG]
      rw [List.getElem?_append_left (by rw [mergeGoG_len, hw.len]; exact hi), mergeGoG_get, List.getElem?_eq_getElem (by rw [hw.len]; exact hi)]
      simp [hx, List.getElem?_eq_getElem hj1]
    · simp only [mergeS]
      rw [List.getElem?_append_left (by rw [mergeGo_len]; exact hi), mergeGo_get, List.getElem?_eq_getElem hi]
      simp [hx, List.getElem?_eq_getElem hj2]
  | false =>
    simp only [hb, cond_false, Option.some.injEq] at h
    have hj : T.length ≤ j := by
      rcases Nat.lt_or_ge j T.length with h' | h'
      · have : Nat.blt j T.length = true := by simpa [Nat.blt_eq] using h'
        rw [this] at hb; cases hb
      · exact h'
    subst h
    constructor
    · simp only [mergeG]
      rw [List.getElem?_append_right (by rw [mergeGoG_len, hw.len]; omega), mergeGoG_len, hw.len, List.getElem?_drop]
      congr 1
      omega
    · simp only [mergeS]
      rw [List.getElem?_append_right (by rw [mergeGo_len]; omega), mergeGo_len, List.getElem?_map, List.getElem?_drop]
      congr 2
      omega
theorem merge_kept (hw : WR g σ w) {i : Nat} (hi : i < σ.length) (hx : idx T i = none) : (mergeG g T g1).μ[i]? = g.μ[i]? ∧ (mergeS σ T σ1)[i]? = σ[i]? := by
  constructor
  · simp only [mergeG]
    rw [List.getElem?_append_left (by rw [mergeGoG_len, hw.len]; exact hi), mergeGoG_get, List.getElem?_eq_getElem (by rw [hw.len]; exact hi)]
    simp [hx]
  · simp only [mergeS]
    rw [List.getElem?_append_left (by rw [mergeGo_len]; exact hi), mergeGo_get, List.getElem?_eq_getElem hi]
    simp [hx]
theorem merge_src (hw : WR g σ w) (hn : T.Nodup) (hT : ∀ i ∈ T, i < σ.length) (h1 : WR g1 σ1 w1) (hlen : T.length ≤ g1.μ.length) {i : Nat} (hi : i < (mergeG g T g1).μ.length) :
    (∃ j, back T σ.length j = some i) ∨ (i < σ.length ∧ idx T i = none) := by
  rcases Nat.lt_or_ge i σ.length with h | h
  · cases hx : idx T i with
    | none => exact .inr ⟨h, rfl⟩
    | some j =>
      refine .inl ⟨j, ?_⟩
      have := idx_some hx
      have hj := (List.getElem?_eq_some_iff.1 this).1
      unfold back
      have hb : Nat.blt j T.length = true := by simpa [Nat.blt_eq] using hj
      rw [hb]
      exact this
  · refine .inl ⟨i - σ.length + T.length, ?_⟩
    unfold back
    have hb : Nat.blt (i - σ.length + T.length) T.length = false := by
      cases hb : Nat.blt (i - σ.length + T.length) T.length with
      | false => rfl
      | true => rw [Nat.blt_eq] at hb; omega
    rw [hb]
    simp
    omega
theorem back_inj (hn : T.Nodup) (hT : ∀ i ∈ T, i < σ.length) {i j j' : Nat} (h : back T σ.length j = some i) (h' : back T σ.length j' = some i) : j = j' := by
  unfold back at h h'
  cases hb : Nat.blt j T.length <;> cases hb' : Nat.blt j' T.length <;> simp only [hb, hb', cond_true, cond_false, Option.some.injEq] at h h'
  · have : ¬ j < T.length := by intro h; have : Nat.blt j T.length = true := by simpa [Nat.blt_eq] using h
                                rw [this] at hb; cases hb
    have : ¬ j' < T.length := by intro h; have : Nat.blt j' T.length = true := by simpa [Nat.blt_eq] using h
                                 rw [this] at hb'; cases hb'
    omega
  · have := hT i (List.mem_of_getElem? h')
    omega
  · have := hT i (List.mem_of_getElem? h)
    omega
  · exact (List.getElem?_inj (List.getElem?_eq_some_iff.1 h).1 hn).1 (h.trans h'.symm)

theorem merge_ok (hw : WR g σ w) (hn : T.Nodup) (hT : ∀ i ∈ T, i < σ.length) (h1 : WR g1 σ1 w1) (hs : Step (subG g T) (subS σ T) w g1 σ1 w1) :
    WR (mergeG g T g1) (mergeS σ T σ1) w1 ∧ Step g σ w (mergeG g T g1) (mergeS σ T σ1) w1 ∧ (∀ L : List Nat, (∀ i ∈ L, i ∉ T) → Keep g σ (mergeS σ T σ1) w w1 L) ∧
      ∀ x v, VR σ1 g1 x v → VR (mergeS σ T σ1) (mergeG g T g1) (x.sub σ1 (back T σ.length)) v := by
  have hlen : T.length ≤ g1.μ.length := by have := hs.len; simpa [subG] using this
  have cback : ∀ j i, back T σ.length j = some i → Cpt σ1 g1 (mergeS σ T σ1) (mergeG g T g1) j i := fun j i h => by
    obtain ⟨e1, e2⟩ := merge_back hw hn hT h1 hlen h
    refine ⟨fun b e => by rw [e1]; exact e, fun b e => by rw [e1]; exact e, fun b e => by rw [e1]; exact e, fun s sz m cs k1 k2 => ⟨s, m, [], by rw [e1]; exact k1, ?_, Nat.le_refl _, fun _ => rfl⟩, fun b cap sz e cs k1 k2 => ⟨b, cap, e, cs, by rw [e1]; exact k1, ?_, Nat.le_refl _, fun _ => ⟨rfl, rfl⟩⟩, fun sn ep H k1 k2 => ⟨sn, ep, H, by rw [e1]; exact k1, ?_, Nat.le_refl _, fun _ h => h, fun _ _ _ h => h⟩⟩
    rotate_right 1
    · rw [e2, k2]
      simp [Blk.sub]
    · rw [e2, k2]
      simp [Blk.sub]
    · rw [e2, k2]
      simp [Blk.sub]
  have back_idx : ∀ i j, idx T i = some j → back T σ.length j = some i := fun i j h => by
    have e := idx_some h
    have hj := (List.getElem?_eq_some_iff.1 e).1
    unfold back
    have hb : Nat.blt j T.length = true := by simpa [Nat.blt_eq] using hj
    rw [hb]
    exact e
  have call : ∀ i, i < g.μ.length → Cpt σ g (mergeS σ T σ1) (mergeG g T g1) i i := fun i hi => by
    cases hx : idx T i with
    | none =>
      obtain ⟨e1, e2⟩ := merge_kept (g1 := g1) (σ1 := σ1) hw (by rw [← hw.len]; exact hi) hx
      exact Cpt.same e1 e2
    | some j =>
      have hj := (List.getElem?_eq_some_iff.1 (idx_some hx)).1
      exact ((sub_cpt hT hw.len (idx_some hx)).trans (hs.cpt j (by simpa [subG] using hj))).trans (cback j i (back_idx i j hx))
  have subown : ∀ {j : Nat} {c : Cn}, (subG g T).μ[j]? = some c → ∃ i, T[j]? = some i ∧ g.μ[i]? = some c := fun {j c} h => by
    simp only [subG, List.getElem?_map, Option.map_eq_some_iff] at h
    obtain ⟨i, hi, e⟩ := h
    have : i < g.μ.length := by rw [hw.len]; exact hT i (List.mem_of_getElem? hi)
    rw [List.getElem?_eq_getElem this] at e
    exact ⟨i, hi, by rw [List.getElem?_eq_getElem this]; exact congrArg some e⟩
  -- an entry that isn't handed on: its block is none of the callee's
  have apart : ∀ {i : Nat} {c : Cn} {b : Nat}, idx T i = none → g.μ[i]? = some c → c.owns b → ∀ (j : Nat) c', (subG g T).μ[j]? = some c' → ¬ c'.owns b := fun {i c b} hx hc ho j c' h e => by
    obtain ⟨k, hk, e1⟩ := subown h
    obtain rfl := hw.dist i k c c' b hc e1 ho e
    rw [idx_of_get hn hk] at hx
    cases hx
  have same : ∀ {i : Nat} {c : Cn} {b : Nat}, idx T i = none → g.μ[i]? = some c → c.owns b → w1.heap[b]? = w.heap[b]? := fun {i c b} hx hc ho =>
    hs.same b (hw.inb i c b hc ho) (apart hx hc ho)
  have apart1 : ∀ {i : Nat} {c : Cn} {b : Nat}, idx T i = none → g.μ[i]? = some c → c.owns b → ∀ (j : Nat) c', g1.μ[j]? = some c' → ¬ c'.owns b := fun {i c b} hx hc ho j c' h e => by
    rcases hs.own j c' b h e with ⟨k, d, k1, k2⟩ | k
    · exact apart hx hc ho k d k1 k2
    · have := hw.inb i c b hc ho
      omega
  have src : ∀ {i : Nat} {c : Cn}, (mergeG g T g1).μ[i]? = some c → (∃ j, back T σ.length j = some i ∧ g1.μ[j]? = some c) ∨ (i < σ.length ∧ idx T i = none ∧ g.μ[i]? = some c) := fun {i c} h => by
    rcases merge_src hw hn hT h1 hlen (List.getElem?_eq_some_iff.1 h).1 with ⟨j, hj⟩ | ⟨hi, hx⟩
    · exact .inl ⟨j, hj, by rw [← (merge_back hw hn hT h1 hlen hj).1]; exact h⟩
    · exact .inr ⟨hi, hx, by rw [← (merge_kept (g1 := g1) (σ1 := σ1) hw hi hx).1]; exact h⟩
  refine ⟨⟨?_, fun i x c k1 k2 => ?_, h1.fact, fun i j c c' b k1 k2 k3 k4 => ?_, fun i c b k1 k2 => ?_, h1.glob⟩, ⟨hs.I, hs.size, fun b hb hno => hs.same b hb fun j c h e => ?_, hs.os, hs.tape, hs.output, call, ?_, fun i c b k1 k2 => ?_, fun a v ha => ?_⟩, fun L hL => ⟨fun i hi c b hc hb => ?_, fun i hi sz e cs h => ?_⟩, fun x v h => VR.sub (g := g1) (g' := mergeG g T g1) (fun _ _ h => h) cback x v h⟩
  · simp only [mergeG, mergeS, List.length_append, mergeGoG_len, mergeGo_len, List.length_map, List.length_drop, hw.len, h1.len]
  · rcases src k2 with ⟨j, hj, hc⟩ | ⟨hi, hx, hc⟩
    · rw [(merge_back hw hn hT h1 hlen hj).2] at k1
      simp only [Option.map_eq_some_iff] at k1
      obtain ⟨y, hy, rfl⟩ := k1
      exact BR.sub (g := g1) (g' := mergeG g T g1) rfl cback (h1.blk j y c hy hc)
    · rw [(merge_kept (g1 := g1) (σ1 := σ1) hw hi hx).2] at k1
      refine BR.keep (g := g) (g' := mergeG g T g1) hs.I call (fun b hb => same hx hc hb) (fun a v ha => ?_) (hw.blk i x c k1 hc)
      rcases hs.news a v ha with k | ⟨j, d, h2, h3⟩ | k
      · exact .inl k
      · exact .inr fun e => apart hx hc e j d h2 h3
      · refine .inr fun e => ?_
        have := hw.inb i c _ hc e
        omega
  · rcases src k1 with ⟨l, hl, hc⟩ | ⟨hi, hx, hc⟩ <;> rcases src k2 with ⟨l', hl', hc'⟩ | ⟨hi', hx', hc'⟩
    · obtain rfl := h1.dist l l' c c' b hc hc' k3 k4
      rw [hl] at hl'
      exact Option.some.inj hl'
    · exact absurd k3 (apart1 hx' hc' k4 l c hc)
    · exact absurd k4 (apart1 hx hc k3 l' c' hc')
    · exact hw.dist i j c c' b hc hc' k3 k4
  · rcases src k1 with ⟨l, hl, hc⟩ | ⟨hi, hx, hc⟩
    · exact h1.inb l c b hc k2
    · exact Nat.lt_of_lt_of_le (hw.inb i c b hc k2) hs.size
  · obtain ⟨i, _, hi⟩ := subown h
    exact hno i c hi e
  · simp [mergeG, mergeGoG_len]
  · rcases src k1 with ⟨l, hl, hc⟩ | ⟨hi, hx, hc⟩
    · rcases hs.own l c b hc k2 with ⟨j, d, h2, h3⟩ | k
      · obtain ⟨i, _, hi⟩ := subown h2
        exact .inl ⟨i, d, hi, h3⟩
      · exact .inr k
    · exact .inl ⟨i, c, hc, k2⟩
  · rcases hs.news a v ha with k | ⟨j, d, h2, h3⟩ | k
    · exact .inl k
    · obtain ⟨i, _, hi⟩ := subown h2
      exact .inr (.inl ⟨i, d, hi, h3⟩)
    · exact .inr (.inr k)
  · have hx : idx T i = none := idx_none (hL i hi)
    exact same hx hc hb
  · have hx : idx T i = none := idx_none (hL i hi)
    rw [(merge_kept (g1 := g1) (σ1 := σ1) hw (List.getElem?_eq_some_iff.1 h).1 hx).2, h]
end merge

theorem wp_call {f : FuncId} {args : List AV} {σ : Store} {L : List Nat} {k : AV → Store → Res} {Q : AExit → Fr → Store → Prop} (h : (Res.call f args σ L k).wp P Q) {g : Gh} {w : World} (hw : WR g σ w) {vs : List Value} (hv : VRL σ g args vs) :
    NextSem P (callFunc f vs.toArray) w fun v w' => ∃ g' σ' av, VR σ' g' av v ∧ WR g' σ' w' ∧ Step g σ w g' σ' w' ∧ Keep g σ σ' w w' L ∧ (k av σ').wp P Q := by
  obtain ⟨T, hn, hT, hc⟩ := h
  have hvs := VRL.sub (g := g) (g' := subG g T) (σ' := subS σ T) (ρ := idx T) (fun _ _ h => h) (fun i j e => sub_cpt hT hw.len (idx_some e)) _ _ hv
  refine (hc (subG g T) w vs (hw.subS hn hT) hvs).mono fun v w' ⟨g1, σ1, av, h2, h3, h4, hL, h5⟩ => ?_
  obtain ⟨m1, m2, m3, m4⟩ := merge_ok hw hn hT h3 h4
  refine ⟨_, _, _, m4 av v h2, m1, m2, ⟨fun i hi c b hc hb => ?_, fun i hi sz e cs hs => ?_⟩, h5⟩
  · rcases hL i hi with h | ⟨ep, H, H', e1, e2⟩
    · exact (m3 [i] (by simpa using h)).heap i (by simp) c b hc hb
    · have hbr := hw.blk i _ _ e1 hc
      cases c with
      | heap snap =>
        obtain ⟨sn', ep', H2, q1, q2, _, _, q3⟩ := (m2.cpt i (List.getElem?_eq_some_iff.1 hc).1).2.2.2.2.2 snap ep H hc e1
        rw [e2] at q2
        injection q2 with q2
        injection q2 with q2 q4
        have hbr' := m1.blk i _ _ e2 q1
        cases hsb : snap b with
        | none => exact absurd hsb hb
        | some o => rw [hbr.2.2.2 b o hsb, hbr'.2.2.2 b o (q3 q2 b o hsb)]
      | _ => exact hbr.elim
  · rcases hL i hi with h | ⟨ep, H, H', e1, e2⟩
    · exact (m3 [i] (by simpa using h)).row i (by simp) sz e cs hs
    · rw [hs] at e1; cases e1

theorem vrl_evs {σ : Store} {g : Gh} {ev : Operand → AV} {ρ : Operand → Value} (hev : ∀ x, VR σ g (ev x) (ρ x)) : ∀ l : List Operand, VRL σ g (l.map ev) (l.map ρ)
  | [] => rfl
  | x :: r => ⟨_, _, rfl, hev x, vrl_evs hev r⟩
theorem ok_call {o : Oper} {c : Call} {f : Operand} (ho : o.op = .call c) (hc : c.callee = .value f) : OpOk P ty o := by
  intro ev ρ L σ K Q g w hev hw h
  unfold opR at h
  rw [ho] at h
  simp only [hc] at h
  have hf := hev f
  split at h
  · rename_i fn caps e
    rw [e] at hf
    obtain ⟨vs, hf, hcaps⟩ := hf
    simp only [forceC_eq] at h
    have hv : VRL σ g (c.args.toList.map ev ++ caps) (c.args.toList.map ρ ++ vs) := (vrl_evs hev _).append hcaps
    have key := wp_call h hw hv
    have hrun : (execOp ρ o).run P w = (callFunc fn (c.args.toList.map ρ ++ vs).toArray).run P w := by
      have : (c.args.toList.map ρ ++ vs).toArray = c.args.map ρ ++ vs.toArray := by
        apply Array.ext'; simp
      simp [execOp, ho, resolve, hc, hf, Deferred.ofValue, invoke, this]
    unfold OpSem NextSem
    rw [hrun]
    have := key.mono fun v w' ⟨g', σ', av, k1, k2, k3, k4, k5⟩ => (⟨g', σ', av, k1, k2, k3, k4, by simpa [AV.force_eq] using k5⟩ : ∃ g' σ' av, VR σ' g' av v ∧ WR g' σ' w' ∧ Step g σ w g' σ' w' ∧ Keep g σ σ' w w' L ∧ (K av σ').wp P Q)
    exact this
  · rename_i name fst caps e
    rw [e] at hf
    have hf := hf.lit
    split at h <;> try exact h.elim
    rename_i t v e1 e2
    obtain ⟨g1, hm, h⟩ := h
    simp only [forceC_eq] at h
    have hv : VRL σ g (.d (.lit v) :: c.args.toList.map ev) (v :: c.args.toList.map ρ) := ⟨_, _, rfl, vr_lit _, vrl_evs hev _⟩
    have key := wp_call h hw hv
    have hfst : fst = #[.iface t v] := by cases fst; simp_all
    subst hfst
    have hrun : (execOp ρ o).run P w = (callFunc g1 (v :: c.args.toList.map ρ).toArray).run P w := by
      have := hm (c.args.map ρ) w
      have e3 : #[v] ++ c.args.map ρ = (v :: c.args.toList.map ρ).toArray := by apply Array.ext'; simp
      rw [e3] at this
      rw [← this]
      have e4 : (#[Value.iface t v] ++ c.args.map ρ).extract 1 (#[Value.iface t v] ++ c.args.map ρ).size = c.args.map ρ := by
        apply Array.ext'
        simp
        exact List.take_of_length_le (by simp)
      have e5 : (#[Value.iface t v] ++ c.args.map ρ)[0]? = some (.iface t v) := by
        rw [← Array.getElem?_toList]
        simp
      unfold execOp
      rw [ho]
      simp only [resolve, hc, hf, Deferred.ofValue, bind_pure_comp, pure_bind, invoke, e5, e4]
    unfold OpSem NextSem
    rw [hrun]
    have := key.mono fun v w' ⟨g', σ', av, k1, k2, k3, k4, k5⟩ => (⟨g', σ', av, k1, k2, k3, k4, by simpa [AV.force_eq] using k5⟩ : ∃ g' σ' av, VR σ' g' av v ∧ WR g' σ' w' ∧ Step g σ w g' σ' w' ∧ Keep g σ σ' w w' L ∧ (K av σ').wp P Q)
    exact this
  · exact h.elim
/-- A method called through an interface value. -/
theorem ok_invoke {o : Oper} {c : Call} {f : Operand} {name : String} (ho : o.op = .call c) (hc : c.callee = .invoke f name) : OpOk P ty o := by
  intro ev ρ L σ K Q g w hev hw h
  unfold opR at h
  rw [ho] at h
  simp only [hc] at h
  have hf := hev f
  split at h
  · rename_i t v e
    rw [e] at hf
    obtain ⟨u, hf, hu⟩ := hf
    have hu : u = v := hu
    subst hu
    obtain ⟨g1, hm, h⟩ := h
    simp only [forceC_eq] at h
    have hv : VRL σ g (.d (.lit u) :: c.args.toList.map ev) (u :: c.args.toList.map ρ) := ⟨_, _, rfl, vr_lit _, vrl_evs hev _⟩
    have key := wp_call h hw hv
    have hrun : (execOp ρ o).run P w = (callFunc g1 (u :: c.args.toList.map ρ).toArray).run P w := by
      have := hm (c.args.map ρ) w
      have e3 : #[u] ++ c.args.map ρ = (u :: c.args.toList.map ρ).toArray := by apply Array.ext'; simp
      rw [e3] at this
      rw [← this]
      have e4 : (#[Value.iface t u] ++ c.args.map ρ).extract 1 (#[Value.iface t u] ++ c.args.map ρ).size = c.args.map ρ := by
        apply Array.ext'
        simp
        exact List.take_of_length_le (by simp)
      have e5 : (#[Value.iface t u] ++ c.args.map ρ)[0]? = some (.iface t u) := by
        rw [← Array.getElem?_toList]
        simp
      unfold execOp
      rw [ho]
      simp only [resolve, hc, hf, pure_bind, invoke, e5, e4]
    unfold OpSem NextSem
    rw [hrun]
    have := key.mono fun v w' ⟨g', σ', av, k1, k2, k3, k4, k5⟩ => (⟨g', σ', av, k1, k2, k3, k4, by simpa [AV.force_eq] using k5⟩ : ∃ g' σ' av, VR σ' g' av v ∧ WR g' σ' w' ∧ Step g σ w g' σ' w' ∧ Keep g σ σ' w w' L ∧ (K av σ').wp P Q)
    exact this
  · exact h.elim
end Go.Am
