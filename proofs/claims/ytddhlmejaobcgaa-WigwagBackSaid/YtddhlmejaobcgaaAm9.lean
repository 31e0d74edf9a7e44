/- The abstract machine 'Am': literals of structs; operations that make or write memory. -/
import Derived.Test.YtddhlmejaobcgaaAm8
set_option linter.unusedVariables false
set_option linter.unusedSimpArgs false
namespace Go.Am
open Go
variable {P : Program} {ty : Tys}

/-! ### parts laid into cells -/
theorem foldl_set (new : List Value) : ∀ (off : Nat) (j : Nat) (arr : Array Value), off + j + new.length ≤ arr.size →
    ((new.zipIdx j).foldl (fun cs (p : Value × Nat) => cs.setIfInBounds (off + p.2) p.1) arr).toList = arr.toList.take (off + j) ++ new ++ arr.toList.drop (off + j + new.length) := by
  induction new with
  | nil => intro off j arr h; simp
  | cons x r ih =>
    intro off j arr h
    simp only [List.length_cons] at h
    simp only [List.zipIdx_cons, List.foldl_cons]
    rw [ih off (j + 1) _ (by simp; omega)]
    apply List.ext_getElem?
    intro k
    have hs : (off + j) < arr.toList.length := by simp; omega
    simp only [Array.toList_setIfInBounds, List.getElem?_append, List.length_take, List.length_set, List.length_append, List.length_cons, List.getElem?_take, List.getElem?_drop, List.getElem?_set, Array.length_toList]
    have e1 : min (off + (j + 1)) arr.size = off + j + 1 := by omega
    have e2 : min (off + j) arr.size = off + j := by omega
    simp only [e1, e2]
    rcases Nat.lt_trichotomy k (off + j) with hk | hk | hk
    · simp [hk, show k < off + j + 1 by omega, show k < off + (j + 1) by omega, show k < off + j + (r.length + 1) by omega, show k < off + j + 1 + r.length by omega, show off + j ≠ k by omega]
    · subst hk
      simp [show off + j < off + j + 1 by omega, show off + j < off + (j + 1) by omega, show off + j < off + j + 1 + r.length by omega, show off + j < arr.size by omega]
    · have h1 : ¬ k < off + j + 1 := by omega
      have h2 : ¬ k < off + j := by omega
      have h3 : k - (off + j) = (k - (off + j + 1)) + 1 := by omega
      by_cases hlt : k < off + j + 1 + r.length
      · simp [h1, h2, hlt, show k < off + j + (r.length + 1) by omega, h3]
      · have h4 : ¬ k < off + j + (r.length + 1) := by omega
        simp only [h1, h2, hlt, h4, if_false]
        have h5 : off + (j + 1) + r.length + (k - (off + j + 1 + r.length)) = k := by omega
        have h6 : off + j + (r.length + 1) + (k - (off + j + (r.length + 1))) = k := by omega
        simp [h5, h6, show off + j ≠ k by omega]
theorem fill_ok {σ : Store} {g : Gh} {place : Nat → Option (Nat × Nat)} : ∀ {parts : List (Nat × AV)} {vs : List (Nat × Value)} {cs cs' : List AV} {arr : Array Value},
    (parts.length = vs.length) → (∀ (k : Nat) (p : Nat × AV) (q : Nat × Value), parts[k]? = some p → vs[k]? = some q → p.1 = q.1 ∧ VR σ g p.2 q.2) → VRL σ g cs arr.toList → fillA place cs parts = some cs' →
    ∃ arr', Instr.fill place arr vs = some arr' ∧ VRL σ g cs' arr'.toList
  | [], [], cs, cs', arr, _, _, h, hf => by
    simp only [fillA, Option.some.injEq] at hf
    subst hf
    exact ⟨arr, rfl, h⟩
  | (i, v) :: rest, (i', u) :: r', cs, cs', arr, hl, hv, h, hf => by
    obtain ⟨rfl, hvu⟩ := hv 0 _ _ rfl rfl
    simp only [fillA, spine_eq] at hf
    simp only [Instr.fill]
    cases hp : place i with
    | none => simp [hp] at hf
    | some q =>
      obtain ⟨off, size⟩ := q
      simp only [hp] at hf ⊢
      cases hc : v.known && Nat.beq v.cells.length size && Nat.ble (off + size) cs.length with
      | false => simp [hc] at hf
      | true =>
        simp only [hc, cond_true] at hf
        simp only [Bool.and_eq_true] at hc
        have h1 := VR.cells hvu hc.1.1
        have h2 := Nat.eq_of_beq_eq_true hc.1.2
        have h3 := Nat.le_of_ble_eq_true hc.2
        have h4 := h1.length
        have h5 := h.length
        have hsz : u.cells.size = size := by rw [← h2, ← h4]; simp
        have hle : off + u.cells.size ≤ arr.size := by simp at h5; omega
        have hcond : ¬ ((decide (u.cells.size ≠ size) || decide (off + u.cells.size > arr.size)) = true) := by
          simp only [Bool.or_eq_true, decide_eq_true_eq]; omega
        rw [if_neg hcond]
        have hset := foldl_set u.cells.toList off 0 arr (by simpa using hle)
        refine fill_ok (by simpa using hl) (fun k p q hp hq => hv (k + 1) p q (by simpa using hp) (by simpa using hq)) ?_ hf
        have : (u.cells.zipIdx.foldl (fun cs (p : Value × Nat) => cs.setIfInBounds (off + p.2) p.1) arr).toList = arr.toList.take off ++ u.cells.toList ++ arr.toList.drop (off + u.cells.toList.length) := by
          rw [← Array.foldl_toList, Array.toList_zipIdx]
          simpa using hset
        rw [this]
        unfold splice
        rw [← h4]
        exact ((h.take off).append h1).append (h.drop _)
  | [], _ :: _, _, _, _, hl, _, _, _ => by simp at hl
  | _ :: _, [], _, _, _, hl, _, _, _ => by simp at hl
theorem VR.soft {σ : Store} {g : Gh} {x : AV} {v : Value} (h : VR σ g x v) : VR σ g x.soft v := by
  unfold AV.soft
  split
  · have e := h.lit
    exact ⟨none, 0, e, Nat.le_refl _, .inl rfl⟩
  · exact h
theorem VRL.soft {σ : Store} {g : Gh} : ∀ {l : List AV} {vs : List Value}, VRL σ g l vs → VRL σ g (l.map AV.soft) vs
  | [], _, h => h
  | _ :: _, _, ⟨v, r, e, h, k⟩ => ⟨v, r, e, h.soft, VRL.soft k⟩
theorem litCells_vrl {σ : Store} {g : Gh} : ∀ (l : List Value), VRL σ g (litCells l) l
  | [] => rfl
  | v :: r => ⟨v, r, rfl, vr_lit v, litCells_vrl r⟩
theorem zeroA_vrl {σ : Store} {g : Gh} (flag : Nat) (l : List Value) : VRL σ g (zeroA flag l) l := by
  unfold zeroA
  cases Nat.beq flag 1
  · exact litCells_vrl l
  · exact (litCells_vrl l).soft
theorem sizes_ok (hty : TysOk P ty) : ∀ {fs : List (Nat × TypeId)} {gs : List Field} {l : List (Nat × Nat)}, fieldsEq fs gs = true → sizes ty fs = some l →
    gs.mapM (fun f => (P.info? f.type).map fun i => (f.offset, i.size)) = some l
  | [], [], l, _, h => by simp only [sizes, Option.some.injEq] at h; subst h; rfl
  | (o, t) :: r, f :: s, l, hf, h => by
    simp only [fieldsEq, Bool.and_eq_true] at hf
    obtain rfl := Nat.eq_of_beq_eq_true hf.1.1.1
    obtain rfl := Nat.eq_of_beq_eq_true hf.1.1.2
    simp only [sizes] at h
    cases hi : ty.get f.type with
    | none => simp [hi] at h
    | some i =>
      cases hs : sizes ty r with
      | none => simp [hi, hs] at h
      | some l' =>
        simp only [hi, hs, Option.some.injEq] at h
        subst h
        obtain ⟨inf, z, h1, h2, _⟩ := ty_info (hty.ok _ _ hi)
        simp [List.mapM_cons, h1, h2, sizes_ok hty hf.2 hs]
  | [], _ :: _, _, hf, _ => by simp [fieldsEq] at hf
  | (_, _) :: _, [], _, hf, _ => by simp [fieldsEq] at hf
theorem parts_ok {σ : Store} {g : Gh} {ev : Operand → AV} {ρ : Operand → Value} (hev : ∀ x, VR σ g (ev x) (ρ x)) (parts : Array (Nat × Operand)) :
    (parts.toList.map fun p => (p.1, ev p.2)).length = (parts.map fun (i, x) => (i, ρ x)).toList.length ∧
    ∀ (k : Nat) (p : Nat × AV) (q : Nat × Value), (parts.toList.map fun p => (p.1, ev p.2))[k]? = some p → (parts.map fun (i, x) => (i, ρ x)).toList[k]? = some q → p.1 = q.1 ∧ VR σ g p.2 q.2 := by
  refine ⟨by simp, fun k p q hp hq => ?_⟩
  simp only [Array.toList_map, List.getElem?_map, Option.map_eq_some_iff] at hp hq
  obtain ⟨y, hy, rfl⟩ := hp
  obtain ⟨y', hy', rfl⟩ := hq
  rw [hy] at hy'
  obtain rfl := Option.some.inj hy'
  exact ⟨rfl, hev _⟩

theorem ok_build (hty : TysOk P ty) {o : Oper} {t : TypeId} {parts : Array (Nat × Operand)} (ho : o.op = .build t parts) : Quiet P ty o := by
  intro ev ρ L σ K Q g w hev hw h
  unfold opR at h
  rw [ho] at h
  simp only at h
  split at h
  · rename_i fields agg size zero kinds eqs flag hi
    split at h
    · rename_i l hs
      split at h
      · rename_i cs hc
        simp only [AV.force_eq] at h
        have hi' := hty.ok _ _ hi
        obtain ⟨gs, hu, hf, _⟩ := und_struct hi' rfl
        obtain ⟨inf, z, h1, h2, h3, h4⟩ := ty_info hi'
        have hz : VRL σ g (zeroA flag zero) z.cells.toList := by
          have : z.cells.toList = zero := h4
          rw [this]
          exact zeroA_vrl flag zero
        obtain ⟨p1, p2⟩ := parts_ok hev parts
        obtain ⟨arr, ha, hr⟩ := fill_ok p1 p2 hz hc
        have hb : P.built t (parts.map fun (i, x) => (i, ρ x)).toList = some arr := by
          simp only [Program.built, h1, hu, h3, sizes_ok hty hf hs]
          rw [← ha]
          congr 1
          funext i
          simp
        refine quiet_ok hw (v := .agg arr) (fun w' _ => ?_) (by have := VR.mkAgg hr; simpa using this) h
        simp [execOp, ho, run_build w' t _ arr hb]
      · exact h.elim
    · exact h.elim
  · rename_i n e sz agg size zero kinds eqs flag hi
    split at h
    · rename_i cs hc
      simp only [AV.force_eq] at h
      have hi' := hty.ok _ _ hi
      obtain ⟨hu, ie, hie, hsz⟩ := und_array hi' rfl
      obtain ⟨inf, z, h1, h2, h3, h4⟩ := ty_info hi'
      have hz : VRL σ g (zeroA flag zero) z.cells.toList := by
        have : z.cells.toList = zero := h4
        rw [this]
        exact zeroA_vrl flag zero
      obtain ⟨p1, p2⟩ := parts_ok hev parts
      obtain ⟨arr, ha, hr⟩ := fill_ok p1 p2 hz hc
      have hb : P.built t (parts.map fun (i, x) => (i, ρ x)).toList = some arr := by
        simp only [Program.built, h1, hu, h3, hie, hsz]
        exact ha
      refine quiet_ok hw (v := .agg arr) (fun w' _ => ?_) (by have := VR.mkAgg hr; simpa using this) h
      simp [execOp, ho, run_build w' t _ arr hb]
    · exact h.elim
  · exact h.elim
end Go.Am
