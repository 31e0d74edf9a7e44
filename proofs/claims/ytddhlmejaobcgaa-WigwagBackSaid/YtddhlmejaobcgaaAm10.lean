/- The abstract machine 'Am': operations that make memory. -/
import Derived.Test.YtddhlmejaobcgaaAm9
set_option linter.unusedVariables false
set_option linter.unusedSimpArgs false
namespace Go.Am
open Go
variable {P : Program} {ty : Tys}

theorem BR.keep {σ g w σ' g' w'} {x : Blk} {c : Cn} (hI : ∀ a v, g.I a v → g'.I a v) (hc : ∀ i, i < g.μ.length → Cpt σ g σ' g' i i)
    (hh : ∀ b, c.owns b → w'.heap[b]? = w.heap[b]?) (hn : ∀ a v, g'.I a v → g.I a v ∨ ¬ c.owns a.block) (h : BR σ g w x c) : BR σ' g' w' x c := by
  cases x with
  | var cs =>
    cases c with
    | var b =>
      obtain ⟨⟨arr, t, h1, h2⟩, h3⟩ := h
      refine ⟨⟨arr, t, by rw [hh b rfl]; exact h1, VRL.mono hI hc _ _ h2⟩, fun a v ha e => ?_⟩
      rcases hn a v ha with k | k
      · exact h3 a v k e
      · exact k (by rw [e]; rfl)
    | _ => exact h.elim
  | vec sz m cs =>
    cases c with
    | vec s =>
      obtain ⟨h1, h2⟩ := h
      refine ⟨h1, h2.imp _root_.id fun ⟨b, cap, arr, t, e1, e2, e3, e4, e5, e6⟩ => ?_⟩
      have ho : (Cn.vec s).owns b := by rw [e1]; rfl
      refine ⟨b, cap, arr, t, e1, e2, by rw [hh b ho]; exact e3, e4, DRM.mono hI b 0 cs e5, fun a v ha e => ?_⟩
      rcases hn a v ha with k | k
      · exact e6 a v k e
      · exact absurd (by rw [e]; exact ho) k
    | _ => exact h.elim
  | row sz ep cs =>
    cases c with
    | row b cap =>
      obtain ⟨h1, h2⟩ := h
      refine ⟨h1, ?_⟩
      rcases Nat.eq_zero_or_pos cap with h0 | h0
      · exact .inl h0
      obtain ⟨cap, rfl⟩ : ∃ k, cap = k + 1 := ⟨cap - 1, by omega⟩
      refine h2.imp _root_.id fun ⟨⟨arr, t, vs, e1, e2, e3, e4⟩, e5⟩ => ⟨⟨arr, t, vs, by rw [hh b rfl]; exact e1, e2, DRL.mono hI _ _ e3, e4⟩, fun a v ha e => ?_⟩
      rcases hn a v ha with k | k
      · exact e5 a v k e
      · exact k (by rw [e]; rfl)
    | _ => exact h.elim
  | map ag es =>
    cases c with
    | map b =>
      obtain ⟨⟨arr, t, h1, h2⟩, h3⟩ := h
      refine ⟨⟨arr, t, by rw [hh b rfl]; exact h1, h2.mono hI⟩, fun a v ha e => ?_⟩
      rcases hn a v ha with k | k
      · exact h3 a v k e
      · exact k (by rw [e]; rfl)
    | _ => exact h.elim
  | heap ep H =>
    cases c with
    | heap snap =>
      obtain ⟨h1, h2, h3, h4⟩ := h
      refine ⟨h1, fun a o ho => (h2 a o ho).keep hI (hh a ((h1 a).2 (by rw [ho]; simp))), fun a v ha k => ?_, fun a o ho => by rw [hh a (show snap a ≠ none by rw [ho]; simp)]; exact h4 a o ho⟩
      rcases hn a v ha with j | j
      · exact h3 a v j k
      · exact j k
    | _ => exact h.elim
  | iter s pos =>
    cases c with
    | iter b =>
      obtain ⟨h1, h3⟩ := h
      refine ⟨by rw [hh b rfl]; exact h1, fun a v ha e => ?_⟩
      rcases hn a v ha with k | k
      · exact h3 a v k e
      · exact k (by rw [e]; rfl)
    | _ => exact h.elim
  | dead => exact True.intro

theorem heap_alloc_old (w : World) (o : Obj) {b : Nat} (h : b < w.heap.size) : (w.alloc o).heap[b]? = w.heap[b]? := Go.heap_alloc_old w o b h
theorem cell_alloc_old {w : World} {o : Obj} {a : Addr} {v : Value} (h : w.cell? a = some v) : (w.alloc o).cell? a = some v := by
  have hb := World.block_lt_of_cell? w a h
  rw [World.cell?_of_block (w := w) (heap_alloc_old w o hb)]
  exact h

/-- New memory, of which the cells are known for good. -/
theorem WR.grow {g : Gh} {σ : Store} {w : World} (hw : WR g σ w) (o : Obj) (J : Facts) (hJ : ∀ a v, g.I a v → J a v)
    (hnew : ∀ a v, J a v → g.I a v ∨ (a.block = w.heap.size ∧ (w.alloc o).cell? a = some v)) :
    WR ⟨g.μ, J⟩ σ (w.alloc o) ∧ Step g σ w ⟨g.μ, J⟩ σ (w.alloc o) := by
  have hcpt : ∀ i, i < g.μ.length → Cpt σ g σ ⟨g.μ, J⟩ i i := fun i hi =>
    Cpt.same rfl rfl
  refine ⟨⟨hw.len, fun i x c h1 h2 => ?_, fun a v h => ?_, hw.dist, fun i c b h1 h2 => ?_, hw.glob.mono hJ⟩, ⟨hJ, by simp, fun b hb _ => heap_alloc_old w o hb, rfl, rfl, rfl, hcpt, Nat.le_refl _, fun i c b h1 h2 => .inl ⟨i, c, h1, h2⟩, fun a v h => (hnew a v h).imp _root_.id fun k => .inr (Nat.le_of_eq k.1.symm)⟩⟩
  · refine (hw.blk i x c h1 h2).keep hJ hcpt (fun b hb => heap_alloc_old w o (hw.inb i c b h2 hb)) fun a v ha => ?_
    rcases hnew a v ha with k | ⟨k, _⟩
    · exact .inl k
    · refine .inr fun e => ?_
      have := hw.inb i c _ h2 e
      omega
  · rcases hnew a v h with k | ⟨_, k⟩
    · exact cell_alloc_old (hw.fact a v k)
    · exact k
  · have := hw.inb i c b h1 h2
    simp
    omega
theorem WR.alloc {g : Gh} {σ : Store} {w : World} (hw : WR g σ w) (o : Obj) : WR g σ (w.alloc o) ∧ Step g σ w g σ (w.alloc o) :=
  hw.grow o g.I (fun _ _ h => h) fun _ _ h => .inl h

/-- One entry more. -/
theorem WR.push {g : Gh} {σ : Store} {w : World} (hw : WR g σ w) {x : Blk} {c : Cn} (hx : BR (σ ++ [x]) ⟨g.μ ++ [c], g.I⟩ w x c)
    (hown : ∀ b, c.owns b → b < w.heap.size ∧ ∀ (i : Nat) c', g.μ[i]? = some c' → ¬ c'.owns b) :
    WR ⟨g.μ ++ [c], g.I⟩ (σ ++ [x]) w ∧ ∀ i, i < g.μ.length → Cpt σ g (σ ++ [x]) ⟨g.μ ++ [c], g.I⟩ i i := by
  have hcpt : ∀ i, i < g.μ.length → Cpt σ g (σ ++ [x]) ⟨g.μ ++ [c], g.I⟩ i i := fun i hi => by
    have hμ : (g.μ ++ [c])[i]? = g.μ[i]? := List.getElem?_append_left hi
    have hσ : (σ ++ [x])[i]? = σ[i]? := List.getElem?_append_left (by rw [← hw.len]; exact hi)
    exact Cpt.same hμ hσ
  have last : ∀ {i : Nat} {d : Cn}, (g.μ ++ [c])[i]? = some d → (i < g.μ.length ∧ g.μ[i]? = some d) ∨ (i = g.μ.length ∧ d = c) := fun {i d} h => by
    rcases Nat.lt_or_ge i g.μ.length with hi | hi
    · rw [List.getElem?_append_left hi] at h
      exact .inl ⟨hi, h⟩
    · rw [List.getElem?_append_right hi] at h
      have : i - g.μ.length = 0 := by
        have := (List.getElem?_eq_some_iff.1 h).1
        simpa using this
      rw [this] at h
      simp at h
      exact .inr ⟨by omega, h.symm⟩
  refine ⟨⟨by simp [hw.len], fun i y d h1 h2 => ?_, hw.fact, fun i j d d' b h1 h2 h3 h4 => ?_, fun i d b h1 h2 => ?_, hw.glob⟩, hcpt⟩
  · rcases last h2 with ⟨hi, h⟩ | ⟨rfl, rfl⟩
    · rw [List.getElem?_append_left (by rw [← hw.len]; exact hi)] at h1
      exact (hw.blk i y d h1 h).keep (g := g) (fun _ _ h => h) hcpt (fun _ _ => rfl) fun _ _ h => .inl h
    · rw [hw.len, List.getElem?_append_right (Nat.le_refl _)] at h1
      simp at h1
      subst h1
      exact hx
  · rcases last h1 with ⟨hi, k1⟩ | ⟨rfl, rfl⟩ <;> rcases last h2 with ⟨hj, k2⟩ | ⟨rfl, rfl⟩
    · exact hw.dist i j d d' b k1 k2 h3 h4
    · exact absurd h3 ((hown b h4).2 i d k1)
    · exact absurd h4 ((hown b h3).2 j d' k2)
    · rfl
  · rcases last h1 with ⟨hi, k1⟩ | ⟨rfl, rfl⟩
    · exact hw.inb i d b k1 h2
    · exact (hown b h2).1
theorem Step.push {g : Gh} {σ : Store} {w : World} {g0 : Gh} {σ0 : Store} {w0 : World} (h : Step g0 σ0 w0 g σ w) {x : Blk} {c : Cn} (hcpt : ∀ i, i < g.μ.length → Cpt σ g (σ ++ [x]) ⟨g.μ ++ [c], g.I⟩ i i)
    (hfresh : ∀ b, c.owns b → w0.heap.size ≤ b) : Step g0 σ0 w0 ⟨g.μ ++ [c], g.I⟩ (σ ++ [x]) w where
  I := h.I
  size := h.size
  same := h.same
  os := h.os
  tape := h.tape
  output := h.output
  cpt := fun i hi => (h.cpt i hi).trans (hcpt i (Nat.lt_of_lt_of_le hi h.len))
  len := by have := h.len; simp; omega
  own := fun i d b h1 h2 => by
    rcases Nat.lt_or_ge i g.μ.length with hi | hi
    · dsimp only at h1
      rw [List.getElem?_append_left hi] at h1
      exact h.own i d b h1 h2
    · dsimp only at h1
      rw [List.getElem?_append_right hi] at h1
      have : i - g.μ.length = 0 := by
        have := (List.getElem?_eq_some_iff.1 h1).1
        simpa using this
      rw [this] at h1
      simp at h1
      subst h1
      exact .inr (hfresh b h2)
  news := h.news
theorem Keep.old {g : Gh} {σ σ' : Store} {w w' : World} (hw : WR g σ w) (hold : ∀ b, b < w.heap.size → w'.heap[b]? = w.heap[b]?) (L : List Nat) (hσ : ∀ (i : Nat) (x : Blk), σ[i]? = some x → σ'[i]? = some x := by first | exact fun _ _ h => h | exact push_get | skip) : Keep g σ σ' w w' L :=
  ⟨fun i _ c b hc hb => hold b (hw.inb i c b hc hb), fun i _ sz e cs h => hσ i _ h⟩

/-- A variable is made. -/
theorem new_var {g : Gh} {σ : Store} {w : World} (hw : WR g σ w) {cs : List AV} {arr : Array Value} {t : TypeId} (h : VRL σ g cs arr.toList) :
    ∃ g', VR (σ ++ [.var cs]) g' (.ptr σ.length 0) (.pointer (some ⟨w.heap.size, 0, none⟩)) ∧ WR g' (σ ++ [.var cs]) (w.alloc (.cells arr t)) ∧ Step g σ w g' (σ ++ [.var cs]) (w.alloc (.cells arr t)) := by
  obtain ⟨h1, h2⟩ := hw.alloc (.cells arr t)
  have hnew : (w.alloc (.cells arr t)).heap[w.heap.size]? = some (.cells arr t (0, 0)) := heap_alloc_new w _
  have hfree : ∀ b, (Cn.var w.heap.size).owns b → b < (w.alloc (.cells arr t)).heap.size ∧ ∀ (i : Nat) c', g.μ[i]? = some c' → ¬ c'.owns b := fun b hb => by
    obtain rfl : w.heap.size = b := by simpa [Cn.owns] using hb
    refine ⟨by simp, fun i c' hi e => ?_⟩
    have := hw.inb i c' _ hi e
    omega
  have hcpt : ∀ i, i < g.μ.length → Cpt σ g (σ ++ [.var cs]) ⟨g.μ ++ [.var w.heap.size], g.I⟩ i i := fun i hi => by
    have hμ : (g.μ ++ [Cn.var w.heap.size])[i]? = g.μ[i]? := List.getElem?_append_left hi
    have hσ : (σ ++ [Blk.var cs])[i]? = σ[i]? := List.getElem?_append_left (by rw [← hw.len]; exact hi)
    exact Cpt.same hμ hσ
  obtain ⟨h3, h4⟩ := h1.push (x := .var cs) (c := .var w.heap.size) ⟨⟨arr, t, hnew, VRL.mono (g := g) (g' := ⟨g.μ ++ [.var w.heap.size], g.I⟩) (fun _ _ h => h) hcpt _ _ h⟩, fun a v ha e => by
    have := World.block_lt_of_cell? w a (hw.fact a v ha)
    omega⟩ hfree
  refine ⟨_, ⟨w.heap.size, ?_, rfl⟩, h3, h2.push h4 fun b hb => ?_⟩
  · rw [← hw.len]; simp
  · obtain rfl : w.heap.size = b := by simpa [Cn.owns] using hb
    exact Nat.le_refl _
/-- A row of which the cells may be written, without cells. -/
theorem new_mrow {g : Gh} {σ : Store} {w : World} (hw : WR g σ w) (sz : Nat) :
    ∃ g', g'.μ[σ.length]? = some (.row 0 0) ∧ WR g' (σ ++ [.row sz 0 []]) w ∧ Step g σ w g' (σ ++ [.row sz 0 []]) w := by
  obtain ⟨h3, h4⟩ := hw.push (x := .row sz 0 []) (c := .row 0 0) ⟨Nat.le_refl _, .inl rfl⟩ (fun b hb => by cases hb)
  exact ⟨_, by rw [← hw.len]; simp, h3, (Step.refl g σ w).push h4 fun b hb => by cases hb⟩
theorem rowCells_vrl {σ : Store} {g : Gh} {id sz : Nat} (hμ : g.μ[id]? = some (.row 0 0)) (hσ : σ[id]? = some (.row sz 0 [])) : ∀ {l : List AV} {vs : List Value}, VRL σ g l vs → VRL σ g (rowCells id l) vs
  | [], _, h => h
  | c :: r, _, ⟨v, vs, e, h, k⟩ => by
    unfold rowCells
    split
    · rename_i h0; cases h0
    · rename_i r' h0
      obtain ⟨rfl, rfl⟩ : c = .d (.lit (.slice none 0 0)) ∧ r = r' := by injection h0 with h1 h2; exact ⟨h1, h2⟩
      exact ⟨v, vs, e, ⟨0, 0, sz, 0, [], none, 0, hμ, hσ, h.lit, Nat.le_refl _, .inl rfl, Nat.le_refl _, fun _ => ⟨by omega, .inl rfl⟩⟩, k⟩
    · rename_i c' r' _ h0
      obtain ⟨rfl, rfl⟩ : c = c' ∧ r = r' := by injection h0 with h1 h2; exact ⟨h1, h2⟩
      exact ⟨v, vs, e, h, rowCells_vrl hμ hσ k⟩
theorem ok_alloc (hty : TysOk P ty) {o : Oper} {t : TypeId} (ho : o.op = .alloc t) : OpOk P ty o := by
  intro ev ρ L σ K Q g w hev hw h
  unfold opR at h
  rw [ho] at h
  simp only at h
  split at h
  · rename_i i hi
    obtain ⟨z, hz, hzl⟩ := run_zero (hty.ok _ _ hi) w
    cases hf : Nat.ble 100 i.flag with
    | true =>
      simp only [hf, cond_true, lenK_eq, forceC_eq, forceL_eq, Nat.zero_add] at h
      obtain ⟨g1, k1, k2, k3⟩ := new_mrow hw (i.flag - 100)
      have hv : VRL (σ ++ [.row (i.flag - 100) 0 []]) g1 (rowCells σ.length (litCells i.zero)) z.cells.toList := by
        rw [hzl]
        exact rowCells_vrl k1 (sz := i.flag - 100) (by simp) (litCells_vrl _)
      obtain ⟨g', h1, h2, h3⟩ := new_var k2 hv (t := t)
      have hl : (σ ++ [Blk.row (i.flag - 100) 0 []]).length = σ.length + 1 := by simp
      rw [hl, List.append_assoc] at h1
      rw [List.append_assoc] at h2 h3
      exact OpSem.value (v := .pointer (some ⟨w.heap.size, 0, none⟩)) (w' := w.alloc (.cells z.cells t)) (by simp [execOp, ho, Instr.alloc, hz, newVar, newRow]) ⟨g', _, _, h1, h2, k3.trans h3, Keep.old hw (fun b hb => heap_alloc_old w _ hb) L, h⟩
    | false =>
    simp only [hf, cond_false, lenK_eq, forceC_eq, forceL_eq, Nat.zero_add] at h
    have hv : VRL σ g (bif Nat.beq i.flag 1 then (litCells i.zero).map AV.soft else litCells i.zero) z.cells.toList := by
      rw [hzl]
      cases Nat.beq i.flag 1
      · exact litCells_vrl _
      · exact (litCells_vrl _).soft
    obtain ⟨g', h1, h2, h3⟩ := new_var hw hv (t := t)
    exact OpSem.value (v := .pointer (some ⟨w.heap.size, 0, none⟩)) (w' := w.alloc (.cells z.cells t)) (by simp [execOp, ho, Instr.alloc, hz, newVar, newRow]) ⟨g', _, _, h1, h2, h3, Keep.old hw (fun b hb => heap_alloc_old w _ hb) L, h⟩
  · exact h.elim
/-! ### rows -/
/-- New memory of which all cells are known for good: a literal of a slice. -/
theorem new_row {g : Gh} {σ : Store} {w : World} (hw : WR g σ w) {cs : List D} {arr : Array Value} {t : TypeId} (h : DRL g.I cs arr.toList) :
    ∃ J : Facts, DRM J w.heap.size 0 cs ∧ (∀ a v, J a v → g.I a v ∨ (a.block = w.heap.size ∧ a.off < arr.size)) ∧ WR ⟨g.μ, J⟩ σ (w.alloc (.cells arr t)) ∧ Step g σ w ⟨g.μ, J⟩ σ (w.alloc (.cells arr t)) := by
  have hcell : ∀ j, (w.alloc (.cells arr t)).cell? ⟨w.heap.size, j, none⟩ = arr.toList[j]? := fun j => by
    have hnew : (w.alloc (.cells arr t)).heap[w.heap.size]? = some (.cells arr t (0, 0)) := heap_alloc_new w _
    rw [cell_of_row _ _ _ _ _ _ hnew]
    simp
  let J : Facts := fun a v => g.I a v ∨ (∃ j, a = ⟨w.heap.size, j, none⟩ ∧ arr.toList[j]? = some v)
  obtain ⟨h1, h2⟩ := hw.grow (.cells arr t) J (fun _ _ h => .inl h) fun a v h => h.imp _root_.id fun ⟨j, e, hj⟩ => by
    subst e
    exact ⟨rfl, by rw [hcell]; exact hj⟩
  refine ⟨J, DRM.of_get fun j hj => ?_, fun a v h => h.imp _root_.id fun ⟨j, e, hj⟩ => (by subst e; exact ⟨rfl, by have := (List.getElem?_eq_some_iff.1 hj).1; simpa using this⟩), h1, h2⟩
  have hx : cs[j]? = some (rdD cs j) := by simp [rdD, List.getD_eq_getElem?_getD, List.getElem?_eq_getElem hj]
  obtain ⟨v, hv, hd⟩ := h.get hx
  exact ⟨v, .inr ⟨j, by simp, hv⟩, DR.mono (fun _ _ h => .inl h) _ _ hd⟩
theorem Array.range_zero : Array.range 0 = #[] := by
  apply Array.ext'
  simp
theorem undefs_vrl {σ : Store} {g : Gh} : ∀ (l : List Value), VRL σ g (List.replicate l.length .undef) l
  | [] => rfl
  | v :: r => ⟨v, r, rfl, True.intro, undefs_vrl r⟩

/-- A row of no elements. -/
theorem new_empty {g : Gh} {σ : Store} {w : World} (hw : WR g σ w) (a : Option Addr) (sz : Nat) :
    ∃ g', VR (σ ++ [.vec sz 0 []]) g' (.vec σ.length 0) (.slice a 0 0) ∧ WR g' (σ ++ [.vec sz 0 []]) w ∧ Step g σ w g' (σ ++ [.vec sz 0 []]) w := by
  obtain ⟨h3, h4⟩ := hw.push (x := .vec sz 0 []) (c := .vec (.slice a 0 0)) ⟨by simp, .inl ⟨a, rfl, rfl⟩⟩ (fun b hb => by cases a <;> cases hb)
  refine ⟨_, ⟨.slice a 0 0, sz, 0, [], a, 0, ?_, ?_, Nat.le_refl _, rfl, Nat.le_refl _, fun _ => rfl, by simp, .inl (by simp)⟩, h3, (Step.refl g σ w).push h4 (fun b hb => by cases a <;> cases hb)⟩
  · rw [← hw.len]; simp
  · simp
theorem new_empty' {g : Gh} {σ : Store} {w : World} (hw : WR g σ w) (a : Option Addr) (sz : Nat) :
    ∃ g', VR (σ ++ [.vec sz 0 []]) g' (.vec σ.length 0) (.slice a 0 0) ∧ WR g' (σ ++ [.vec sz 0 []]) w ∧ Step g σ w g' (σ ++ [.vec sz 0 []]) w ∧ ∀ i, i < g.μ.length → g'.μ[i]? = g.μ[i]? := by
  obtain ⟨h3, h4⟩ := hw.push (x := .vec sz 0 []) (c := .vec (.slice a 0 0)) ⟨by simp, .inl ⟨a, rfl, rfl⟩⟩ (fun b hb => by cases a <;> cases hb)
  refine ⟨_, ⟨.slice a 0 0, sz, 0, [], a, 0, ?_, ?_, Nat.le_refl _, rfl, Nat.le_refl _, fun _ => rfl, by simp, .inl (by simp)⟩, h3, (Step.refl g σ w).push h4 (fun b hb => by cases a <;> cases hb), fun i hi => List.getElem?_append_left hi⟩
  · rw [← hw.len]; simp
  · simp
theorem allD_length : ∀ {cs : List AV} {ds : List D}, allD cs = some ds → ds.length = cs.length
  | [], ds, h => by simp [allD] at h; subst h; rfl
  | c :: cs, ds, h => by
    cases c with
    | d x =>
      simp only [allD] at h
      cases hc : allD cs with
      | none => rw [hc] at h; cases h
      | some l =>
        rw [hc] at h
        obtain rfl : x :: l = ds := by simpa using h
        simp [allD_length hc]
    | _ => simp [allD] at h
theorem fill_length {place : Nat → Option (Nat × Nat)} : ∀ {parts : List (Nat × AV)} {cs cs' : List AV}, fillA place cs parts = some cs' → cs'.length = cs.length
  | [], cs, cs', h => by simp only [fillA, Option.some.injEq] at h; subst h; rfl
  | (i, v) :: rest, cs, cs', h => by
    simp only [fillA, spine_eq] at h
    cases hp : place i with
    | none => simp [hp] at h
    | some q =>
      obtain ⟨off, size⟩ := q
      simp only [hp] at h
      cases hc : v.known && Nat.beq v.cells.length size && Nat.ble (off + size) cs.length with
      | false => simp [hc] at h
      | true =>
        simp only [hc, cond_true] at h
        simp only [Bool.and_eq_true] at hc
        have h2 := Nat.eq_of_beq_eq_true hc.1.2
        have h3 := Nat.le_of_ble_eq_true hc.2
        rw [fill_length h]
        simp only [splice, List.length_append, List.length_take, List.length_drop]
        omega
theorem ok_buildSlice (hty : TysOk P ty) {o : Oper} {t : TypeId} {n : Nat} {parts : Array (Nat × Operand)} (ho : o.op = .buildSlice t n parts) : OpOk P ty o := by
  intro ev ρ L σ K Q g w hev hw h
  unfold opR at h
  rw [ho] at h
  simp only at h
  split at h
  · rename_i e sz by_ u8 agg size zero kinds eqs flag hi
    obtain ⟨hu, ⟨ie, z, hie, rfl, _, hz, hzs, hpos⟩, _⟩ := und_slice (hty.ok _ _ hi) rfl
    cases n with
    | zero =>
      simp only at h
      split at h
      · rename_i hp
        have hp : parts = #[] := by cases parts; simp_all
        simp only [lenK_eq, forceL_eq, Nat.zero_add] at h
        obtain ⟨h1, h2⟩ := hw.alloc (.cells #[] e)
        have key : (execOp ρ o).run P w = .ok (.value (.slice (some ⟨w.heap.size, 0, none⟩) 0 0)) (w.alloc (.cells #[] e)) := by
          simp [execOp, ho, Instr.buildSlice, run_underlying hu, sizeOf, typeInfo, hie, hp, Instr.fill, newRow, Array.range_zero]
        cases hf : Nat.beq flag 7 with
        | true =>
          simp only [hf, cond_true] at h
          obtain ⟨k1, k2⟩ := h1.push (x := .row ie.size 0 []) (c := .row w.heap.size 0) ⟨Nat.zero_le _, .inl rfl⟩ (fun b hb => by cases hb)
          have hmu : (g.μ ++ [Cn.row w.heap.size 0])[σ.length]? = some (.row w.heap.size 0) := by
            rw [← hw.len]; simp
          refine OpSem.value key ⟨_, _, .row σ.length 0 0 0, ⟨w.heap.size, 0, ie.size, 0, [], some ⟨w.heap.size, 0, none⟩, 0, hmu, by simp, rfl, Nat.le_refl _, .inl rfl, Nat.le_refl _, fun _ => ⟨by simp, .inl rfl⟩⟩, k1,
            h2.push k2 (fun b hb => by cases hb), Keep.old hw (fun b hb => heap_alloc_old w _ hb) L, h⟩
        | false =>
          simp only [hf, cond_false] at h
          obtain ⟨g', h3, h4, h5⟩ := new_empty h1 (some ⟨w.heap.size, 0, none⟩) ie.size
          exact OpSem.value key ⟨g', _, _, h3, h4, h2.trans h5, Keep.old hw (fun b hb => heap_alloc_old w _ hb) L, h⟩
      · exact h.elim
    | succ len =>
      simp only at h
      cases hle : Nat.ble ((len + 1) * ie.size) 16777216 with
      | false => simp only [hle, cond_false] at h; exact h.elim
      | true =>
        simp only [hle, cond_true] at h
        have hle := Nat.le_of_ble_eq_true hle
        split at h
        · rename_i cs hc
          split at h
          · rename_i ds hd
            obtain ⟨p1, p2⟩ := parts_ok hev parts
            have hz0 : ¬ ((len + 1) * ie.size = 0) := Nat.mul_ne_zero (by omega) (by omega)
            have hz' : (zeroValue e).run P w = .ok z w := by simp [zeroValue, typeInfo, hie, hz]
            obtain ⟨arr, ha, hr⟩ := fill_ok (arr := (Array.range ((len + 1) * ie.size)).map (z.cells[· % z.cells.size]!)) p1 p2 (by
              have := undefs_vrl (σ := σ) (g := g) ((Array.range ((len + 1) * ie.size)).map (z.cells[· % z.cells.size]!)).toList
              simpa using this) hc
            have hdl := (VRL.of_allD hd).1 hr
            have harr : arr.size = (len + 1) * ie.size := by
              have h1 := hdl.length
              have h2 := allD_length hd
              have h3 := fill_length hc
              simp at h1 h3
              omega
            obtain ⟨J, h1, hJ, h2, h3⟩ := new_row hw (t := e) hdl
            have key : (execOp ρ o).run P w = .ok (.value (.slice (some ⟨w.heap.size, 0, none⟩) (len + 1) (len + 1))) (w.alloc (.cells arr e)) := ?_
            · rcases h with h | h
              · exact OpSem.value key ⟨_, _, .d (.sl (len + 1) ds), ⟨_, _, rfl, Nat.le_refl _, .inr ⟨_, 0, rfl, h1⟩⟩, h2, h3, Keep.old hw (fun b hb => heap_alloc_old w _ hb) L, h⟩
              · simp only [lenK_eq, forceL_eq, Nat.zero_add] at h
                have hlen : (len + 1) * ie.size = ds.length := by
                  have := hdl.length
                  simp at this
                  omega
                have hnew : (w.alloc (.cells arr e)).heap[w.heap.size]? = some (.cells arr e (0, 0)) := heap_alloc_new w _
                obtain ⟨k1, k2⟩ := h2.push (x := .vec ie.size (len + 1) ds) (c := .vec (.slice (some ⟨w.heap.size, 0, none⟩) (len + 1) (len + 1)))
                  ⟨hlen, .inr ⟨w.heap.size, len, arr, e, rfl, Nat.le_refl _, hnew, harr, h1, fun a v ha hab => by
                    rcases hJ a v ha with h' | h'
                    · have := World.block_lt_of_cell? w a (hw.fact a v h')
                      omega
                    · rw [← harr]; exact h'.2⟩⟩
                  (fun b hb => by
                    obtain rfl : w.heap.size = b := by simpa [Cn.owns] using hb
                    refine ⟨by simp, fun i c' hi e => ?_⟩
                    have := hw.inb i c' _ hi e
                    omega)
                have hmu : (g.μ ++ [Cn.vec (.slice (some ⟨w.heap.size, 0, none⟩) (len + 1) (len + 1))])[σ.length]? = some (.vec (.slice (some ⟨w.heap.size, 0, none⟩) (len + 1) (len + 1))) := by
                  rw [← hw.len]; simp
                refine OpSem.value key ⟨_, _, .vec σ.length (len + 1), ⟨_, ie.size, len + 1, ds, _, _, hmu, by simp, Nat.le_refl _, rfl, Nat.le_refl _, fun _ => rfl, by omega, .inr ⟨_, 0, rfl, h1.take _⟩⟩, k1,
                  h3.push k2 (fun b hb => by
                    obtain rfl : w.heap.size = b := by simpa [Cn.owns] using hb
                    exact Nat.le_refl _), Keep.old hw (fun b hb => heap_alloc_old w _ hb) L, h⟩
            have hnot : ¬ ((len + 1) * ie.size > 2 ^ 24) := by omega
            have ha' : Instr.fill (fun i => some (i * ie.size, ie.size)) ((Array.range ((len + 1) * ie.size)).map (z.cells[· % z.cells.size]!)) (parts.toList.map fun x => (x.fst, ρ x.snd)) = some arr := by
              rw [← ha]; simp
            simp [execOp, ho, Instr.buildSlice, run_underlying hu, sizeOf, typeInfo, hie, hnot, hz0, hz', newRow, ha']
          · exact h.elim
        · exact h.elim
  · exact h.elim

/-- A row of zeros. -/
theorem ok_makeSlice (hty : TysOk P ty) {o : Oper} {t : TypeId} {l c : Operand} (ho : o.op = .makeSlice t l c) : OpOk P ty o := by
  intro ev ρ L σ K Q g w hev hw h
  unfold opR at h
  rw [ho] at h
  simp only at h
  split at h
  · rename_i e sz by_ u8 agg size zero kinds eqs flag n m hi e1 e2
    obtain ⟨hu, ⟨ie, z, hie, h1, h2, hz, hzs, hpos⟩, _⟩ := und_slice (hty.ok _ _ hi) rfl
    split at h
    · rename_i ie' hie'
      split at h
      · rename_i z0 hz0
        obtain ⟨⟨p1, rfl, rfl, p2, p3⟩, h⟩ := h
        have v1 := hev l
        have v2 := hev c
        rw [e1] at v1
        rw [e2] at v2
        have v1 := v1.lit
        have v2 := v2.lit
        obtain ⟨inf, z', k1, k2, k3, k4⟩ := ty_info (hty.ok _ _ hie')
        rw [hie] at k1
        obtain rfl := Option.some.inj k1
        rw [hz] at k3
        obtain rfl := Option.some.inj k3
        rw [hz0] at k4
        have hzc : z.cells = #[z0] := by
          apply Array.ext'
          simpa using k4
        have hn : ((n.toNat : Nat) : Int) = n := Int.toNat_of_nonneg (by omega)
        have harr : ((Array.range n.toNat).map fun j => z.cells[j % z.cells.size]!).toList = List.replicate n.toNat z0 := by
          rw [hzc]
          apply List.ext_getElem
          · simp
          · intro i h1 h2
            simp [Nat.mod_one]
        have hdl : DRL g.I (List.replicate n.toNat (.lit z0)) ((Array.range n.toNat).map fun j => z.cells[j % z.cells.size]!).toList := by
          rw [harr]
          clear hn harr p1 p2 p3 h v1 v2 e1 e2
          induction n.toNat with
          | zero => exact rfl
          | succ k ih => exact ⟨z0, _, rfl, rfl, ih⟩
        obtain ⟨J, q1, hJ, q2, q3⟩ := new_row hw (t := e) hdl
        have wl : IntKind.i64.wrap n = n := by rw [IntKind.wrap_i64]; omega
        have n1 : ¬ n < 0 := by omega
        have hb1 : ie.bytes = by_ := h2
        have n2 : ¬ (281474976710656 < (ie.bytes : Int) * n) := by rw [hb1, Int.mul_comm]; omega
        have n5 : ¬ (140737488355328 < n.toNat * ie.bytes) := by
          rw [hb1]
          have : ((n.toNat * by_ : Nat) : Int) = n * by_ := by rw [Int.natCast_mul, hn]
          omega
        have hn0 : ¬ n.toNat = 0 := by omega
        have key : (execOp ρ o).run P w = .ok (.value (.slice (some ⟨w.heap.size, 0, none⟩) n.toNat n.toNat)) (w.alloc (.cells ((Array.range n.toNat).map fun j => z.cells[j % z.cells.size]!) e)) := by
          simp [execOp, ho, v1, v2, Instr.makeSlice, run_underlying hu, asInt, asIntOf, typeInfo, hie, sizeOf, zeroValue, hz, wl, n1, n2, n5, hn0, h1, newRow, askRoom, roomBytes]
        cases hf : Nat.beq flag 7 with
        | false =>
          simp only [hf, cond_false] at h
          exact OpSem.value key ⟨_, _, .d (.sl n.toNat _), ⟨_, _, rfl, Nat.le_refl _, .inr ⟨_, 0, rfl, q1⟩⟩, q2, q3, Keep.old hw (fun b hb => heap_alloc_old w _ hb) L, h⟩
        | true =>
          simp only [hf, cond_true, lenK_eq, forceL_eq, Nat.zero_add] at h
          have hnew : (w.alloc (.cells ((Array.range n.toNat).map fun j => z.cells[j % z.cells.size]!) e)).heap[w.heap.size]? = some (.cells ((Array.range n.toNat).map fun j => z.cells[j % z.cells.size]!) e (0, 0)) := heap_alloc_new w _
          obtain ⟨m, hm⟩ : ∃ m, n.toNat = m + 1 := ⟨n.toNat - 1, by omega⟩
          obtain ⟨a1, a2⟩ := hw.alloc (.cells ((Array.range n.toNat).map fun j => z.cells[j % z.cells.size]!) e)
          obtain ⟨k1, k2⟩ := a1.push (x := .row 1 0 (List.replicate n.toNat (.lit z0))) (c := .row w.heap.size n.toNat)
            ⟨by simp, .inr ⟨⟨_, e, _, hnew, by simp, hdl, by rw [List.length_replicate]; exact List.take_of_length_le (by simp)⟩, fun a v ha hab => by
              have := World.block_lt_of_cell? w a (hw.fact a v ha)
              omega⟩⟩
            (fun b hb => by
              rw [hm] at hb
              obtain rfl : w.heap.size = b := by simpa [Cn.owns] using hb
              refine ⟨by simp, fun i c' hi e => ?_⟩
              have := hw.inb i c' _ hi e
              omega)
          have hmu : (g.μ ++ [Cn.row w.heap.size n.toNat])[σ.length]? = some (.row w.heap.size n.toNat) := by
            rw [← hw.len]; simp
          refine OpSem.value key ⟨_, _, .row σ.length 0 0 n.toNat, ⟨w.heap.size, n.toNat, 1, 0, List.replicate n.toNat (.lit z0), some ⟨w.heap.size, 0, none⟩, n.toNat, hmu, by simp, rfl, Nat.le_refl _, .inr (by simp), Nat.le_refl _, fun _ => ⟨by simp, .inr rfl⟩⟩, k1,
            a2.push k2 (fun b hb => by
              rw [hm] at hb
              obtain rfl : w.heap.size = b := by simpa [Cn.owns] using hb
              exact Nat.le_refl _), Keep.old hw (fun b hb => heap_alloc_old w _ hb) L, h⟩
      · exact h.elim
    · exact h.elim
  · exact h.elim
end Go.Am
