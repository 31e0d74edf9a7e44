/- The abstract machine 'Am': strings that are ranged over. -/
import Derived.Test.YtbjjimllnffcpaaGreatDoorAm20
set_option linter.unusedVariables false
set_option linter.unusedSimpArgs false
namespace Go.Am
open Go
variable {P : Program} {ty : Tys}

/-- A string's iterator is made. -/
theorem new_iter {g : Gh} {σ : Store} {w : World} (hw : WR g σ w) (s : ByteArray) :
    ∃ g', VR (σ ++ [.iter s 0]) g' (.iter σ.length) (.pointer (some ⟨w.heap.size, 0, none⟩)) ∧ WR g' (σ ++ [.iter s 0]) (w.alloc (.stringIter s 0)) ∧ Step g σ w g' (σ ++ [.iter s 0]) (w.alloc (.stringIter s 0)) := by
  obtain ⟨h1, h2⟩ := hw.alloc (.stringIter s 0)
  have hnew : (w.alloc (.stringIter s 0)).heap[w.heap.size]? = some (.stringIter s 0) := heap_alloc_new w _
  have hfree : ∀ b, (Cn.iter w.heap.size).owns = some b → b < (w.alloc (.stringIter s 0)).heap.size ∧ ∀ (i : Nat) c', g.μ[i]? = some c' → c'.owns ≠ some b := fun b hb => by
    obtain rfl : w.heap.size = b := by simpa [Cn.owns] using hb
    refine ⟨by simp, fun i c' hi e => ?_⟩
    have := hw.inb i c' _ hi e
    omega
  obtain ⟨h3, h4⟩ := h1.push (x := .iter s 0) (c := .iter w.heap.size) ⟨hnew, fun a v ha e => by
    have := World.block_lt_of_cell? w a (hw.fact a v ha)
    omega⟩ hfree
  refine ⟨_, ⟨w.heap.size, ?_, rfl⟩, h3, h2.push h4 fun b hb => ?_⟩
  · rw [← hw.len]; simp
  · obtain rfl : w.heap.size = b := by simpa [Cn.owns] using hb
    exact Nat.le_refl _
theorem ok_range (hty : TysOk P ty) {o : Oper} {t : TypeId} {x : Operand} (ho : o.op = .range t x) : OpOk P ty o := by
  intro ev ρ L σ K Q g w hev hw h
  unfold opR at h
  rw [ho] at h
  dsimp only at h
  have hx := hev x
  generalize ev x = ax at h hx
  split at h <;> try exact h.elim
  rename_i i s hi
  have hu := und_str (hty.ok _ _ hi) rfl
  have ex := hx.lit
  simp only [lenK_eq, forceL_eq, Nat.zero_add] at h
  obtain ⟨g', h1, h2, h3⟩ := new_iter hw s
  exact OpSem.value (v := .pointer (some ⟨w.heap.size, 0, none⟩)) (w' := w.alloc (.stringIter s 0)) (by simp [execOp, ho, Instr.range, run_underlying hu, ex, newObj, Sem.run]) ⟨g', _, _, h1, h2, h3, Keep.old hw (fun b hb => heap_alloc_old w _ hb) L, h⟩
theorem Cpt.of_iter {σ : Store} {g : Gh} {σ' : Store} {g' : Gh} {i b : Nat} (hb : g.μ[i]? = some (.iter b)) (hb' : g'.μ[i]? = some (.iter b)) : Cpt σ g σ' g' i i := by
  refine ⟨fun c h => ?_, fun c h => ?_, fun c h => ?_, fun s sz m cs h _ => ?_, fun b2 cap sz e cs h _ => ?_⟩
  rotate_right 1
  · rw [hb] at h; cases h
  · rw [hb] at h; cases h
  · rw [hb] at h; cases h
  · rw [hb] at h; rw [hb']; exact h
  · rw [hb] at h; cases h
theorem iter_turn {σ : Store} {g : Gh} {w : World} (hw : WR g σ w) {id b : Nat} {s : ByteArray} {pos pos' : Nat} (hs : σ[id]? = some (.iter s pos)) (hb : g.μ[id]? = some (.iter b))
    (hheap : w.heap[b]? = some (.stringIter s pos)) (hnotI : ∀ a v, g.I a v → a.block ≠ b) :
    ∃ g', WR g' (σ.set id (.iter s pos')) { w with heap := w.heap.setIfInBounds b (.stringIter s pos') } ∧ Step g σ w g' (σ.set id (.iter s pos')) { w with heap := w.heap.setIfInBounds b (.stringIter s pos') } ∧
      ∀ L, id ∉ L → Keep g σ (σ.set id (.iter s pos')) w { w with heap := w.heap.setIfInBounds b (.stringIter s pos') } L := by
  have hlt : b < w.heap.size := (Array.getElem?_eq_some_iff.1 hheap).1
  have hother : ∀ c, c ≠ b → (w.heap.setIfInBounds b (.stringIter s pos'))[c]? = w.heap[c]? := fun c hc => Array.getElem?_setIfInBounds_ne (Ne.symm hc)
  refine ⟨_, hw.turn (w' := { w with heap := w.heap.setIfInBounds b (.stringIter s pos') }) (x' := .iter s pos') (c' := .iter b) hs hb (J := g.I) (fun _ _ h => h)
    (fun a v ha => by
      rw [World.cell?_of_block (w := w) (hother a.block (hnotI a v ha))]
      exact hw.fact a v ha)
    (Cpt.of_iter hb (List.getElem?_set_self (List.getElem?_eq_some_iff.1 hb).1))
    (fun hall => ⟨by simp [hlt], hnotI⟩)
    (by simp) (fun b' hb' hne => hother b' (fun e => hne (by rw [e]; rfl))) (fun b' h' => .inl h') (fun a v ha => .inl ha) ⟨rfl, rfl, rfl⟩⟩
theorem ok_next (hty : TysOk P ty) {o : Oper} {it : Operand} {b : Bool} (ho : o.op = .next it b) : OpOk P ty o := by
  intro ev ρ L σ K Q g w hev hw h
  unfold opR at h
  rw [ho] at h
  cases b with
  | false => exact h.elim
  | true =>
    dsimp only at h
    have hx := hev it
    generalize ev it = ax at h hx
    split at h <;> try exact h.elim
    rename_i id
    cases hn : notIn L id with
    | false => simp only [hn, cond_false] at h; exact h.elim
    | true =>
      simp only [hn, cond_true] at h
      split at h <;> try exact h.elim
      rename_i s pos hs
      obtain ⟨b, hb, ex⟩ := hx
      obtain ⟨hheap, hnotI⟩ := hw.blk _ _ _ hs hb
      have hget : (getObj b).run P w = .ok (.stringIter s pos) w := by simp [getObj, Sem.run, hheap]
      by_cases hp : pos < s.size
      · simp only [Res.wp, hp, decide_true, forceL_eq] at h
        obtain ⟨g', k1, k2, k3⟩ := iter_turn (pos' := pos + (Utf8.decode s pos).2) hw hs hb hheap hnotI
        have hset : (setObj b (.stringIter s (pos + (Utf8.decode s pos).2))).run P w = .ok () { w with heap := w.heap.setIfInBounds b (.stringIter s (pos + (Utf8.decode s pos).2)) } := by simp [setObj, Sem.run, hheap]
        refine OpSem.value (v := .tuple #[.bool true, goInt pos, .int .i32 (Utf8.decode s pos).1]) (w' := { w with heap := w.heap.setIfInBounds b (.stringIter s (pos + (Utf8.decode s pos).2)) }) ?_
          ⟨g', _, _, ?_, k1, k2, k3 L (notIn_spec hn), h⟩
        · simp [execOp, ho, Instr.next, ex, hget, hp, hset]
        · exact ⟨[.bool true, goInt pos, .int .i32 (Utf8.decode s pos).1], rfl, _, _, rfl, vr_lit _, _, _, rfl, vr_lit _, _, _, rfl, vr_lit _, rfl⟩
      · simp only [Res.wp, hp, decide_false] at h
        refine OpSem.value (v := .tuple #[.bool false]) (w' := w) ?_ ⟨g, σ, _, ?_, hw, Step.refl g σ w, Keep.refl g σ w L, h⟩
        · simp [execOp, ho, Instr.next, ex, hget, hp]
        · exact ⟨[.bool false], rfl, _, _, rfl, vr_lit _, rfl⟩
end Go.Am
