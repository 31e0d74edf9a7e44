/- The abstract machine 'Am': strings that are ranged over. -/
import Derived.Test.YtddhlmejaobcgaaAm20
import Derived.Laws.IdiomRangeMap
set_option linter.unusedVariables false
set_option linter.unusedSimpArgs false
namespace Go.Am
open Go
variable {P : Program} {ty : Tys}

/-- A string's iterator is made. -/
theorem new_iter {g : Gh} {σ : Store} {w : World} (hw : WR g σ w) (s : ByteArray) :
    ∃ g', VR (σ ++ [.iter s 0]) g' (.iter σ.length) (.pointer (some ⟨w.heap.size, 0, none⟩)) ∧ WR g' (σ ++ [.iter s 0]) (w.alloc (.stringIter s 0)) ∧ Step g σ w g' (σ ++ [.iter s 0]) (w.alloc (.stringIter s 0)) := by
  obtain ⟨h1, h2⟩ := hw.alloc (.stringIter s 0)
  have hnew : (w.alloc (.stringIter s 0)).heap[w.heap.size]? = some (.stringIter s 0) := heap_alloc_new w _
  have hfree : ∀ b, (Cn.iter w.heap.size).owns b → b < (w.alloc (.stringIter s 0)).heap.size ∧ ∀ (i : Nat) c', g.μ[i]? = some c' → ¬ c'.owns b := fun b hb => by
    obtain rfl : w.heap.size = b := by simpa [Cn.owns] using hb
    refine ⟨by simp, fun i c' hi e => ?_⟩
    have := hw.inb i c' _ hi e
    omega
  obtain ⟨h3, h4⟩ := h1.push (x := .iter s 0) (c := .iter w.heap.size) ⟨hnew, fun a v ha e => by
    have := World.block_lt_of_cell? w a (hw.fact a v ha)
    omega⟩ hfree
  refine ⟨_, ⟨w.heap.size, ?_, rfl⟩, h3, h2.push h4 fun b hb => ?_⟩
  · rw [← hw.len]; simp
  · obtain rfl : w.heap.size = b := by simpa [Cn.owns] using hb
    exact Nat.le_refl _
theorem ok_range (hty : TysOk P ty) {o : Oper} {t : TypeId} {x : Operand} (ho : o.op = .range t x) : OpOk P ty o := by
  intro ev ρ L σ K Q g w hev hw h
  unfold opR at h
  rw [ho] at h
  dsimp only at h
  have hx := hev x
  generalize ev x = ax at h hx
  split at h <;> try exact h.elim
  rotate_left 1
  · rename_i hi
    split at h <;> try exact h.elim
    rename_i ep H r
    have hu := und_map (hty.ok _ _ hi) rfl
    have ex := hx.lit
    obtain ⟨H', ⟨es, c, hH, rfl⟩, h⟩ := h _ (heap_fresh hw (Nat.le_refl _))
    obtain ⟨k1, k2, k3⟩ := heap_hr hw hH
    have hget := run_getObj_map' (P := P) k1
    obtain ⟨g', q1, q2, q3⟩ := heap_new hw (.miter _ es [] c) (.mapIter (some _) c #[] c) ⟨c, heap_alloc_new w _, k3, Nat.le_refl _⟩
    exact OpSem.value (v := .pointer (some ⟨w.heap.size, 0, none⟩)) (w' := w.alloc (.mapIter (some _) c #[] c)) (by simp [execOp, ho, Instr.range, run_underlying hu, ex, hget, newObj, Sem.run]) ⟨g', _, _, vr_lit _, q1, q2, q3 L, h⟩
  rename_i i s hi
  have hu := und_str (hty.ok _ _ hi) rfl
  have ex := hx.lit
  simp only [lenK_eq, forceL_eq, Nat.zero_add] at h
  obtain ⟨g', h1, h2, h3⟩ := new_iter hw s
  exact OpSem.value (v := .pointer (some ⟨w.heap.size, 0, none⟩)) (w' := w.alloc (.stringIter s 0)) (by simp [execOp, ho, Instr.range, run_underlying hu, ex, newObj, Sem.run]) ⟨g', _, _, h1, h2, h3, Keep.old hw (fun b hb => heap_alloc_old w _ hb) L, h⟩
theorem Cpt.of_iter {σ : Store} {g : Gh} {σ' : Store} {g' : Gh} {i b : Nat} (hb : g.μ[i]? = some (.iter b)) (hb' : g'.μ[i]? = some (.iter b)) : Cpt σ g σ' g' i i := by
  refine ⟨fun c h => ?_, fun c h => ?_, fun c h => ?_, fun s sz m cs h _ => ?_, fun b2 cap sz e cs h _ => ?_, fun sn e3 H3 h _ => ?_⟩
  rotate_right 2
  · rw [hb] at h; cases h
  · rw [hb] at h; cases h
  · rw [hb] at h; cases h
  · rw [hb] at h; cases h
  · rw [hb] at h; rw [hb']; exact h
  · rw [hb] at h; cases h
theorem iter_turn {σ : Store} {g : Gh} {w : World} (hw : WR g σ w) {id b : Nat} {s : ByteArray} {pos pos' : Nat} (hs : σ[id]? = some (.iter s pos)) (hb : g.μ[id]? = some (.iter b))
    (hheap : w.heap[b]? = some (.stringIter s pos)) (hnotI : ∀ a v, g.I a v → a.block ≠ b) :
    ∃ g', WR g' (σ.set id (.iter s pos')) { w with heap := w.heap.setIfInBounds b (.stringIter s pos') } ∧ Step g σ w g' (σ.set id (.iter s pos')) { w with heap := w.heap.setIfInBounds b (.stringIter s pos') } ∧
      ∀ L, id ∉ L → Keep g σ (σ.set id (.iter s pos')) w { w with heap := w.heap.setIfInBounds b (.stringIter s pos') } L := by
  have hlt : b < w.heap.size := (Array.getElem?_eq_some_iff.1 hheap).1
  have hother : ∀ c, c ≠ b → (w.heap.setIfInBounds b (.stringIter s pos'))[c]? = w.heap[c]? := fun c hc => Array.getElem?_setIfInBounds_ne (Ne.symm hc)
  refine ⟨_, hw.turn (w' := { w with heap := w.heap.setIfInBounds b (.stringIter s pos') }) (x' := .iter s pos') (c' := .iter b) hs hb (J := g.I) (fun _ _ h => h)
    (fun a v ha => by
      rw [World.cell?_of_block (w := w) (hother a.block (hnotI a v ha))]
      exact hw.fact a v ha)
    (Cpt.of_iter hb (List.getElem?_set_self (List.getElem?_eq_some_iff.1 hb).1))
    (fun hall => ⟨by simp [hlt], hnotI⟩)
    (by simp) (fun b' hb' hne => hother b' (fun e => hne (by rw [e]; rfl))) (fun b' h' => .inl h') (fun a v ha => .inl ha) ⟨rfl, rfl, rfl⟩⟩
/-- A round goes on, in whatever order. -/
theorem run_next_heap (w : World) (tt : TypeId) (a b since c0 : Nat) (seen : Array Nat) (es : Array MapEntry) (clock : Nat) (ha : w.heap[a]? = some (.mapIter (some b) since seen c0)) (hb : w.heap[b]? = some (.map es clock))
    (hold : ∀ x ∈ es.toList, x.born < since) (hsc : since ≤ c0) :
    ((leftOf es seen).size = 0 ∧ (Instr.next (.pointer (some ⟨a, 0, none⟩)) false tt).run P w = .ok (.tuple #[.bool false]) w) ∨
    ∃ e ∈ (leftOf es seen).toList, ∃ w1 : World, (w1 = w ∨ w1 = w.drew) ∧ (Instr.next (.pointer (some ⟨a, 0, none⟩)) false tt).run P w = .ok (.tuple #[.bool true, e.key, e.val]) { w1 with heap := w.heap.setIfInBounds a (.mapIter (some b) since (seen.push e.born) clock) } := by
  simp only [Instr.next, getObj, Sem.run_bind, Sem.run, ha, hb, Result.andThen, next_test_false seen es since c0 hold hsc, Bool.false_eq_true, if_false]
  unfold leftOf
  have hmem : ∀ x ∈ (Array.filter (fun e => !seen.contains e.born) es).toList, x.born < since := fun x hx => hold x (by simp at hx ⊢; exact hx.1)
  generalize Array.filter (fun e => !seen.contains e.born) es = L at hmem ⊢
  have e1 : L.filter (fun x => decide (x.born < since)) = L := Array.filter_eq_self.2 (fun x hx => by simpa using hmem x (by simpa using hx))
  have e2 : L.filter (fun x => decide (x.born ≥ since)) = #[] := by
    rw [Array.filter_eq_empty_iff]
    intro x hx
    have := hmem x (by simpa using hx)
    simp
    omega
  simp only [e1, e2, Array.append_empty]
  by_cases h0 : L.size = 0
  · left
    have : L = #[] := Array.eq_empty_of_size_eq_zero h0
    subst this
    refine ⟨rfl, ?_⟩
    simp [choose, Sem.run, Question.forced]
  · right
    have hne : L.isEmpty = false := by simp [Array.isEmpty, h0]
    simp only [hne, Bool.false_eq_true, if_false, Array.empty_append, Array.size_map]
    have hch : ∃ (j : Nat) (w1 : World), j < L.size ∧ (w1 = w ∨ w1 = w.drew) ∧ (choose (Question.mapNext L.size)).run P w = .ok j w1 := by
      by_cases hf : L.size ≤ 1
      · exact ⟨0, w, by omega, .inl rfl, by simp [choose, Sem.run, Question.forced, hf]⟩
      · exact ⟨_, w.drew, Nat.mod_lt _ (by omega), .inr rfl, by
          simp only [choose, Sem.run, Question.forced, decide_eq_true_eq, hf, if_false, Question.cut]
          rfl⟩
    obtain ⟨j, w1, hj, hal, hrun⟩ := hch
    have hheap : w1.heap = w.heap := by rcases hal with rfl | rfl <;> rfl
    refine ⟨L[j], by simp, w1, hal, ?_⟩
    have hset : ∀ (o' : Obj), (setObj a o').run P w1 = .ok () { w1 with heap := w.heap.setIfInBounds a o' } := fun o' => by
      simp only [setObj, Sem.run]
      rw [hheap, ha]
    simp only [hrun, Array.getElem?_map, Array.getElem?_eq_getElem hj, Option.map_some, Sem.run_bind, hset, Result.andThen]
    rfl
theorem ok_next (hty : TysOk P ty) {o : Oper} {it : Operand} {b : Bool} (ho : o.op = .next it b) : OpOk P ty o := by
  intro ev ρ L σ K Q g w hev hw h
  unfold opR at h
  rw [ho] at h
  cases b with
  | false =>
    dsimp only at h
    have hx := hev it
    generalize ev it = ax at h hx
    split at h <;> try exact h.elim
    rename_i ep H r a
    have ex := hx.lit
    cases hn : notIn L 0 with
    | false => simp only [hn, cond_false] at h; exact h.elim
    | true =>
      simp only [hn, cond_true] at h
      have mem : ∀ {es : List (Int × Nat × Nat)} {seen : List Nat} {e : MapEntry}, e ∈ (leftOf (es.map mE).toArray seen.toArray).toList → ∃ x ∈ es, mE x = e ∧ x.2.2 ∉ seen := fun {es seen e} he => by
        unfold leftOf at he
        simp at he
        obtain ⟨⟨x, y, z, h1, h2⟩, h3⟩ := he
        refine ⟨(x, y, z), h1, h2, ?_⟩
        rw [← h2] at h3
        exact h3
      have mem' : ∀ {es : List (Int × Nat × Nat)} {seen : List Nat} {x : Int × Nat × Nat}, x ∈ es → x.2.2 ∉ seen → mE x ∈ (leftOf (es.map mE).toArray seen.toArray).toList := fun {es seen x} h1 h2 => by
        unfold leftOf
        simp
        exact ⟨⟨x.1, x.2.1, x.2.2, h1, rfl⟩, h2⟩
      have hold : ∀ {es : List (Int × Nat × Nat)} {since : Nat}, (∀ e ∈ es, e.2.2 < since) → ∀ x ∈ (es.map mE).toArray.toList, x.born < since := fun {es since} h x hx => by
        simp at hx
        obtain ⟨p, q, s, h1, rfl⟩ := hx
        exact h _ h1
      rcases h with ⟨⟨b, es, seen, c, hA, hB, hall⟩, h⟩ | ⟨⟨b, es, seen, c, hA, hB, e0, he0, hs0⟩, h⟩
      · obtain ⟨since, k1, k2, k3⟩ := heap_hr hw hA
        obtain ⟨m1, m2, m3⟩ := heap_hr hw hB
        rcases run_next_heap (P := P) w o.type a b since c _ _ c k1 m1 (hold k2) k3 with ⟨_, hr⟩ | ⟨e, he, _⟩
        · exact OpSem.value (v := .tuple #[.bool false]) (w' := w) (by simp [execOp, ho, ex, hr]) ⟨g, _, .tuple [.d (.lit (.bool false))], ⟨[.bool false], rfl, _, _, rfl, vr_lit _, rfl⟩, hw, Step.refl g _ w, Keep.refl g _ w L, h⟩
        · obtain ⟨x, h1, _, h3⟩ := mem he
          exact absurd (hall x h1) h3
      · obtain ⟨since, k1, k2, k3⟩ := heap_hr hw hA
        obtain ⟨m1, m2, m3⟩ := heap_hr hw hB
        rcases run_next_heap (P := P) w o.type a b since c _ _ c k1 m1 (hold k2) k3 with ⟨hz, _⟩ | ⟨e, he, w1, hw1, hr⟩
        · have hm := mem' he0 hs0
          have : (leftOf (es.map mE).toArray seen.toArray).toList = [] := List.eq_nil_of_length_eq_zero (by simpa using hz)
          rw [this] at hm
          cases hm
        · obtain ⟨x, h1, rfl, h3⟩ := mem he
          obtain ⟨H', ⟨b', es', seen', c', hA', hB', rfl⟩, h⟩ := h x.2.2 ⟨b, es, seen, c, hA, hB, h3, x, h1, rfl⟩
          rw [hA] at hA'
          obtain ⟨rfl, rfl, rfl, rfl⟩ : b = b' ∧ es = es' ∧ seen = seen' ∧ c = c' := by simpa using hA'
          have hlt : a < w.heap.size := (Array.getElem?_eq_some_iff.1 k1).1
          have hos : w1.os = w.os ∧ w1.tape = w.tape ∧ w1.output = w.output := by rcases hw1 with rfl | rfl <;> exact ⟨rfl, rfl, rfl⟩
          obtain ⟨g', q1, q2, q3⟩ := heap_put hw (b := a) (o' := .miter b es (seen ++ [x.2.2]) c) (w' := { w1 with heap := w.heap.setIfInBounds a (.mapIter (some b) since (seen.toArray.push (mE x).born) c) }) (by rw [hA]; simp)
            ⟨since, by
              show (w.heap.setIfInBounds a _)[a]? = _
              rw [Array.getElem?_setIfInBounds_self_of_lt hlt]
              simp [mE], k2, k3⟩
            (by simp) (fun a' ha => Array.getElem?_setIfInBounds_ne (Ne.symm ha)) hos
          exact OpSem.value (v := .tuple #[.bool true, (mE x).key, (mE x).val]) (w' := { w1 with heap := w.heap.setIfInBounds a (.mapIter (some b) since (seen.toArray.push (mE x).born) c) }) (by simp [execOp, ho, ex, hr])
            ⟨g', _, .tuple [.d (.lit (.bool true)), .undef, .undef], ⟨[.bool true, (mE x).key, (mE x).val], rfl, _, _, rfl, vr_lit _, _, _, rfl, True.intro, _, _, rfl, True.intro, rfl⟩, q1, q2, q3 L (notIn_spec hn), h⟩
  | true =>
    dsimp only at h
    have hx := hev it
    generalize ev it = ax at h hx
    split at h <;> try exact h.elim
    rename_i id
    cases hn : notIn L id with
    | false => simp only [hn, cond_false] at h; exact h.elim
    | true =>
      simp only [hn, cond_true] at h
      split at h <;> try exact h.elim
      rename_i s pos hs
      obtain ⟨b, hb, ex⟩ := hx
      obtain ⟨hheap, hnotI⟩ := hw.blk _ _ _ hs hb
      have hget : (getObj b).run P w = .ok (.stringIter s pos) w := by simp [getObj, Sem.run, hheap]
      by_cases hp : pos < s.size
      · simp only [Res.wp, hp, decide_true, forceL_eq] at h
        obtain ⟨g', k1, k2, k3⟩ := iter_turn (pos' := pos + (Utf8.decode s pos).2) hw hs hb hheap hnotI
        have hset : (setObj b (.stringIter s (pos + (Utf8.decode s pos).2))).run P w = .ok () { w with heap := w.heap.setIfInBounds b (.stringIter s (pos + (Utf8.decode s pos).2)) } := by simp [setObj, Sem.run, hheap]
        refine OpSem.value (v := .tuple #[.bool true, goInt pos, .int .i32 (Utf8.decode s pos).1]) (w' := { w with heap := w.heap.setIfInBounds b (.stringIter s (pos + (Utf8.decode s pos).2)) }) ?_
          ⟨g', _, _, ?_, k1, k2, k3 L (notIn_spec hn), h⟩
        · simp [execOp, ho, Instr.next, ex, hget, hp, hset]
        · exact ⟨[.bool true, goInt pos, .int .i32 (Utf8.decode s pos).1], rfl, _, _, rfl, vr_lit _, _, _, rfl, vr_lit _, _, _, rfl, vr_lit _, rfl⟩
      · simp only [Res.wp, hp, decide_false] at h
        refine OpSem.value (v := .tuple #[.bool false]) (w' := w) ?_ ⟨g, σ, _, ?_, hw, Step.refl g σ w, Keep.refl g σ w L, h⟩
        · simp [execOp, ho, Instr.next, ex, hget, hp]
        · exact ⟨[.bool false], rfl, _, _, rfl, vr_lit _, rfl⟩
/-- The entry that a round is at. -/
theorem ok_entry {o : Oper} {it : Operand} (ho : o.op = .entry it) : OpOk P ty o := by
  intro ev ρ L σ K Q g w hev hw h
  unfold opR at h
  rw [ho] at h
  dsimp only at h
  have hx := hev it
  generalize ev it = ax at h hx
  split at h <;> try exact h.elim
  rename_i ep H r a
  have ex := hx.lit
  obtain ⟨l, ⟨b, es, seen, c, e, hA, hB, he, rfl⟩, h⟩ := h
  simp only [AV.force_eq] at h
  obtain ⟨since, k1, k2, k3⟩ := heap_hr hw hA
  obtain ⟨m1, m2, m3⟩ := heap_hr hw hB
  have hf : (es.map mE).toArray.find? (·.born == e.2.2) = some (mE e) := by
    rw [← Array.find?_toList]
    exact find_born (mE e) (es.map mE) (by rw [List.map_map]; exact m2) (List.mem_map.2 ⟨e, he, rfl⟩)
  have hr : (Instr.entry (.pointer (some ⟨a, 0, none⟩))).run P w = .ok (.tuple #[.int .i64 e.1, .pointer (some ⟨e.2.1, 0, none⟩)]) w := by
    have hb : (seen ++ [e.2.2]).toArray.back? = some e.2.2 := by simp
    simp only [Instr.entry, getObj, Sem.run_bind, Sem.run, k1, m1, Result.andThen, hb, bne_self_eq_false, Bool.false_eq_true, if_false, hf]
    rfl
  exact OpSem.value (v := .tuple #[.int .i64 e.1, .pointer (some ⟨e.2.1, 0, none⟩)]) (w' := w) (by simp [execOp, ho, ex, hr])
    ⟨g, _, .tuple [.d (.lit (.int .i64 e.1)), .d (.lit (.pointer (some ⟨e.2.1, 0, none⟩)))], ⟨[.int .i64 e.1, .pointer (some ⟨e.2.1, 0, none⟩)], rfl, _, _, rfl, vr_lit _, _, _, rfl, vr_lit _, rfl⟩, hw, Step.refl g _ w, Keep.refl g _ w L, h⟩
end Go.Am
