/- The abstract machine 'Am': operations that write memory: store, append, a variable that is frozen. -/
import Derived.Test.YtddhlmejaobcgaaAm10
set_option linter.unusedVariables false
set_option linter.unusedSimpArgs false
namespace Go.Am
open Go
variable {P : Program} {ty : Tys}

theorem one_oneCell {σ : Store} {g : Gh} {x : AV} {v : Value} (h : VR σ g x v) (ho : x.one = true) : v.oneCell' = true := by
  cases x with
  | d x =>
    cases x with
    | lit u =>
      have e : v = u := h
      subst e
      cases v <;> first | rfl | (simp [AV.one, D.one] at ho)
    | agg cs => simp [AV.one, D.one] at ho
    | sl n cs => obtain ⟨a, cap, e, r⟩ := h; subst e; rfl
    | box cs off => obtain ⟨a, cap, e, r⟩ := h; subst e; rfl
    | iface t y => obtain ⟨a, e, r⟩ := h; subst e; rfl
  | ptr id off => obtain ⟨b, _, e⟩ := h; subst e; rfl
  | vec id n => obtain ⟨s, sz, m, cs, a, cap, _, _, _, e, _⟩ := h; subst e; rfl
  | map id => obtain ⟨b, _, e⟩ := h; subst e; rfl
  | iter id => obtain ⟨b, _, e⟩ := h; subst e; rfl
  | win id off n => obtain ⟨b, cap, o, _, e, _⟩ := h; subst e; rfl
  | row id ep off n => obtain ⟨b, cap, sz, e', cs, a, k, _, _, e, _⟩ := h; subst e; rfl
  | cell id ep off => obtain ⟨b, cap, sz, e', cs, a, _, _, e, _⟩ := h; subst e; rfl
  | agg cs => simp [AV.one] at ho
  | tuple vs => simp [AV.one] at ho
  | fn f cs => obtain ⟨vs, e, k⟩ := h; subst e; rfl
  | undef => simp [AV.one] at ho
theorem D_oneCell {I : Facts} {x : D} {v : Value} (h : DR I x v) (ho : x.one = true) : v.oneCell' = true :=
  one_oneCell (σ := []) (g := ⟨[], I⟩) (x := .d x) h ho
theorem notIn_spec : ∀ {L : List Nat} {i : Nat}, notIn L i = true → i ∉ L
  | [], i, _ => by simp
  | j :: r, i, h => by
    simp only [notIn] at h
    cases hb : Nat.beq j i with
    | true => simp [hb] at h
    | false =>
      simp only [hb, cond_false] at h
      intro hm
      rcases List.mem_cons.1 hm with rfl | hm
      · rw [Nat.beq_refl] at hb; cases hb
      · exact notIn_spec h hm

/-- One entry turns; another block of its own may be written. -/
theorem WR.turn {g : Gh} {σ : Store} {w w' : World} (hw : WR g σ w) {id : Nat} {x x' : Blk} {c c' : Cn} (hx : σ[id]? = some x) (hc : g.μ[id]? = some c) {J : Facts}
    (hJ : ∀ a v, g.I a v → J a v) (hfact : ∀ a v, J a v → w'.cell? a = some v)
    (hcpt : Cpt σ g (σ.set id x') ⟨g.μ.set id c', J⟩ id id)
    (hbr : (∀ i, i < g.μ.length → Cpt σ g (σ.set id x') ⟨g.μ.set id c', J⟩ i i) → BR (σ.set id x') ⟨g.μ.set id c', J⟩ w' x' c')
    (hsize : w.heap.size ≤ w'.heap.size) (hsame : ∀ b, b < w.heap.size → ¬ c.owns b → w'.heap[b]? = w.heap[b]?)
    (hown : ∀ b, c'.owns b → c.owns b ∨ (w.heap.size ≤ b ∧ b < w'.heap.size))
    (hnew : ∀ a v, J a v → g.I a v ∨ c.owns a.block ∨ w.heap.size ≤ a.block) (hos : w'.os = w.os ∧ w'.tape = w.tape ∧ w'.output = w.output) :
    WR ⟨g.μ.set id c', J⟩ (σ.set id x') w' ∧ Step g σ w ⟨g.μ.set id c', J⟩ (σ.set id x') w' ∧ ∀ L, id ∉ L → Keep g σ (σ.set id x') w w' L := by
  have hid : id < g.μ.length := (List.getElem?_eq_some_iff.1 hc).1
  have hid' : id < σ.length := (List.getElem?_eq_some_iff.1 hx).1
  have hall : ∀ i, i < g.μ.length → Cpt σ g (σ.set id x') ⟨g.μ.set id c', J⟩ i i := fun i hi => by
    by_cases e : id = i
    · subst e; exact hcpt
    · have hμ : (g.μ.set id c')[i]? = g.μ[i]? := List.getElem?_set_ne e
      have hσ : (σ.set id x')[i]? = σ[i]? := List.getElem?_set_ne e
      exact Cpt.same hμ hσ
  have other : ∀ {i : Nat} {d : Cn}, id ≠ i → g.μ[i]? = some d → ∀ b, d.owns b → ¬ c.owns b := fun {i d} hne hd b hb e =>
    hne (hw.dist id i c d b hc hd e hb)
  have get : ∀ {i : Nat} {d : Cn}, (g.μ.set id c')[i]? = some d → (i = id ∧ d = c') ∨ (id ≠ i ∧ g.μ[i]? = some d) := fun {i d} h => by
    by_cases e : id = i
    · subst e
      rw [List.getElem?_set_self hid] at h
      exact .inl ⟨rfl, (Option.some.inj h).symm⟩
    · rw [List.getElem?_set_ne e] at h
      exact .inr ⟨e, h⟩
  refine ⟨⟨by simp [hw.len], fun i y d h1 h2 => ?_, hfact, fun i j d d' b h1 h2 h3 h4 => ?_, fun i d b h1 h2 => ?_, hw.glob.mono hJ⟩, ⟨hJ, hsize, fun b hb hno => hsame b hb (hno id c hc), hos.1, hos.2.1, hos.2.2, hall, by simp, fun i d b h1 h2 => ?_, fun a v ha => (hnew a v ha).imp _root_.id fun k => k.imp (fun k => ⟨id, c, hc, k⟩) _root_.id⟩, fun L hL => ⟨fun i hi d b hd hb => ?_, fun i hi sz e cs h => ?_⟩⟩
  · rcases get h2 with ⟨rfl, rfl⟩ | ⟨hne, h⟩
    · rw [List.getElem?_set_self hid'] at h1
      obtain rfl := Option.some.inj h1
      exact hbr hall
    · rw [List.getElem?_set_ne hne] at h1
      refine (hw.blk i y d h1 h).keep hJ hall (fun b hb => hsame b (hw.inb i d b h hb) (other hne h b hb)) fun a v ha => ?_
      rcases hnew a v ha with k | k | k
      · exact .inl k
      · exact .inr fun e => other hne h _ e k
      · exact .inr fun e => by have := hw.inb i d _ h e; omega
  · rcases get h1 with ⟨rfl, rfl⟩ | ⟨hne, k1⟩ <;> rcases get h2 with ⟨rfl, rfl⟩ | ⟨hne', k2⟩
    · rfl
    · rcases hown b h3 with e | ⟨e, _⟩
      · exact absurd e (other hne' k2 b h4)
      · have := hw.inb j d' b k2 h4; omega
    · rcases hown b h4 with e | ⟨e, _⟩
      · exact absurd e (other hne k1 b h3)
      · have := hw.inb i d b k1 h3; omega
    · exact hw.dist i j d d' b k1 k2 h3 h4
  · rcases get h1 with ⟨rfl, rfl⟩ | ⟨hne, k1⟩
    · rcases hown b h2 with e | ⟨_, e⟩
      · have := hw.inb _ c b hc e; omega
      · exact e
    · have := hw.inb i d b k1 h2; omega
  · rcases get h1 with ⟨rfl, rfl⟩ | ⟨hne, k1⟩
    · rcases hown b h2 with e | ⟨e, _⟩
      · exact .inl ⟨_, c, hc, e⟩
      · exact .inr e
    · exact .inl ⟨i, d, k1, h2⟩
  · have hne : id ≠ i := fun e => hL (e ▸ hi)
    exact hsame b (hw.inb i d b hd hb) (other hne hd b hb)
  · have hne : id ≠ i := fun e => hL (e ▸ hi)
    rw [List.getElem?_set_ne hne, h]

theorem Cpt.of_var {σ : Store} {g : Gh} {σ' : Store} {g' : Gh} {i b : Nat} (hb : g.μ[i]? = some (.var b)) (hb' : g'.μ[i]? = some (.var b)) : Cpt σ g σ' g' i i := by
  refine ⟨fun c h => ?_, fun c h => ?_, fun c h => ?_, fun s sz m cs h _ => ?_, fun b cap sz e cs h _ => ?_, fun sn e3 H3 h _ => ?_⟩
  · rw [hb] at h; rw [hb']; exact h
  · rw [hb] at h; cases h
  · rw [hb] at h; cases h
  · rw [hb] at h; cases h
  · rw [hb] at h; cases h
  · rw [hb] at h; cases h
theorem splice_vrl {σ : Store} {g : Gh} {cs new : List AV} {arr : Array Value} {vs : List Value} (h : VRL σ g cs arr.toList) (hn : VRL σ g new vs) (off : Nat) :
    VRL σ g (splice cs off new) (arr.toList.take off ++ vs ++ arr.toList.drop (off + vs.length)) := by
  unfold splice
  rw [← hn.length]
  exact ((h.take off).append hn).append (h.drop _)

/-- A row of which cells were written; where its number of moves stays, it is where it was. -/
theorem row_turn {g : Gh} {σ : Store} {w : World} (hw : WR g σ w) {id b cap sz ep : Nat} {cs : List D} (hs : σ[id]? = some (.row sz ep cs)) (hb : g.μ[id]? = some (.row b cap)) (hcap : 0 < cap)
    {arr : Array Value} {tt : TypeId} (h1 : w.heap[b]? = some (.cells arr tt (0, 0))) (arr' : Array Value) (hsz : arr'.size = cap) {ep' : Nat} {cs' : List D} (hl : cs'.length ≤ cap) (hd : DRL g.I cs' (arr'.toList.take cs'.length)) (hep : ep ≤ ep')
    (hI : ∀ a v, g.I a v → a.block ≠ b) :
    WR ⟨g.μ.set id (.row b cap), g.I⟩ (σ.set id (.row sz ep' cs')) (w.setRow b arr') ∧ Step g σ w ⟨g.μ.set id (.row b cap), g.I⟩ (σ.set id (.row sz ep' cs')) (w.setRow b arr') ∧ ∀ L, id ∉ L → Keep g σ (σ.set id (.row sz ep' cs')) w (w.setRow b arr') L := by
  have hid : id < g.μ.length := (List.getElem?_eq_some_iff.1 hb).1
  have hid' : id < σ.length := (List.getElem?_eq_some_iff.1 hs).1
  refine hw.turn (x' := .row sz ep' cs') (c' := .row b cap) hs hb (J := g.I) (fun _ _ h => h)
    (fun a v ha => by
      rw [World.cell?_of_block (w := w) (setRow_other w b a.block _ (hI a v ha))]
      exact hw.fact a v ha)
    (by
      refine ⟨fun c h => ?_, fun c h => ?_, fun c h => ?_, fun s sz m cs' h1 h2 => ?_, fun b2 cap2 sz2 e2 cs2 h1 h2 => ?_, fun sn e3 H3 h _ => ?_⟩
      rotate_right 1
      · rw [hb] at h; cases h
      · rw [hb] at h; cases h
      · rw [hb] at h; cases h
      · rw [hb] at h; cases h
      · rw [hb] at h1; cases h1
      · rw [hb] at h1
        rw [hs] at h2
        obtain ⟨rfl, rfl⟩ : b = b2 ∧ cap = cap2 := by simpa using h1
        obtain ⟨rfl, rfl, rfl⟩ : sz = sz2 ∧ ep = e2 ∧ cs = cs2 := by simpa using h2
        exact ⟨b, cap, ep', cs', List.getElem?_set_self hid, List.getElem?_set_self hid', hep, fun _ => ⟨rfl, rfl⟩⟩)
    (fun hall => ⟨hl, .inr ⟨⟨arr', tt, _, setRow_heap w b arr _ tt (0, 0) h1, hsz, hd, rfl⟩, hI⟩⟩)
    (by simp [World.setRow]) (fun b' hb' hne => setRow_other w b b' _ (fun e => hne (by rw [e]; obtain ⟨c, rfl⟩ : ∃ c, cap = c + 1 := ⟨cap - 1, by omega⟩; rfl))) (fun b' h' => .inl h') (fun a v ha => .inl ha) ⟨rfl, rfl, rfl⟩
theorem DRL.append' {I : Facts} : ∀ {cs ds : List D} {vs us : List Value}, DRL I cs vs → DRL I ds us → DRL I (cs ++ ds) (vs ++ us)
  | [], _, _, _, h, k => by rw [DRL] at h; subst h; exact k
  | c :: cs, _, _, _, ⟨v, r, e, h, l⟩, k => by subst e; exact ⟨v, r ++ _, rfl, h, DRL.append' l k⟩
theorem DRL.take {I : Facts} : ∀ {cs : List D} {vs : List Value} (n : Nat), DRL I cs vs → DRL I (cs.take n) (vs.take n)
  | _, _, 0, _ => by simp [DRL]
  | [], _, n + 1, h => by rw [DRL] at h; subst h; simp [DRL]
  | c :: cs, _, n + 1, ⟨v, r, e, h, l⟩ => by subst e; exact ⟨v, _, rfl, h, DRL.take n l⟩
theorem DRL.drop {I : Facts} : ∀ {cs : List D} {vs : List Value} (n : Nat), DRL I cs vs → DRL I (cs.drop n) (vs.drop n)
  | _, _, 0, h => by simpa using h
  | [], _, n + 1, h => by rw [DRL] at h; subst h; simp [DRL]
  | c :: cs, _, n + 1, ⟨v, r, e, h, l⟩ => by subst e; exact DRL.drop n l
/-- Cells laid over those of a row. -/
theorem row_splice {I : Facts} {cs ds : List D} {arr : Array Value} {news : List Value} {off : Nat} (h : DRL I cs (arr.toList.take cs.length)) (hn : DRL I ds news) (hle : off + ds.length ≤ cs.length) (hca : cs.length ≤ arr.size) :
    (cs.take off ++ ds ++ cs.drop (off + ds.length)).length = cs.length ∧
    DRL I (cs.take off ++ ds ++ cs.drop (off + ds.length)) ((arr.toList.take off ++ news ++ arr.toList.drop (off + news.length)).toArray.toList.take (cs.take off ++ ds ++ cs.drop (off + ds.length)).length) := by
  have hl : (cs.take off ++ ds ++ cs.drop (off + ds.length)).length = cs.length := by simp; omega
  refine ⟨hl, ?_⟩
  rw [hl, hn.length]
  have e : (arr.toList.take off ++ news ++ arr.toList.drop (off + ds.length)).toArray.toList.take cs.length = (arr.toList.take cs.length).take off ++ news ++ (arr.toList.take cs.length).drop (off + ds.length) := by
    have hnl := hn.length
    have ha : (arr.toList.take off).length = off := by simp; omega
    show (arr.toList.take off ++ news ++ arr.toList.drop (off + ds.length)).take cs.length = _
    rw [List.take_append, List.take_of_length_le (l := arr.toList.take off ++ news) (by rw [List.length_append, ha, hnl]; omega), List.length_append, ha, hnl, List.take_take, Nat.min_eq_left (by omega), List.drop_take]
  rw [e]
  exact ((h.take off).append' hn).append' (h.drop _)
/-- A heap turns: its objects are written, new ones are made. -/
theorem heap_turn {ep ep' : Nat} {H H' : HMap} {r : Store} {g : Gh} {w w' : World} (hw : WR g (.heap ep H :: r) w) (hep : ep ≤ ep')
    (hh : ∀ a o, H' a = some o → HR g.I w' a o) (hdom : ∀ a, H' a ≠ none → H a ≠ none ∨ (w.heap.size ≤ a ∧ a < w'.heap.size)) (hkeep : ∀ a, H a ≠ none → H' a ≠ none)
    (hsize : w.heap.size ≤ w'.heap.size) (hsame : ∀ b, b < w.heap.size → H b = none → w'.heap[b]? = w.heap[b]?) (hold : ep = ep' → ∀ b, b < w.heap.size → w'.heap[b]? = w.heap[b]?) (hos : w'.os = w.os ∧ w'.tape = w.tape ∧ w'.output = w.output) :
    ∃ g', WR g' (.heap ep' H' :: r) w' ∧ Step g (.heap ep H :: r) w g' (.heap ep' H' :: r) w' ∧ (∀ L, 0 ∉ L → Keep g (.heap ep H :: r) (.heap ep' H' :: r) w w' L) ∧
      ((∀ b, b < w.heap.size → w'.heap[b]? = w.heap[b]?) → ∀ L, Keep g (.heap ep H :: r) (.heap ep' H' :: r) w w' L) := by
  obtain ⟨snap, d1, d2, d3, d4, d5⟩ := heap_at hw (H := H) rfl
  have hsn : ∀ a, snap a ≠ none → a < w.heap.size := fun a h => by
    cases hc : snap a with
    | none => exact absurd hc h
    | some o => exact (Array.getElem?_eq_some_iff.1 (d5 a o hc)).1
  have hfacts : ∀ a v, g.I a v → a.block < w.heap.size ∧ H a.block = none := fun a v ha => by
    refine ⟨World.block_lt_of_cell? w a (hw.fact a v ha), ?_⟩
    cases hc : H a.block with
    | none => rfl
    | some o => exact absurd ((d2 a.block).2 (by rw [hc]; simp)) (d4 a v ha)
  have hlt' : ∀ a, H' a ≠ none → a < w'.heap.size := fun a h => by
    cases hc : H' a with
    | none => exact absurd hc h
    | some o => exact (hh a o hc).lt
  let snap' : Nat → Option Obj := fun a => if H' a = none then none else w'.heap[a]?
  have hsn' : ∀ a, snap' a ≠ none ↔ H' a ≠ none := fun a => by
    show (if H' a = none then none else w'.heap[a]?) ≠ none ↔ H' a ≠ none
    by_cases hc : H' a = none
    · rw [if_pos hc]; simp [hc]
    · rw [if_neg hc]
      rw [Array.getElem?_eq_getElem (hlt' a hc)]
      simp [hc]
  obtain ⟨k1, k2, k3⟩ := hw.turn (w' := w') (id := 0) (x' := .heap ep' H') (c' := .heap snap') rfl d1 (J := g.I) (fun _ _ h => h)
    (fun a v ha => by
      obtain ⟨h1, h2⟩ := hfacts a v ha
      rw [World.cell?_of_block (w := w) (hsame a.block h1 h2)]
      exact hw.fact a v ha)
    (by
      refine ⟨fun b h => ?_, fun b h => ?_, fun b h => ?_, fun s sz m cs h _ => ?_, fun b cap sz e cs h _ => ?_, fun sn e3 H3 h h3 => ?_⟩
      · rw [d1] at h; cases h
      · rw [d1] at h; cases h
      · rw [d1] at h; cases h
      · rw [d1] at h; cases h
      · rw [d1] at h; cases h
      · rw [d1] at h
        injection h with h
        injection h with h
        subst h
        injection h3 with h3
        injection h3 with h3 h4
        subst h3 h4
        refine ⟨_, ep', H', List.getElem?_set_self (List.getElem?_eq_some_iff.1 d1).1, rfl, hep, fun b hb => (hsn' b).2 (hkeep b ((d2 b).1 hb)), fun e a o ha => ?_⟩
        have hn : snap a ≠ none := by rw [ha]; simp
        show (if H' a = none then none else w'.heap[a]?) = some o
        rw [if_neg (hkeep a ((d2 a).1 hn)), hold e a (hsn a hn)]
        exact d5 a o ha)
    (fun _ => ⟨hsn', hh, fun a v ha k => by
      obtain ⟨h1, h2⟩ := hfacts a v ha
      rcases hdom _ ((hsn' _).1 k) with h | h
      · exact h h2
      · omega, fun a o ho => by
      have ho : (if H' a = none then none else w'.heap[a]?) = some o := ho
      by_cases hc : H' a = none
      · rw [if_pos hc] at ho; cases ho
      · rw [if_neg hc] at ho; exact ho⟩)
    hsize (fun b hb hno => hsame b hb (by
      cases hc : H b with
      | none => rfl
      | some o => exact absurd ((d2 b).2 (by rw [hc]; simp)) hno))
    (fun b hb => (hdom b ((hsn' b).1 hb)).imp (fun h => (d2 b).2 h) fun h => h) (fun a v ha => .inl ha) hos
  refine ⟨_, k1, k2, k3, fun hold L => ⟨fun i _ c b hc hb => hold b (hw.inb i c b hc hb), fun i _ sz e cs h => ?_⟩⟩
  cases i with
  | zero => cases h
  | succ i => exact h
theorem heap_fresh {ep : Nat} {H : HMap} {r : Store} {g : Gh} {w : World} (hw : WR g (.heap ep H :: r) w) {a : Nat} (ha : w.heap.size ≤ a) : H a = none := by
  obtain ⟨dom, d1, d2, d3, d4, _⟩ := heap_at hw (H := H) rfl
  cases hc : H a with
  | none => rfl
  | some o =>
    have := (d3 a o hc).lt
    omega
theorem heap_hr {ep : Nat} {H : HMap} {r : Store} {g : Gh} {w : World} (hw : WR g (.heap ep H :: r) w) {a : Nat} {o : HObj} (ha : H a = some o) : HR g.I w a o := by
  obtain ⟨dom, d1, d2, d3, d4, _⟩ := heap_at hw (H := H) rfl
  exact d3 a o ha
/-- A new object. -/
theorem heap_new {ep : Nat} {H : HMap} {r : Store} {g : Gh} {w : World} (hw : WR g (.heap ep H :: r) w) (o : HObj) (obj : Obj) (ho : HR g.I (w.alloc obj) w.heap.size o) :
    ∃ g', WR g' (.heap ep (H.upd w.heap.size o) :: r) (w.alloc obj) ∧ Step g (.heap ep H :: r) w g' (.heap ep (H.upd w.heap.size o) :: r) (w.alloc obj) ∧ ∀ L, Keep g (.heap ep H :: r) (.heap ep (H.upd w.heap.size o) :: r) w (w.alloc obj) L := by
  have hf := heap_fresh hw (Nat.le_refl _)
  have hs : (w.alloc obj).heap.size = w.heap.size + 1 := by simp
  obtain ⟨g', k1, k2, _, k4⟩ := heap_turn hw (ep' := ep) (H' := H.upd w.heap.size o) (w' := w.alloc obj) (Nat.le_refl _) (fun a o' h => by
      unfold HMap.upd at h
      by_cases e : a = w.heap.size
      · rw [if_pos e] at h
        obtain rfl := Option.some.inj h
        rw [e]; exact ho
      · rw [if_neg e] at h
        have := heap_hr hw h
        exact this.keep (fun _ _ h => h) (heap_alloc_old w _ this.lt))
    (fun a h => by
      unfold HMap.upd at h
      by_cases e : a = w.heap.size
      · exact .inr ⟨by omega, by omega⟩
      · rw [if_neg e] at h; exact .inl h)
    (fun a h => by
      unfold HMap.upd
      by_cases e : a = w.heap.size
      · rw [if_pos e]; simp
      · rw [if_neg e]; exact h)
    (by omega) (fun b hb _ => heap_alloc_old w _ hb) (fun _ b hb => heap_alloc_old w _ hb) ⟨rfl, rfl, rfl⟩
  exact ⟨g', k1, k2, k4 fun b hb => heap_alloc_old w _ hb⟩
/-- An object is written. -/
theorem heap_put {ep : Nat} {H : HMap} {r : Store} {g : Gh} {w w' : World} (hw : WR g (.heap ep H :: r) w) {b : Nat} {o' : HObj} (hb : H b ≠ none) (ho : HR g.I w' b o')
    (hsize : w'.heap.size = w.heap.size) (hsame : ∀ a, a ≠ b → w'.heap[a]? = w.heap[a]?) (hos : w'.os = w.os ∧ w'.tape = w.tape ∧ w'.output = w.output) :
    ∃ g', WR g' (.heap (ep + 1) (H.upd b o') :: r) w' ∧ Step g (.heap ep H :: r) w g' (.heap (ep + 1) (H.upd b o') :: r) w' ∧ ∀ L, 0 ∉ L → Keep g (.heap ep H :: r) (.heap (ep + 1) (H.upd b o') :: r) w w' L := by
  obtain ⟨g', k1, k2, k3, _⟩ := heap_turn hw (ep' := ep + 1) (H' := H.upd b o') (w' := w') (Nat.le_succ _) (fun a o h => by
      unfold HMap.upd at h
      by_cases e : a = b
      · rw [if_pos e] at h
        obtain rfl := Option.some.inj h
        rw [e]; exact ho
      · rw [if_neg e] at h
        exact (heap_hr hw h).keep (fun _ _ h => h) (hsame a e))
    (fun a h => by
      unfold HMap.upd at h
      by_cases e : a = b
      · rw [e]; exact .inl hb
      · rw [if_neg e] at h; exact .inl h)
    (fun a h => by
      unfold HMap.upd
      by_cases e : a = b
      · rw [if_pos e]; simp
      · rw [if_neg e]; exact h)
    (by omega) (fun a ha hn => hsame a (fun e => hb (by rw [← e]; exact hn))) (fun e => by omega) hos
  exact ⟨g', k1, k2, k3⟩
theorem ok_store (hty : TysOk P ty) {o : Oper} {t : TypeId} {x y : Operand} (ho : o.op = .store t x y) : OpOk P ty o := by
  intro ev ρ L σ K Q g w hev hw h
  unfold opR at h
  rw [ho] at h
  simp only at h
  have hx := hev x
  have hy := hev y
  generalize ev x = ax at h hx
  generalize ev y = ay at h hy
  split at h
  · rename_i i hi
    have hi := hty.ok _ _ hi
    unfold storeR at h
    split at h
    · rename_i b off
      have e := hx.lit
      cases hn : notIn L 0 with
      | false => simp only [hn, cond_false] at h; exact h.elim
      | true =>
        simp only [hn, cond_true] at h
        split at h
        · rename_i σ0 ep H r
          split at h
          · rename_i ds hds
            cases hc : ay.known && ay.cells.all AV.one && Nat.beq ay.cells.length i.size with
            | false => simp only [hc, cond_false] at h; exact h.elim
            | true =>
              simp only [hc, cond_true] at h
              simp only [Bool.and_eq_true] at hc
              obtain ⟨⟨c1, c2⟩, c3⟩ := hc
              have c3 := Nat.eq_of_beq_eq_true c3
              obtain ⟨H', ⟨cs, hH, c5, rfl⟩, h⟩ := h
              obtain ⟨dom, arr, tt, k1, k2, k3, k4, k5⟩ := heap_cells hw rfl hH
              have hcy := VR.cells hy c1
              have hly := hcy.length
              have hla := k4.length
              have hdl : ds.length = i.size := by rw [← c3]; exact allD_length hds
              have hcd := (VRL.of_allD hds).1 hcy
              have hone : ∀ v ∈ (ρ y).cells.toList, v.oneCell' = true := fun v hv => by
                obtain ⟨j, hj, hjv⟩ := List.getElem_of_mem hv
                obtain ⟨z, hz⟩ : ∃ z, ay.cells[j]? = some z := ⟨_, List.getElem?_eq_getElem (by omega)⟩
                obtain ⟨u, hu, hr⟩ := hcy.get hz
                rw [List.getElem?_eq_getElem hj, hjv] at hu
                obtain rfl := Option.some.inj hu
                exact one_oneCell hr (List.all_eq_true.1 c2 z (List.mem_of_getElem? hz))
              have hst := run_storeCells_at P b off tt (ρ y).cells.toList 0 arr w k3 (by simp at hla ⊢; simp at hly; omega) hone
              simp only [Nat.add_zero] at hst
              have hlen' : (ρ y).cells.toList.length = i.size := by rw [← c3, ← hly]
              have hrun : (execOp ρ o).run P w = .ok .skip (w.setRow b (arr.toList.take off ++ (ρ y).cells.toList ++ arr.toList.drop (off + (ρ y).cells.toList.length)).toArray) := by
                have hsz := run_size hi w
                have hlen : (ρ y).cells.size = i.size := by rw [← c3, ← hly]; simp
                simp [execOp, ho, Instr.storeAt, e, Instr.sureAddr, storeVar, hsz, hlen, hst]
              unfold OpSem NextSem
              rw [hrun]
              obtain ⟨g', q1, q2, q3⟩ := heap_put hw (b := b) (o' := .cells (cs.take off ++ ds ++ cs.drop (off + i.size))) (w' := w.setRow b (arr.toList.take off ++ (ρ y).cells.toList ++ arr.toList.drop (off + (ρ y).cells.toList.length)).toArray)
                (by rw [hH]; simp)
                ⟨_, tt, setRow_heap w b arr _ tt (0, 0) k3, by
                  rw [hlen']
                  simpa using DRL.append' (DRL.append' (DRL.take off k4) hcd) (DRL.drop (off + i.size) k4)⟩
                (by simp [World.setRow]) (fun a ha => setRow_other w b a _ ha) ⟨rfl, rfl, rfl⟩
              exact ⟨_, _, .undef, True.intro, q1, q2, q3 L (notIn_spec hn), h⟩
          · exact h.elim
        · exact h.elim
    · rename_i id off
      cases hn : notIn L id with
      | false => simp only [hn, cond_false] at h; exact h.elim
      | true =>
        simp only [hn, cond_true] at h
        split at h
        · rename_i cs hs
          cases hc : ay.known && ay.cells.all AV.one && Nat.beq ay.cells.length i.size && Nat.ble (off + ay.cells.length) cs.length with
          | false => simp only [hc, cond_false] at h; exact h.elim
          | true =>
            simp only [hc, cond_true, forceC_eq, forceL_eq] at h
            simp only [Bool.and_eq_true] at hc
            obtain ⟨⟨⟨c1, c2⟩, c3⟩, c4⟩ := hc
            have c3 := Nat.eq_of_beq_eq_true c3
            have c4 := Nat.le_of_ble_eq_true c4
            obtain ⟨b, hb, e⟩ := hx
            obtain ⟨arr, tt, h1, h2, h3⟩ := var_cells hw hs hb
            have hcy := VR.cells hy c1
            have hly := hcy.length
            have hla := h2.length
            have hone : ∀ v ∈ (ρ y).cells.toList, v.oneCell' = true := fun v hv => by
              obtain ⟨j, hj, hjv⟩ := List.getElem_of_mem hv
              obtain ⟨z, hz⟩ : ∃ z, ay.cells[j]? = some z := ⟨_, List.getElem?_eq_getElem (by omega)⟩
              obtain ⟨u, hu, hr⟩ := hcy.get hz
              rw [List.getElem?_eq_getElem hj, hjv] at hu
              obtain rfl := Option.some.inj hu
              exact one_oneCell hr (List.all_eq_true.1 c2 z (List.mem_of_getElem? hz))
            have hst := run_storeCells_at P b off tt (ρ y).cells.toList 0 arr w h1 (by simp at hla ⊢; simp at hly; omega) hone
            simp only [Nat.add_zero] at hst
            have hrun : (execOp ρ o).run P w = .ok .skip (w.setRow b (arr.toList.take off ++ (ρ y).cells.toList ++ arr.toList.drop (off + (ρ y).cells.toList.length)).toArray) := by
              have hsz := run_size hi w
              have hlen : (ρ y).cells.size = i.size := by rw [← c3, ← hly]; simp
              simp [execOp, ho, Instr.storeAt, e, Instr.sureAddr, storeVar, hsz, hlen, hst]
            unfold OpSem NextSem
            rw [hrun]
            have hnotI : ∀ a v, g.I a v → a.block ≠ b := (hw.blk _ _ _ hs hb).2
            obtain ⟨k1, k2, k3⟩ := hw.turn (w' := w.setRow b (arr.toList.take off ++ (ρ y).cells.toList ++ arr.toList.drop (off + (ρ y).cells.toList.length)).toArray) (x' := .var (splice cs off ay.cells)) (c' := .var b) hs hb (J := g.I) (fun _ _ h => h)
              (fun a v ha => by
                rw [World.cell?_of_block (w := w) (setRow_other w b a.block _ (hnotI a v ha))]
                exact hw.fact a v ha)
              (Cpt.of_var hb (List.getElem?_set_self (List.getElem?_eq_some_iff.1 hb).1))
              (fun hall => ⟨⟨_, tt, setRow_heap w b arr _ tt (0, 0) h1, by simpa using VRL.mono (g := g) (g' := ⟨g.μ.set id (.var b), g.I⟩) (fun _ _ h => h) hall _ _ (splice_vrl h2 hcy off)⟩, hnotI⟩)
              (by simp [World.setRow]) (fun b' hb' hne => setRow_other w b b' _ (fun e => hne (by rw [e]; rfl))) (fun b' h' => .inl h') (fun a v ha => .inl ha) ⟨rfl, rfl, rfl⟩
            exact ⟨_, _, .undef, True.intro, k1, k2, k3 L (notIn_spec hn), h⟩
        · exact h.elim
    · rename_i id ep off
      cases hn : notIn L id with
      | false => simp only [hn, cond_false] at h; exact h.elim
      | true =>
        simp only [hn, cond_true] at h
        split at h
        · rename_i sz ep' cs hs
          split at h
          · rename_i ds hds
            cases hc : ay.known && ay.cells.all AV.one && Nat.beq ay.cells.length i.size && Nat.beq ep' ep with
            | false => simp only [hc, cond_false] at h; exact h.elim
            | true =>
              simp only [hc, cond_true, forceL_eq] at h
              simp only [Bool.and_eq_true] at hc
              obtain ⟨⟨⟨c1, c2⟩, c3⟩, c4⟩ := hc
              have c3 := Nat.eq_of_beq_eq_true c3
              obtain rfl := Nat.eq_of_beq_eq_true c4
              obtain ⟨c5, h⟩ := h
              obtain ⟨b, cap, sz0, e0, cs0, a, hb, hs0, e, hep, hcur⟩ := hx
              rw [hs] at hs0
              obtain ⟨rfl, rfl, rfl⟩ : sz = sz0 ∧ ep' = e0 ∧ cs = cs0 := by simpa using hs0
              obtain rfl := hcur rfl
              have hcy := VR.cells hy c1
              have hly := hcy.length
              have hdl : ds.length = i.size := by rw [← c3]; exact allD_length hds
              have hcd := (VRL.of_allD hds).1 hcy
              by_cases hne : cs = []
              · -- nothing is stored
                subst hne
                have hz : i.size = 0 := by simp at c5; omega
                have hcl : (ρ y).cells.toList = [] := List.eq_nil_of_length_eq_zero (by rw [hly, c3, hz])
                have hrun : (execOp ρ o).run P w = .ok .skip w := by
                  have hsz := run_size hi w
                  have hlen : (ρ y).cells.size = i.size := by rw [← c3, ← hly]; simp
                  have hst : (storeCells ⟨b, off, none⟩ (ρ y).cells.toList).run P w = .ok () w := by rw [hcl]; rfl
                  simp [execOp, ho, Instr.storeAt, e, Instr.sureAddr, storeVar, hsz, hlen, hst]
                unfold OpSem NextSem
                rw [hrun]
                have hds0 : ds = [] := List.eq_nil_of_length_eq_zero (by omega)
                have hset : σ.set id (.row sz ep' (([] : List D).take off ++ ds ++ ([] : List D).drop (off + i.size))) = σ := by
                  rw [hds0]
                  simp only [List.take_nil, List.drop_nil, List.append_nil]
                  apply List.ext_getElem?
                  intro j
                  by_cases e : id = j
                  · subst e; rw [List.getElem?_set_self (List.getElem?_eq_some_iff.1 hs).1, hs]
                  · rw [List.getElem?_set_ne e]
                rw [hset] at h
                exact ⟨g, σ, .undef, True.intro, hw, Step.refl g σ w, Keep.refl g σ w L, h⟩
              obtain ⟨arr, tt, k1, k2, k3, k4, k5, k6, k7⟩ := row_cells hw hs hb hne
              have hcap : 0 < cap := by
                have : 0 < cs.length := List.length_pos_iff.2 hne
                omega
              have hone : ∀ v ∈ (ρ y).cells.toList, v.oneCell' = true := fun v hv => by
                obtain ⟨j, hj, hjv⟩ := List.getElem_of_mem hv
                obtain ⟨z, hz⟩ : ∃ z, ay.cells[j]? = some z := ⟨_, List.getElem?_eq_getElem (by omega)⟩
                obtain ⟨u, hu, hr⟩ := hcy.get hz
                rw [List.getElem?_eq_getElem hj, hjv] at hu
                obtain rfl := Option.some.inj hu
                exact one_oneCell hr (List.all_eq_true.1 c2 z (List.mem_of_getElem? hz))
              have hst := run_storeCells_at P b off tt (ρ y).cells.toList 0 arr w k1 (by simp at hly ⊢; omega) hone
              simp only [Nat.add_zero] at hst
              have hrun : (execOp ρ o).run P w = .ok .skip (w.setRow b (arr.toList.take off ++ (ρ y).cells.toList ++ arr.toList.drop (off + (ρ y).cells.toList.length)).toArray) := by
                have hsz := run_size hi w
                have hlen : (ρ y).cells.size = i.size := by rw [← c3, ← hly]; simp
                simp [execOp, ho, Instr.storeAt, e, Instr.sureAddr, storeVar, hsz, hlen, hst]
              unfold OpSem NextSem
              rw [hrun]
              obtain ⟨p1, p2⟩ := row_splice (off := off) k7 hcd (by omega) (by omega)
              rw [hdl] at p1 p2
              obtain ⟨q1, q2, q3⟩ := row_turn hw hs hb hcap k1 _ (by have := hcd.length; simp at this hly ⊢; omega) (by rw [p1]; exact k3) p2 (Nat.le_refl _) k6
              exact ⟨_, _, .undef, True.intro, q1, q2, q3 L (notIn_spec hn), h⟩
          · exact h.elim
        · exact h.elim
    · exact h.elim
  · exact h.elim

theorem ok_makeInterface (hty : TysOk P ty) {o : Oper} {t : TypeId} {x : Operand} (ho : o.op = .makeInterface t x) : Quiet P ty o := by
  intro ev ρ L σ K Q g w hev hw h
  unfold opR at h
  rw [ho] at h
  simp only at h
  have hv := hev x
  have run : ∀ i, ty.get t = some i → i.desc ≠ .iface → ∀ w, (execOp ρ o).run P w = .ok (.value (.iface t (ρ x))) w := fun i hi hd w => by
    obtain ⟨d, hu, _⟩ := ty_und (hty.ok _ _ hi)
    have := not_iface (hty.ok _ _ hi) hd
    cases d <;> first | (simp [execOp, ho, Instr.makeInterface, run_underlying hu]; done) | exact absurd hu (this _)
  split at h
  · exact h.elim
  · rename_i i hni hi
    have hd : i.desc ≠ .iface := fun e => by
      cases i
      simp only at e
      subst e
      exact hni _ _ _ _ _ _ rfl
    have hrun := run i hi hd
    split at h
    · rename_i y hy
      rw [hy] at hv
      exact quiet_ok hw (fun w' _ => hrun w') (show VR σ g (.d (.iface t y)) _ from ⟨_, rfl, hv⟩) h
    · rename_i id hy
      rw [hy] at hv
      obtain ⟨b, hb, e⟩ := hv
      split at h
      · rename_i cs hs
        split at h
        · rename_i ds hd
          simp only [forceL_eq] at h
          obtain ⟨arr, tt, h1, h2, h3⟩ := var_cells hw hs hb
          have hdl := (VRL.of_allD hd).1 h2
          let J : Facts := fun a v => g.I a v ∨ (∃ j, a = ⟨b, j, none⟩ ∧ arr.toList[j]? = some v)
          obtain ⟨k1, k2, k3⟩ := hw.turn (w' := w) (x' := .dead) (c' := .var b) hs hb (J := J) (fun _ _ h => .inl h)
            (fun a v ha => by
              rcases ha with ha | ⟨j, rfl, hj⟩
              · exact hw.fact a v ha
              · rw [h3]; exact hj)
            (Cpt.of_var hb (List.getElem?_set_self (List.getElem?_eq_some_iff.1 hb).1))
            (fun hall => True.intro) (Nat.le_refl _) (fun _ _ _ => rfl) (fun b' h' => .inl h') (fun a v ha => by
              rcases ha with ha | ⟨j, rfl, hj⟩
              · exact .inl ha
              · exact .inr (.inl rfl)) ⟨rfl, rfl, rfl⟩
          refine ⟨_, _, _, .d (.iface t (.box ds 0)), fun w' _ => hrun w', ?_, k1, k2, fun L => ⟨fun _ _ _ _ _ _ => rfl, fun i _ sz e cs' h => by
            have hne : id ≠ i := fun e => by subst e; rw [hs] at h; cases h
            rw [List.getElem?_set_ne hne, h]⟩, h⟩
          rw [e]
          refine ⟨_, rfl, b, 0, rfl, DRM.of_get fun j hj => ?_⟩
          have hx : ds[j]? = some (rdD ds j) := by simp [rdD, List.getD_eq_getElem?_getD, List.getElem?_eq_getElem hj]
          obtain ⟨v, hv, hd⟩ := hdl.get hx
          exact ⟨v, .inr ⟨j, by simp, hv⟩, DR.mono (fun _ _ h => .inl h) _ _ hd⟩
        · exact h.elim
      · exact h.elim
    · exact h.elim
  · exact h.elim
theorem VRL.fz {σ : Store} {g : Gh} : ∀ {l : List AV} {vs : List Value}, VRL σ g l vs → VRL σ g (l.map (AV.fz σ)) vs
  | [], _, h => h
  | c :: l, _, ⟨v, r, e, h, k⟩ => by
    refine ⟨v, r, e, ?_, VRL.fz k⟩
    cases c with
    | vec id n =>
      obtain ⟨s, sz, m, cs, a, cap, h1, h2, h3, h4, h5, h6, h7, h8⟩ := h
      show VR σ g (match σ[id]? with | some (.vec sz _ cs) => .d (.sl n (cs.take (n * sz))) | _ => .vec id n) v
      rw [h2]
      exact ⟨a, cap, h4, h5, h8⟩
    | _ => exact h
/-- A struct in the heap, a variable. -/
theorem ok_box {o : Oper} {t : TypeId} {x : Operand} (ho : o.op = .box t x) : OpOk P ty o := by
  intro ev ρ L σ K Q g w hev hw h
  unfold opR at h
  rw [ho] at h
  simp only at h
  have hrun : (execOp ρ o).run P w = .ok (.value (.pointer (some ⟨w.heap.size, 0, none⟩))) (w.alloc (.cells (ρ x).cells t)) := by simp [execOp, ho, Instr.box, newVar, newRow]
  cases hf : isHeapTy ty t with
  | true =>
    simp only [hf, cond_true] at h
    split at h <;> try exact h.elim
    rename_i ep H r ds hds
    cases hc : (ev x).known with
    | false => simp only [hc, cond_false] at h; exact h.elim
    | true =>
      simp only [hc, cond_true] at h
      have hcx := VRL.fz (VR.cells (hev x) hc)
      have hcd := (VRL.of_allD hds).1 hcx
      obtain ⟨g', k1, k2, k3⟩ := heap_new hw (.cells ds) (.cells (ρ x).cells t) ⟨_, t, heap_alloc_new w _, hcd⟩
      exact OpSem.value hrun ⟨g', _, _, vr_lit _, k1, k2, k3 L, h _ (heap_fresh hw (Nat.le_refl _))⟩
  | false =>
    simp only [hf, cond_false] at h
    cases hk : (ev x).known with
    | false => simp only [hk, cond_false] at h; exact h.elim
    | true =>
      simp only [hk, cond_true, lenK_eq, forceC_eq, forceL_eq, Nat.zero_add] at h
      obtain ⟨g', h1, h2, h3⟩ := new_var hw (VR.cells (hev x) hk) (t := t)
      exact OpSem.value hrun ⟨g', _, _, h1, h2, h3, Keep.old hw (fun b hb => heap_alloc_old w _ hb) L, h⟩
end Go.Am
