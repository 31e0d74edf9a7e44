/- The abstract machine 'Am': stores against worlds; what a step keeps; renamings. -/
import Derived.Test.YtddhlmejaobcgaaAm2
set_option linter.unusedVariables false
namespace Go.Am
open Go

/-- An element of a map: a struct's cells, or the one cell. -/
def ElR (I : Facts) (ag : Bool) (cs : List D) (v : Value) : Prop := match ag with
  | true => ∃ vs : List Value, v = .agg vs.toArray ∧ DRL I cs vs
  | false => ∃ x, cs = [x] ∧ DR I x v ∧ x.one = true
def KeyR (I : Facts) (ag : Bool) (e : D × List D) (m : MapEntry) : Prop := DR I e.1 m.key ∧ ElR I ag e.2 m.val
def MapR (I : Facts) (ag : Bool) : List (D × List D) → List MapEntry → Prop
  | [], l => l = []
  | e :: es, l => ∃ m r, l = m :: r ∧ KeyR I ag e m ∧ MapR I ag es r
theorem ElR.mono {I J : Facts} (h : ∀ a v, I a v → J a v) : ∀ {ag : Bool} {cs : List D} {v : Value}, ElR I ag cs v → ElR J ag cs v
  | true, _, _, ⟨vs, e, k⟩ => ⟨vs, e, DRL.mono h _ _ k⟩
  | false, _, _, ⟨x, e, k, o⟩ => ⟨x, e, DR.mono h _ _ k, o⟩
theorem MapR.mono {I J : Facts} (h : ∀ a v, I a v → J a v) {ag : Bool} : ∀ {es : List (D × List D)} {l : List MapEntry}, MapR I ag es l → MapR J ag es l
  | [], _, k => k
  | _ :: _, _, ⟨m, r, e, ⟨k1, k2⟩, k⟩ => ⟨m, r, e, ⟨DR.mono h _ _ k1, k2.mono h⟩, MapR.mono h k⟩

/-- An entry of a heap's map. -/
def mE (e : Int × Nat × Nat) : MapEntry := { key := .int .i64 e.1, val := .pointer (some ⟨e.2.1, 0, none⟩), born := e.2.2 }
def HR (I : Facts) (w : World) (a : Nat) : HObj → Prop
  | .cells l => ∃ vs ty, w.heap[a]? = some (.cells vs ty (0, 0)) ∧ DRL I l vs.toList
  | .imap es c => w.heap[a]? = some (.map (es.map mE).toArray c) ∧ (es.map fun e => e.2.2).Nodup ∧ ∀ e ∈ es, e.2.2 < c
  | .miter b es seen c0 => ∃ since, w.heap[a]? = some (.mapIter (some b) since seen.toArray c0) ∧ (∀ e ∈ es, e.2.2 < since) ∧ since ≤ c0
theorem HR.keep {I J : Facts} {w w' : World} {a : Nat} (hI : ∀ a v, I a v → J a v) (hh : w'.heap[a]? = w.heap[a]?) : ∀ {o : HObj}, HR I w a o → HR J w' a o
  | .cells l, ⟨vs, ty, h1, h2⟩ => ⟨vs, ty, by rw [hh]; exact h1, DRL.mono hI _ _ h2⟩
  | .imap es c, ⟨h1, h2⟩ => ⟨by rw [hh]; exact h1, h2⟩
  | .miter b es seen c0, ⟨s, h1, h2⟩ => ⟨s, by rw [hh]; exact h1, h2⟩
theorem HR.lt {I : Facts} {w : World} {a : Nat} : ∀ {o : HObj}, HR I w a o → a < w.heap.size
  | .cells l, ⟨vs, ty, h1, h2⟩ => (Array.getElem?_eq_some_iff.1 h1).1
  | .imap es c, ⟨h1, h2⟩ => (Array.getElem?_eq_some_iff.1 h1).1
  | .miter b es seen c0, ⟨s, h1, h2⟩ => (Array.getElem?_eq_some_iff.1 h1).1

def BR (σ : Store) (g : Gh) (w : World) : Blk → Cn → Prop
  | .var cs, .var b => (∃ arr ty, w.heap[b]? = some (.cells arr ty (0, 0)) ∧ VRL σ g cs arr.toList) ∧ ∀ a v, g.I a v → a.block ≠ b
  | .vec sz m cs, .vec s => m * sz = cs.length ∧ ((∃ a, s = .slice a 0 0 ∧ m = 0) ∨ ∃ b cap arr ty, s = .slice (some ⟨b, 0, none⟩) m (cap + 1) ∧ m ≤ cap + 1 ∧
      w.heap[b]? = some (.cells arr ty (0, 0)) ∧ arr.size = (cap + 1) * sz ∧ DRM g.I b 0 cs ∧ ∀ a v, g.I a v → a.block = b → a.off < m * sz)
  | .row sz _ cs, .row b cap => cs.length ≤ cap ∧ (cap = 0 ∨ ((∃ arr ty vs, w.heap[b]? = some (.cells arr ty (0, 0)) ∧ arr.size = cap ∧ DRL g.I cs vs ∧ arr.toList.take cs.length = vs) ∧ ∀ a v, g.I a v → a.block ≠ b))
  | .map ag es, .map b => (∃ arr clock, w.heap[b]? = some (.map arr clock) ∧ MapR g.I ag es arr.toList) ∧ ∀ a v, g.I a v → a.block ≠ b
  | .iter s pos, .iter b => w.heap[b]? = some (.stringIter s pos) ∧ ∀ a v, g.I a v → a.block ≠ b
  | .heap _ H, .heap snap => (∀ a, snap a ≠ none ↔ H a ≠ none) ∧ (∀ a o, H a = some o → HR g.I w a o) ∧ (∀ a v, g.I a v → ¬ snap a.block ≠ none) ∧ ∀ a o, snap a = some o → w.heap[a]? = some o
  | .dead, _ => True
  | _, _ => False

structure WR (g : Gh) (σ : Store) (w : World) : Prop where
  len : g.μ.length = σ.length
  blk : ∀ (i : Nat) (x : Blk) (c : Cn), σ[i]? = some x → g.μ[i]? = some c → BR σ g w x c
  fact : ∀ a v, g.I a v → w.cell? a = some v
  dist : ∀ (i j : Nat) (c c' : Cn) (b : Nat), g.μ[i]? = some c → g.μ[j]? = some c' → c.owns b → c'.owns b → i = j
  inb : ∀ (i : Nat) (c : Cn) (b : Nat), g.μ[i]? = some c → c.owns b → b < w.heap.size
  glob : GlobOk g.I

/-- Entry i of one store goes on as entry j of another one. -/
def Cpt (σ : Store) (g : Gh) (σ' : Store) (g' : Gh) (i j : Nat) : Prop :=
  (∀ b, g.μ[i]? = some (.var b) → g'.μ[j]? = some (.var b)) ∧
  (∀ b, g.μ[i]? = some (.map b) → g'.μ[j]? = some (.map b)) ∧
  (∀ b, g.μ[i]? = some (.iter b) → g'.μ[j]? = some (.iter b)) ∧
  (∀ s sz m cs, g.μ[i]? = some (.vec s) → σ[i]? = some (.vec sz m cs) → ∃ s' m' cs', g'.μ[j]? = some (.vec s') ∧ σ'[j]? = some (.vec sz m' (cs ++ cs')) ∧ m ≤ m' ∧ (m = m' → s = s')) ∧
  (∀ b cap sz e cs, g.μ[i]? = some (.row b cap) → σ[i]? = some (.row sz e cs) → ∃ b' cap' e' cs', g'.μ[j]? = some (.row b' cap') ∧ σ'[j]? = some (.row sz e' cs') ∧ e ≤ e' ∧ (e = e' → b' = b ∧ cap' = cap)) ∧
  (∀ snap ep H, g.μ[i]? = some (.heap snap) → σ[i]? = some (.heap ep H) → ∃ snap' ep' H', g'.μ[j]? = some (.heap snap') ∧ σ'[j]? = some (.heap ep' H') ∧ ep ≤ ep' ∧ (∀ a, snap a ≠ none → snap' a ≠ none) ∧ (ep = ep' → ∀ a o, snap a = some o → snap' a = some o))
theorem Cpt.refl (σ : Store) (g : Gh) (i : Nat) : Cpt σ g σ g i i :=
  ⟨fun _ h => h, fun _ h => h, fun _ h => h, fun s sz m cs h k => ⟨s, m, [], h, by simpa using k, Nat.le_refl _, fun _ => rfl⟩, fun b cap sz e cs h k => ⟨b, cap, e, cs, h, k, Nat.le_refl _, fun _ => ⟨rfl, rfl⟩⟩, fun snap ep H h k => ⟨snap, ep, H, h, k, Nat.le_refl _, fun _ h => h, fun _ _ _ h => h⟩⟩
/-- Entries that are the same. -/
theorem Cpt.same {σ : Store} {g : Gh} {σ' : Store} {g' : Gh} {i j : Nat} (hμ : g'.μ[j]? = g.μ[i]?) (hσ : σ'[j]? = σ[i]?) : Cpt σ g σ' g' i j :=
  ⟨fun b h => by rw [hμ]; exact h, fun b h => by rw [hμ]; exact h, fun b h => by rw [hμ]; exact h, fun s sz m cs h k => ⟨s, m, [], by rw [hμ]; exact h, by rw [hσ]; simpa using k, Nat.le_refl _, fun _ => rfl⟩, fun b cap sz e cs h k => ⟨b, cap, e, cs, by rw [hμ]; exact h, by rw [hσ]; exact k, Nat.le_refl _, fun _ => ⟨rfl, rfl⟩⟩, fun snap ep H h k => ⟨snap, ep, H, by rw [hμ]; exact h, by rw [hσ]; exact k, Nat.le_refl _, fun _ h => h, fun _ _ _ h => h⟩⟩
theorem Cpt.trans {σ g σ' g' σ'' g''} {i j k : Nat} (h : Cpt σ g σ' g' i j) (l : Cpt σ' g' σ'' g'' j k) : Cpt σ g σ'' g'' i k :=
  ⟨fun b e => l.1 b (h.1 b e), fun b e => l.2.1 b (h.2.1 b e), fun b e => l.2.2.1 b (h.2.2.1 b e), fun s sz m cs e e' => by
    obtain ⟨s', m', cs', h1, h2, h3, h4⟩ := h.2.2.2.1 s sz m cs e e'
    obtain ⟨s'', m'', cs'', l1, l2, l3, l4⟩ := l.2.2.2.1 s' sz m' _ h1 h2
    exact ⟨s'', m'', cs' ++ cs'', l1, by rw [← List.append_assoc]; exact l2, Nat.le_trans h3 l3, fun e => by
      have : m = m' := by omega
      rw [h4 this, l4 (by omega)]⟩, fun b cap sz e cs k1 k2 => by
    obtain ⟨b', cap', e', cs', h1, h2, h3, h4⟩ := h.2.2.2.2.1 b cap sz e cs k1 k2
    obtain ⟨b'', cap'', e'', cs'', l1, l2, l3, l4⟩ := l.2.2.2.2.1 b' cap' sz e' _ h1 h2
    exact ⟨b'', cap'', e'', cs'', l1, l2, Nat.le_trans h3 l3, fun e => by
      have h5 := h4 (by omega)
      have l5 := l4 (by omega)
      exact ⟨l5.1.trans h5.1, l5.2.trans h5.2⟩⟩, fun snap ep H e e' => by
    obtain ⟨s1, p1, H1, h1, h2, h3, h4, h5⟩ := h.2.2.2.2.2 snap ep H e e'
    obtain ⟨s2, p2, H2, l1, l2, l3, l4, l5⟩ := l.2.2.2.2.2 s1 p1 H1 h1 h2
    exact ⟨s2, p2, H2, l1, l2, Nat.le_trans h3 l3, fun a k => l4 a (h4 a k), fun k a o ha => l5 (by omega) a o (h5 (by omega) a o ha)⟩⟩

theorem VR_vec_cpt {σ g σ' g'} {i j n : Nat} {v : Value} (hI : ∀ a v, g.I a v → g'.I a v) (h : Cpt σ g σ' g' i j) (k : VR σ g (.vec i n) v) : VR σ' g' (.vec j n) v := by
  obtain ⟨s, sz, m, cs, a, cap, h1, h2, h3, h4, h5, h6, h7, h8⟩ := k
  obtain ⟨s', m', cs', k1, k2, k3, k4⟩ := h.2.2.2.1 s sz m cs h1 h2
  have ht : (cs ++ cs').take (n * sz) = cs.take (n * sz) := List.take_append_of_le_length h7
  refine ⟨s', sz, m', _, a, cap, k1, k2, by omega, h4, h5, fun e => ?_, by simp; omega, ?_⟩
  · rw [h6 (by omega)]; exact k4 (by omega)
  · rw [ht]
    exact h8.imp _root_.id fun ⟨b, off, ha, hm⟩ => ⟨b, off, ha, DRM.mono hI b off _ hm⟩

theorem VR_row_cpt {σ g σ' g'} {i j ep off n : Nat} {v : Value} (h : Cpt σ g σ' g' i j) (k : VR σ g (.row i ep off n) v) : VR σ' g' (.row j ep off n) v := by
  obtain ⟨b, cap, sz, e, cs, a, k, h1, h2, h3, h4, h5, h6, h7⟩ := k
  obtain ⟨b', cap', e', cs', k1, k2, k3, k4⟩ := h.2.2.2.2.1 b cap sz e cs h1 h2
  refine ⟨b', cap', sz, e', cs', a, k, k1, k2, h3, h4, h5, Nat.le_trans h6 k3, fun he => ?_⟩
  obtain ⟨rfl, rfl⟩ := k4 (by omega)
  exact h7 (by omega)
theorem VR_cell_cpt {σ g σ' g'} {i j ep off : Nat} {v : Value} (h : Cpt σ g σ' g' i j) (k : VR σ g (.cell i ep off) v) : VR σ' g' (.cell j ep off) v := by
  obtain ⟨b, cap, sz, e, cs, a, h1, h2, h3, h6, h7⟩ := k
  obtain ⟨b', cap', e', cs', k1, k2, k3, k4⟩ := h.2.2.2.2.1 b cap sz e cs h1 h2
  refine ⟨b', cap', sz, e', cs', a, k1, k2, h3, Nat.le_trans h6 k3, fun he => ?_⟩
  obtain ⟨rfl, rfl⟩ := k4 (by omega)
  exact h7 (by omega)
mutual
theorem VR.mono {σ g σ' g'} (hI : ∀ a v, g.I a v → g'.I a v) (h : ∀ i, i < g.μ.length → Cpt σ g σ' g' i i) : ∀ (x : AV) (v : Value), VR σ g x v → VR σ' g' x v
  | .d x, v, k => DR.mono hI x v k
  | .ptr i _, _, ⟨b, k, e⟩ => ⟨b, (h i (List.getElem?_eq_some_iff.1 k).1).1 b k, e⟩
  | .vec i _, _, k => VR_vec_cpt hI (h i (by obtain ⟨s, _, _, _, _, _, k, _⟩ := k; exact (List.getElem?_eq_some_iff.1 k).1)) k
  | .map i, _, ⟨b, k, e⟩ => ⟨b, (h i (List.getElem?_eq_some_iff.1 k).1).2.1 b k, e⟩
  | .iter i, _, ⟨b, k, e⟩ => ⟨b, (h i (List.getElem?_eq_some_iff.1 k).1).2.2.1 b k, e⟩
  | .win i _ _, _, ⟨b, cap, o, k, e⟩ => ⟨b, cap, o, (h i (List.getElem?_eq_some_iff.1 k).1).1 b k, e⟩
  | .row i _ _ _, _, k => VR_row_cpt (h i (by obtain ⟨_, _, _, _, _, _, _, k, _⟩ := k; exact (List.getElem?_eq_some_iff.1 k).1)) k
  | .cell i _ _, _, k => VR_cell_cpt (h i (by obtain ⟨_, _, _, _, _, _, k, _⟩ := k; exact (List.getElem?_eq_some_iff.1 k).1)) k
  | .agg cs, _, ⟨vs, e, k⟩ => ⟨vs, e, VRL.mono hI h cs vs k⟩
  | .tuple cs, _, ⟨vs, e, k⟩ => ⟨vs, e, VRL.mono hI h cs vs k⟩
  | .fn _ cs, _, ⟨vs, e, k⟩ => ⟨vs, e, VRL.mono hI h cs vs k⟩
  | .undef, _, _ => True.intro
theorem VRL.mono {σ g σ' g'} (hI : ∀ a v, g.I a v → g'.I a v) (h : ∀ i, i < g.μ.length → Cpt σ g σ' g' i i) : ∀ (l : List AV) (vs : List Value), VRL σ g l vs → VRL σ' g' l vs
  | [], _, k => k
  | c :: cs, _, ⟨v, r, e, k, l⟩ => ⟨v, r, e, VR.mono hI h c v k, VRL.mono hI h cs r l⟩
end

/-! ### renamings -/
mutual
def AV.sub (σ : Store) (ρ : Nat → Option Nat) : AV → AV
  | .d x => .d x
  | .ptr i off => match ρ i with | some j => .ptr j off | none => .undef
  | .vec i n => match ρ i with
    | some j => .vec j n
    | none => match σ[i]? with | some (.vec sz _ cs) => .d (.sl n (cs.take (n * sz))) | _ => .undef
  | .map i => match ρ i with | some j => .map j | none => .undef
  | .iter i => match ρ i with | some j => .iter j | none => .undef
  | .win i off n => match ρ i with | some j => .win j off n | none => .undef
  | .row i ep off n => match ρ i with | some j => .row j ep off n | none => .undef
  | .cell i ep off => match ρ i with | some j => .cell j ep off | none => .undef
  | .agg cs => mkAgg (AV.subL σ ρ cs)
  | .tuple cs => .tuple (AV.subL σ ρ cs)
  | .fn f cs => .fn f (AV.subL σ ρ cs)
  | .undef => .undef
def AV.subL (σ : Store) (ρ : Nat → Option Nat) : List AV → List AV
  | [] => []
  | c :: cs => AV.sub σ ρ c :: AV.subL σ ρ cs
end
mutual
theorem VR.sub {σ g σ' g'} {ρ : Nat → Option Nat} (hI : ∀ a v, g.I a v → g'.I a v) (h : ∀ i j, ρ i = some j → Cpt σ g σ' g' i j) : ∀ (x : AV) (v : Value), VR σ g x v → VR σ' g' (x.sub σ ρ) v
  | .d x, v, k => DR.mono hI x v k
  | .ptr i off, v, ⟨b, k, e⟩ => by
    unfold AV.sub
    cases hr : ρ i with
    | none => exact True.intro
    | some j => exact ⟨b, (h i j hr).1 b k, e⟩
  | .vec i n, v, k => by
    unfold AV.sub
    cases hr : ρ i with
    | some j => exact VR_vec_cpt hI (h i j hr) k
    | none =>
      obtain ⟨s, sz, m, cs, a, cap, h1, h2, h3, h4, h5, h6, h7, h8⟩ := k
      simp only [h2]
      exact ⟨a, cap, h4, h5, h8.imp _root_.id fun ⟨b, off, ha, hm⟩ => ⟨b, off, ha, DRM.mono hI b off _ hm⟩⟩
  | .map i, v, ⟨b, k, e⟩ => by
    unfold AV.sub
    cases hr : ρ i with
    | none => exact True.intro
    | some j => exact ⟨b, (h i j hr).2.1 b k, e⟩
  | .iter i, v, ⟨b, k, e⟩ => by
    unfold AV.sub
    cases hr : ρ i with
    | none => exact True.intro
    | some j => exact ⟨b, (h i j hr).2.2.1 b k, e⟩
  | .win i off n, v, ⟨b, cap, o, k, e⟩ => by
    unfold AV.sub
    cases hr : ρ i with
    | none => exact True.intro
    | some j => exact ⟨b, cap, o, (h i j hr).1 b k, e⟩
  | .row i ep off n, v, k => by
    unfold AV.sub
    cases hr : ρ i with
    | none => exact True.intro
    | some j => exact VR_row_cpt (h i j hr) k
  | .cell i ep off, v, k => by
    unfold AV.sub
    cases hr : ρ i with
    | none => exact True.intro
    | some j => exact VR_cell_cpt (h i j hr) k
  | .agg cs, v, ⟨vs, e, k⟩ => by unfold AV.sub; subst e; exact VR.mkAgg (VRL.sub hI h cs vs k)
  | .tuple cs, v, ⟨vs, e, k⟩ => by unfold AV.sub; exact ⟨vs, e, VRL.sub hI h cs vs k⟩
  | .fn f cs, v, ⟨vs, e, k⟩ => by unfold AV.sub; exact ⟨vs, e, VRL.sub hI h cs vs k⟩
  | .undef, _, _ => by unfold AV.sub; exact True.intro
theorem VRL.sub {σ g σ' g'} {ρ : Nat → Option Nat} (hI : ∀ a v, g.I a v → g'.I a v) (h : ∀ i j, ρ i = some j → Cpt σ g σ' g' i j) : ∀ (l : List AV) (vs : List Value), VRL σ g l vs → VRL σ' g' (AV.subL σ ρ l) vs
  | [], _, k => k
  | c :: cs, _, ⟨v, r, e, k, l⟩ => ⟨v, r, e, VR.sub hI h c v k, VRL.sub hI h cs r l⟩
end
def Blk.sub (σ : Store) (ρ : Nat → Option Nat) : Blk → Blk
  | .var cs => .var (AV.subL σ ρ cs)
  | b => b

/-! ### steps -/
structure Step (g : Gh) (σ : Store) (w : World) (g' : Gh) (σ' : Store) (w' : World) : Prop where
  I : ∀ a v, g.I a v → g'.I a v
  size : w.heap.size ≤ w'.heap.size
  same : ∀ b, b < w.heap.size → (∀ (i : Nat) c, g.μ[i]? = some c → ¬ c.owns b) → w'.heap[b]? = w.heap[b]?
  os : w'.os = w.os
  tape : w'.tape = w.tape
  output : w'.output = w.output
  cpt : ∀ i, i < g.μ.length → Cpt σ g σ' g' i i
  len : g.μ.length ≤ g'.μ.length
  own : ∀ (i : Nat) c b, g'.μ[i]? = some c → c.owns b → (∃ (j : Nat) (c' : Cn), g.μ[j]? = some c' ∧ c'.owns b) ∨ w.heap.size ≤ b
  news : ∀ a v, g'.I a v → g.I a v ∨ (∃ (j : Nat) (c' : Cn), g.μ[j]? = some c' ∧ c'.owns a.block) ∨ w.heap.size ≤ a.block
theorem Step.refl (g : Gh) (σ : Store) (w : World) : Step g σ w g σ w :=
  ⟨fun _ _ h => h, Nat.le_refl _, fun _ _ _ => rfl, rfl, rfl, rfl, fun i _ => Cpt.refl σ g i, Nat.le_refl _, fun i c b h k => .inl ⟨i, c, h, k⟩, fun _ _ h => .inl h⟩
theorem Step.trans {g σ w g' σ' w' g'' σ'' w''} (h : Step g σ w g' σ' w') (k : Step g' σ' w' g'' σ'' w'') : Step g σ w g'' σ'' w'' where
  I := fun a v e => k.I a v (h.I a v e)
  size := Nat.le_trans h.size k.size
  same := fun b hb hno => by
    rw [k.same b (Nat.lt_of_lt_of_le hb h.size) fun i c hc ho => ?_]
    · exact h.same b hb hno
    · rcases h.own i c b hc ho with ⟨j, c', h1, h2⟩ | h1
      · exact hno j c' h1 h2
      · omega
  os := k.os.trans h.os
  tape := k.tape.trans h.tape
  output := k.output.trans h.output
  cpt := fun i hi => (h.cpt i hi).trans (k.cpt i (Nat.lt_of_lt_of_le hi h.len))
  len := Nat.le_trans h.len k.len
  own := fun i c b h1 h2 => by
    rcases k.own i c b h1 h2 with ⟨j, c', h3, h4⟩ | h3
    · exact h.own j c' b h3 h4
    · exact .inr (Nat.le_trans h.size h3)
  news := fun a v ha => by
    rcases k.news a v ha with h1 | ⟨j, c', h1, h2⟩ | h1
    · exact h.news a v h1
    · exact .inr (h.own j c' _ h1 h2)
    · exact .inr (.inr (Nat.le_trans h.size h1))
theorem Step.vr {g σ w g' σ' w'} (h : Step g σ w g' σ' w') {x : AV} {v : Value} (k : VR σ g x v) : VR σ' g' x v := VR.mono h.I h.cpt x v k
theorem Step.vrl {g σ w g' σ' w'} (h : Step g σ w g' σ' w') {x : List AV} {v : List Value} (k : VRL σ g x v) : VRL σ' g' x v := VRL.mono h.I h.cpt x v k
end Go.Am
