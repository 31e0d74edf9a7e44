/- The abstract machine 'Am': what its values and stores say of the machine's own values and worlds. -/
import Derived.Test.YtddhlmejaobcgaaAm1
import Derived.RowKit3
set_option linter.unusedVariables false
set_option linter.unusedSimpArgs false
namespace Go.Am
open Go

/-! ### immutable data -/
abbrev Facts := Addr → Value → Prop
mutual
def DR (I : Facts) : D → Value → Prop
  | .lit v, x => x = v
  | .agg cs, x => ∃ vs : List Value, x = .agg vs.toArray ∧ DRL I cs vs
  | .sl n cs, x => ∃ a cap, x = .slice a n cap ∧ n ≤ cap ∧ (cs = [] ∨ ∃ b off, a = some ⟨b, off, none⟩ ∧ DRM I b off cs)
  | .box cs off, x => ∃ b base, x = .pointer (some ⟨b, base + off, none⟩) ∧ DRM I b base cs
  | .iface t d, x => ∃ v, x = .iface t v ∧ DR I d v
def DRL (I : Facts) : List D → List Value → Prop
  | [], vs => vs = []
  | c :: cs, vs => ∃ v r, vs = v :: r ∧ DR I c v ∧ DRL I cs r
def DRM (I : Facts) (b : Nat) : Nat → List D → Prop
  | _, [] => True
  | off, c :: cs => (∃ v, I ⟨b, off, none⟩ v ∧ DR I c v) ∧ DRM I b (off + 1) cs
end
mutual
theorem DR.mono {I J : Facts} (h : ∀ a v, I a v → J a v) : ∀ (x : D) (v : Value), DR I x v → DR J x v
  | .lit _, _, k => k
  | .agg cs, _, ⟨vs, e, k⟩ => ⟨vs, e, DRL.mono h cs vs k⟩
  | .sl _ cs, _, ⟨a, cap, e, hn, k⟩ => ⟨a, cap, e, hn, k.imp id fun ⟨b, off, ha, k⟩ => ⟨b, off, ha, DRM.mono h b off cs k⟩⟩
  | .box cs _, _, ⟨b, base, e, k⟩ => ⟨b, base, e, DRM.mono h b base cs k⟩
  | .iface _ d, _, ⟨v, e, k⟩ => ⟨v, e, DR.mono h d v k⟩
theorem DRL.mono {I J : Facts} (h : ∀ a v, I a v → J a v) : ∀ (l : List D) (vs : List Value), DRL I l vs → DRL J l vs
  | [], _, k => k
  | c :: cs, _, ⟨v, r, e, k, l⟩ => ⟨v, r, e, DR.mono h c v k, DRL.mono h cs r l⟩
theorem DRM.mono {I J : Facts} (h : ∀ a v, I a v → J a v) (b : Nat) : ∀ (off : Nat) (l : List D), DRM I b off l → DRM J b off l
  | _, [], _ => True.intro
  | off, c :: cs, ⟨⟨v, k, l⟩, m⟩ => ⟨⟨v, h _ _ k, DR.mono h c v l⟩, DRM.mono h b (off + 1) cs m⟩
end
theorem DRM.get {I : Facts} {b : Nat} : ∀ {off : Nat} {cs : List D}, DRM I b off cs → ∀ j, j < cs.length → ∃ v, I ⟨b, off + j, none⟩ v ∧ DR I (rdD cs j) v
  | off, c :: cs, ⟨⟨v, k, l⟩, m⟩, 0, _ => ⟨v, by simpa using k, by simpa [rdD] using l⟩
  | off, c :: cs, ⟨_, m⟩, j + 1, h => by
    obtain ⟨v, k, l⟩ := DRM.get m j (by simpa using h)
    exact ⟨v, by rw [show off + (j + 1) = off + 1 + j from by omega]; exact k, by simpa [rdD] using l⟩
theorem DRM.of_get {I : Facts} {b : Nat} : ∀ {off : Nat} {cs : List D}, (∀ j, j < cs.length → ∃ v, I ⟨b, off + j, none⟩ v ∧ DR I (rdD cs j) v) → DRM I b off cs
  | _, [], _ => True.intro
  | off, c :: cs, h => ⟨by
      obtain ⟨v, k, l⟩ := h 0 (by simp)
      exact ⟨v, by simpa using k, by simpa [rdD] using l⟩, DRM.of_get (off := off + 1) fun j hj => by
      obtain ⟨v, k, l⟩ := h (j + 1) (by simpa using hj)
      exact ⟨v, by rw [show off + 1 + j = off + (j + 1) from by omega]; exact k, by simpa [rdD] using l⟩⟩
theorem rdD_drop (cs : List D) (k j : Nat) : rdD (cs.drop k) j = rdD cs (k + j) := by simp [rdD, List.getD_eq_getElem?_getD]
theorem rdD_take (cs : List D) (k j : Nat) (h : j < k) : rdD (cs.take k) j = rdD cs j := by simp [rdD, List.getD_eq_getElem?_getD, h]
theorem DRM.drop {I : Facts} {b off : Nat} {cs : List D} (h : DRM I b off cs) (k : Nat) : DRM I b (off + k) (cs.drop k) :=
  DRM.of_get fun j hj => by
    obtain ⟨v, hv, hd⟩ := h.get (k + j) (by simp at hj; omega)
    exact ⟨v, by rw [Nat.add_assoc]; exact hv, by rw [rdD_drop]; exact hd⟩
theorem DRM.take {I : Facts} {b off : Nat} {cs : List D} (h : DRM I b off cs) (k : Nat) : DRM I b off (cs.take k) :=
  DRM.of_get fun j hj => by
    simp only [List.length_take] at hj
    obtain ⟨v, hv, hd⟩ := h.get j (by omega)
    exact ⟨v, hv, by rw [rdD_take _ _ _ (by omega)]; exact hd⟩
theorem DRM.append {I : Facts} {b off : Nat} {cs ds : List D} (h : DRM I b off cs) (k : DRM I b (off + cs.length) ds) : DRM I b off (cs ++ ds) :=
  DRM.of_get fun j hj => by
    by_cases hlt : j < cs.length
    · obtain ⟨v, hv, hd⟩ := h.get j hlt
      exact ⟨v, hv, by have : rdD (cs ++ ds) j = rdD cs j := by simp [rdD, List.getD_eq_getElem?_getD, List.getElem?_append_left hlt]
                       rw [this]; exact hd⟩
    · obtain ⟨v, hv, hd⟩ := k.get (j - cs.length) (by simp at hj; omega)
      exact ⟨v, by rw [show off + j = off + cs.length + (j - cs.length) from by omega]; exact hv, by
        have : rdD (cs ++ ds) j = rdD ds (j - cs.length) := by simp [rdD, List.getD_eq_getElem?_getD, List.getElem?_append_right (Nat.le_of_not_lt hlt)]
        rw [this]; exact hd⟩
theorem DRL.length {I : Facts} : ∀ {cs : List D} {vs : List Value}, DRL I cs vs → vs.length = cs.length
  | [], _, h => by rw [DRL] at h; subst h; rfl
  | c :: cs, _, ⟨v, r, e, _, k⟩ => by subst e; simp [DRL.length k]
theorem DRL.get {I : Facts} : ∀ {cs : List D} {vs : List Value}, DRL I cs vs → ∀ {j : Nat} {x : D}, cs[j]? = some x → ∃ v, vs[j]? = some v ∧ DR I x v
  | c :: cs, _, ⟨v, r, e, h, k⟩, 0, x, hx => by subst e; simp at hx; subst hx; exact ⟨v, rfl, h⟩
  | c :: cs, _, ⟨v, r, e, h, k⟩, j + 1, x, hx => by
    subst e
    obtain ⟨u, hu, hd⟩ := DRL.get k (j := j) (by simpa using hx)
    exact ⟨u, by simpa using hu, hd⟩

/-! ### values -/
inductive Cn where
  | var (b : Nat)
  | vec (s : Value)
  | row (b cap : Nat)
  | map (b : Nat)
  | iter (b : Nat)
  | heap (snap : Nat → Option Obj)
  | dead
/-- The blocks that a place of the store owns. -/
def Cn.owns : Cn → Nat → Prop
  | .var b, x => b = x
  | .vec (.slice (some a) _ (_ + 1)), x => a.block = x
  | .vec _, _ => False
  | .row b (_ + 1), x => b = x
  | .row _ 0, _ => False
  | .map b, x => b = x
  | .iter b, x => b = x
  | .heap snap, x => snap x ≠ none
  | .dead, _ => False
/-- What holds of the program's own memory from its start on (a package-level variable that nothing writes). -/
def glJ : Facts := fun _ _ => False
/- Places of the program's own memory that hold an interface value, whichever it is. -/
def glS : Addr → Prop := fun _ => False
def GlobOk (I : Facts) : Prop := (∀ a v, glJ a v → I a v) ∧ ∀ a, glS a → ∃ v, I a v ∧ (v = .nilIface ∨ ∃ t x, v = .iface t x)
theorem GlobOk.mono {I J : Facts} (h : GlobOk I) (hJ : ∀ a v, I a v → J a v) : GlobOk J := ⟨fun a v k => hJ a v (h.1 a v k), fun a k => (h.2 a k).imp fun v k => ⟨hJ a v k.1, k.2⟩⟩
structure Gh where
  μ : List Cn
  I : Facts

mutual
def VR (σ : Store) (g : Gh) : AV → Value → Prop
  | .d x, v => DR g.I x v
  | .ptr id off, v => ∃ b, g.μ[id]? = some (.var b) ∧ v = .pointer (some ⟨b, off, none⟩)
  | .vec id n, v => ∃ s sz m cs a cap, g.μ[id]? = some (.vec s) ∧ σ[id]? = some (.vec sz m cs) ∧ n ≤ m ∧ v = .slice a n cap ∧ n ≤ cap ∧ (n = m → v = s) ∧ n * sz ≤ cs.length ∧
      (cs.take (n * sz) = [] ∨ ∃ b off, a = some ⟨b, off, none⟩ ∧ DRM g.I b off (cs.take (n * sz)))
  | .map id, v => ∃ b, g.μ[id]? = some (.map b) ∧ v = .map (some b)
  | .iter id, v => ∃ b, g.μ[id]? = some (.iter b) ∧ v = .pointer (some ⟨b, 0, none⟩)
  | .win id off n, v => ∃ b cap o, g.μ[id]? = some (.var b) ∧ v = .slice (some ⟨b, o, none⟩) n cap ∧ n ≤ cap ∧ (n = 0 ∨ o = off)
  | .row id ep off n, v => ∃ b cap sz e cs a k, g.μ[id]? = some (.row b cap) ∧ σ[id]? = some (.row sz e cs) ∧ v = .slice a n k ∧ n ≤ k ∧ (n = 0 ∨ a ≠ none) ∧ ep ≤ e ∧ (ep = e → off + k * sz = cap ∧ (k = 0 ∨ a = some ⟨b, off, none⟩))
  | .cell id ep off, v => ∃ b cap sz e cs a, g.μ[id]? = some (.row b cap) ∧ σ[id]? = some (.row sz e cs) ∧ v = .pointer (some a) ∧ ep ≤ e ∧ (ep = e → a = ⟨b, off, none⟩)
  | .agg cs, v => ∃ vs : List Value, v = .agg vs.toArray ∧ VRL σ g cs vs
  | .tuple cs, v => ∃ vs : List Value, v = .tuple vs.toArray ∧ VRL σ g cs vs
  | .fn f cs, v => ∃ vs : List Value, v = .func (.func f) #[] vs.toArray ∧ VRL σ g cs vs
  | .undef, _ => True
def VRL (σ : Store) (g : Gh) : List AV → List Value → Prop
  | [], vs => vs = []
  | c :: cs, vs => ∃ v r, vs = v :: r ∧ VR σ g c v ∧ VRL σ g cs r
end
theorem VRL.length {σ : Store} {g : Gh} : ∀ {cs : List AV} {vs : List Value}, VRL σ g cs vs → vs.length = cs.length
  | [], _, h => by rw [VRL] at h; subst h; rfl
  | c :: cs, _, ⟨v, r, e, _, k⟩ => by subst e; simp [VRL.length k]
theorem VRL.get {σ : Store} {g : Gh} : ∀ {cs : List AV} {vs : List Value}, VRL σ g cs vs → ∀ {j : Nat} {x : AV}, cs[j]? = some x → ∃ v, vs[j]? = some v ∧ VR σ g x v
  | c :: cs, _, ⟨v, r, e, h, k⟩, 0, x, hx => by subst e; simp at hx; subst hx; exact ⟨v, rfl, h⟩
  | c :: cs, _, ⟨v, r, e, h, k⟩, j + 1, x, hx => by
    subst e
    obtain ⟨u, hu, hd⟩ := VRL.get k (j := j) (by simpa using hx)
    exact ⟨u, by simpa using hu, hd⟩
theorem VRL.of_get {σ : Store} {g : Gh} : ∀ {cs : List AV} {vs : List Value}, vs.length = cs.length → (∀ (j : Nat) (x : AV) (v : Value), cs[j]? = some x → vs[j]? = some v → VR σ g x v) → VRL σ g cs vs
  | [], vs, h, _ => by rw [VRL]; exact List.eq_nil_of_length_eq_zero h
  | c :: cs, [], h, _ => by simp at h
  | c :: cs, v :: vs, h, k => ⟨v, vs, rfl, k 0 c v rfl rfl, VRL.of_get (by simpa using h) fun j x u hx hu => k (j + 1) x u (by simpa using hx) (by simpa using hu)⟩
theorem VRL.append {σ : Store} {g : Gh} : ∀ {cs ds : List AV} {vs us : List Value}, VRL σ g cs vs → VRL σ g ds us → VRL σ g (cs ++ ds) (vs ++ us)
  | [], _, _, _, h, k => by rw [VRL] at h; subst h; exact k
  | c :: cs, _, _, _, ⟨v, r, e, h, l⟩, k => by subst e; exact ⟨v, r ++ _, rfl, h, VRL.append l k⟩
theorem VRL.take {σ : Store} {g : Gh} : ∀ {cs : List AV} {vs : List Value} (n : Nat), VRL σ g cs vs → VRL σ g (cs.take n) (vs.take n)
  | _, _, 0, _ => by simp [VRL]
  | [], _, n + 1, h => by rw [VRL] at h; subst h; simp [VRL]
  | c :: cs, _, n + 1, ⟨v, r, e, h, l⟩ => by subst e; exact ⟨v, _, rfl, h, VRL.take n l⟩
theorem VRL.drop {σ : Store} {g : Gh} : ∀ {cs : List AV} {vs : List Value} (n : Nat), VRL σ g cs vs → VRL σ g (cs.drop n) (vs.drop n)
  | _, _, 0, h => by simpa using h
  | [], _, n + 1, h => by rw [VRL] at h; subst h; simp [VRL]
  | c :: cs, _, n + 1, ⟨v, r, e, h, l⟩ => by subst e; exact VRL.drop n l
theorem VRL.of_allD {σ : Store} {g : Gh} : ∀ {cs : List AV} {ds : List D} {vs : List Value}, allD cs = some ds → (VRL σ g cs vs ↔ DRL g.I ds vs)
  | [], ds, vs, h => by simp [allD] at h; subst h; simp [VRL, DRL]
  | c :: cs, ds, vs, h => by
    cases c with
    | d x =>
      simp only [allD] at h
      cases hc : allD cs with
      | none => rw [hc] at h; cases h
      | some l =>
        rw [hc] at h
        obtain rfl : x :: l = ds := by simpa using h
        simp only [VRL, DRL, VR]
        exact ⟨fun ⟨v, r, e, k, m⟩ => ⟨v, r, e, k, (VRL.of_allD hc).1 m⟩, fun ⟨v, r, e, k, m⟩ => ⟨v, r, e, k, (VRL.of_allD hc).2 m⟩⟩
    | _ => simp [allD] at h
theorem VR.mkAgg {σ : Store} {g : Gh} {cs : List AV} {vs : List Value} (h : VRL σ g cs vs) : VR σ g (mkAgg cs) (.agg vs.toArray) := by
  unfold Am.mkAgg
  cases hc : allD cs with
  | none => exact ⟨vs, rfl, h⟩
  | some l => exact ⟨vs, rfl, (VRL.of_allD hc).1 h⟩
theorem VRL.of_ds {σ : Store} {g : Gh} : ∀ {cs : List D} {vs : List Value}, VRL σ g (cs.map .d) vs ↔ DRL g.I cs vs
  | [], vs => by simp [VRL, DRL]
  | c :: cs, vs => by
    simp only [List.map_cons, VRL, DRL, VR]
    exact ⟨fun ⟨v, r, e, k, m⟩ => ⟨v, r, e, k, VRL.of_ds.1 m⟩, fun ⟨v, r, e, k, m⟩ => ⟨v, r, e, k, VRL.of_ds.2 m⟩⟩
theorem id' {p : Prop} (h : p) : p := h
theorem VR.cells {σ : Store} {g : Gh} {x : AV} {v : Value} (h : VR σ g x v) (hk : x.known = true) : VRL σ g x.cells v.cells.toList := by
  have one : ∀ (x : AV), VR σ g x v → x.cells = [x] → v.cells = #[v] → VRL σ g x.cells v.cells.toList := fun x h e e' => by rw [e, e']; exact ⟨v, [], rfl, h, rfl⟩
  cases x with
  | d x =>
    cases x with
    | lit u =>
      have h' : v = u := h
      subst h'
      refine one _ h rfl ?_
      cases v <;> first | rfl | (simp [AV.known] at hk)
    | agg cs =>
      obtain ⟨vs, e, k⟩ := h
      subst e
      exact VRL.of_ds.2 k
    | sl n cs => obtain ⟨a, cap, e, r⟩ := id' h; subst e; exact one _ h rfl rfl
    | box cs off => obtain ⟨a, cap, e, r⟩ := id' h; subst e; exact one _ h rfl rfl
    | iface t y => obtain ⟨a, e, r⟩ := id' h; subst e; exact one _ h rfl rfl
  | ptr id off => obtain ⟨b, _, e⟩ := id' h; subst e; exact one _ h rfl rfl
  | vec id n => obtain ⟨s, sz, m, cs, a, cap, _, _, _, e, _⟩ := id' h; subst e; exact one _ h rfl rfl
  | map id => obtain ⟨b, _, e⟩ := id' h; subst e; exact one _ h rfl rfl
  | iter id => obtain ⟨b, _, e⟩ := id' h; subst e; exact one _ h rfl rfl
  | win id off n => obtain ⟨b, cap, o, _, e, _⟩ := id' h; subst e; exact one _ h rfl rfl
  | row id ep off n => obtain ⟨b, cap, sz, e', cs, a, k, _, _, e, _⟩ := id' h; subst e; exact one _ h rfl rfl
  | cell id ep off => obtain ⟨b, cap, sz, e', cs, a, _, _, e, _⟩ := id' h; subst e; exact one _ h rfl rfl
  | agg cs =>
    obtain ⟨vs, e, k⟩ := h
    subst e
    exact k
  | tuple vs => simp [AV.known] at hk
  | fn f cs => obtain ⟨vs, e, k⟩ := id' h; subst e; exact one _ h rfl rfl
  | undef => simp [AV.known] at hk
end Go.Am
