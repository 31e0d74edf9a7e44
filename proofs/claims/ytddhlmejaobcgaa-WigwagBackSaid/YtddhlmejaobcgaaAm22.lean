/- The abstract machine 'Am': rows of structs, and what is read of them. -/
import Derived.Test.YtddhlmejaobcgaaAm19
set_option linter.unusedVariables false
set_option linter.unusedSimpArgs false
namespace Go.Am
open Go
variable {P : Program} {α : Type}
/-- The cells of a row of elements. -/
def flat (c : α → List D) : List α → List D
  | [] => []
  | x :: r => c x ++ flat c r
theorem flat_append (c : α → List D) : ∀ a b, flat c (a ++ b) = flat c a ++ flat c b
  | [], _ => rfl
  | x :: r, b => by simp [flat, flat_append c r b]
theorem flat_length {c : α → List D} {sz : Nat} (h : ∀ x, (c x).length = sz) : ∀ l, (flat c l).length = l.length * sz
  | [] => by simp [flat]
  | x :: r => by simp [flat, h, flat_length h r, Nat.add_mul, Nat.add_comm]
theorem flat_drop {c : α → List D} {sz : Nat} (h : ∀ x, (c x).length = sz) : ∀ (i : Nat) (l : List α), (flat c l).drop (i * sz) = flat c (l.drop i)
  | 0, l => by simp
  | i + 1, [] => by simp [flat]
  | i + 1, x :: r => by
    rw [flat, Nat.add_mul, Nat.one_mul, Nat.add_comm, ← List.drop_drop, List.drop_left' (h x)]
    exact flat_drop h i r
theorem flat_take {c : α → List D} {sz : Nat} (h : ∀ x, (c x).length = sz) : ∀ (i : Nat) (l : List α), (flat c l).take (i * sz) = flat c (l.take i)
  | 0, l => by simp [flat]
  | i + 1, [] => by simp [flat]
  | i + 1, x :: r => by
    rw [List.take_succ_cons, flat, flat, ← flat_take h i r, Nat.add_mul, Nat.one_mul, Nat.add_comm, List.take_append, h x]
    rw [List.take_of_length_le (by rw [h x]; omega)]
    congr 2
    omega
theorem flat_all {c : α → List D} {sz : Nat} (h : ∀ x, (c x).length = sz) (l : List α) : (flat c l).take (l.length * sz) = flat c l := by
  rw [flat_take h, List.take_length]
theorem flat_rd {c : α → List D} {sz : Nat} (h : ∀ x, (c x).length = sz) {l : List α} {i : Nat} {x : α} (hx : l[i]? = some x) {j : Nat} (hj : j < sz) : rdD (flat c l) (i * sz + j) = rdD (c x) j := by
  have hi := (List.getElem?_eq_some_iff.1 hx).1
  rw [← rdD_drop, flat_drop h, List.drop_eq_getElem_cons hi, flat]
  rw [(List.getElem?_eq_some_iff.1 hx).2]
  simp [rdD, List.getD_eq_getElem?_getD, List.getElem?_append_left (show j < (c x).length from by rw [h]; exact hj)]
theorem flat_ne {c : α → List D} {sz : Nat} (h : ∀ x, (c x).length = sz) (hs : 0 < sz) {l : List α} {i : Nat} (hi : i < l.length) : flat c l ≠ [] := fun e => by
  have := flat_length h l
  rw [e] at this
  have : 0 < l.length * sz := Nat.mul_pos (by omega) hs
  simp_all
theorem flat_one {c : α → List D} (h : ∀ x, ∀ d ∈ c x, d.one = true) : ∀ l, ∀ d ∈ flat c l, d.one = true
  | [], d, hd => by simp [flat] at hd
  | x :: r, d, hd => by
    rcases List.mem_append.1 hd with hd | hd
    · exact h x d hd
    · exact flat_one h r d hd
theorem formed_shift {cs ds : List D} {off k : Nat} : ∀ (ks : List CK) (j : Nat), (∀ i, i < ks.length → rdD cs (off + j + i) = rdD ds (k + j + i)) → formed cs ks (off + j) = formed ds ks (k + j) ∧ (formedOk ds ks (k + j) → formedOk cs ks (off + j))
  | [], _, _ => ⟨rfl, fun _ => True.intro⟩
  | q :: ks, j, h => by
    have h0 := h 0 (by simp)
    simp only [Nat.add_zero] at h0
    obtain ⟨h1, h2⟩ := formed_shift (cs := cs) (ds := ds) (off := off) (k := k) ks (j + 1) fun i hi => by
      have := h (i + 1) (by simpa using hi)
      rw [show off + (j + 1) + i = off + j + (i + 1) from by omega, show k + (j + 1) + i = k + j + (i + 1) from by omega]
      exact this
    exact ⟨by simp only [formed, h0]; rw [Nat.add_assoc, h1, ← Nat.add_assoc], fun ⟨a, b⟩ => ⟨by rw [h0]; exact a, by rw [Nat.add_assoc]; exact h2 (by rw [← Nat.add_assoc]; exact b)⟩⟩
/-- What is read of cells: these. -/
structure Elem (cs : List D) (ks : List CK) (off n : Nat) (xs : List D) : Prop where
  ok : off + n ≤ cs.length ∧ formedOk cs ks off
  eq : formed cs ks off = xs
/-- Cells at their place in an element. -/
theorem Elem.of {c : α → List D} {sz : Nat} (h : ∀ x, (c x).length = sz) {l : List α} {i : Nat} {x : α} (hx : l[i]? = some x) (ks : List CK) (j : Nat) {n : Nat} (hn : ks.length = n) (hj : j + n ≤ sz) {xs : List D} (ho : formedOk (c x) ks j) (he : formed (c x) ks j = xs) : Elem (flat c l) ks (i * sz + j) n xs := by
  have hi := (List.getElem?_eq_some_iff.1 hx).1
  subst hn
  have key := formed_shift (cs := flat c l) (ds := c x) (off := i * sz) (k := 0) ks j fun q hq => by
    rw [Nat.add_assoc, flat_rd h hx (by omega), Nat.zero_add]
  rw [Nat.zero_add] at key
  refine ⟨⟨?_, key.2 ho⟩, by rw [key.1, he]⟩
  rw [flat_length h]
  have : i * sz + sz ≤ l.length * sz := by rw [← Nat.succ_mul]; exact Nat.mul_le_mul_right _ hi
  omega
theorem Elem.all {c : α → List D} {sz : Nat} (h : ∀ x, (c x).length = sz) {l : List α} {i : Nat} {x : α} (hx : l[i]? = some x) (ks : List CK) (hn : ks.length = sz) {xs : List D} (ho : formedOk (c x) ks 0) (he : formed (c x) ks 0 = xs) : Elem (flat c l) ks (i * sz) sz xs :=
  Elem.of h hx ks 0 hn (by omega) ho he
/-- Cells of a row that grows. -/
theorem Elem.row {c : α → List D} {sz : Nat} (h : ∀ x, (c x).length = sz) {l : List α} {ks : List CK} {off n : Nat} {xs : List D} (e : Elem (flat c l) ks off n xs) : Elem ((flat c l).take (l.length * sz)) ks off n xs := by
  rw [flat_all h]; exact e
theorem W.ld {cs xs : List D} {ks : List CK} {off n : Nat} {i : TyI} {K : AV → Res} {Q : AExit → Fr → Store → Prop} (e : Elem cs ks off n xs) (hk : W P (loadK i xs K) Q) : W P (.need (off + n ≤ cs.length ∧ formedOk cs ks off) (loadK i (formed cs ks off) K)) Q :=
  W.need e.ok (by rw [e.eq]; exact hk)
/-- The place of an element is one. -/
theorem ix_ok {c : α → List D} {sz : Nat} (h : ∀ x, (c x).length = sz) (hs : 0 < sz) {l : List α} {i : Nat} (hi : i < l.length) : (0 : Int) ≤ i ∧ (i : Int) < l.length ∧ flat c l ≠ [] := ⟨by omega, by omega, flat_ne h hs hi⟩
theorem ix_row {c : α → List D} {sz : Nat} (h : ∀ x, (c x).length = sz) (hs : 0 < sz) {l : List α} {i : Nat} (hi : i < l.length) : (0 : Int) ≤ i ∧ (i : Int) < l.length ∧ (flat c l).take (l.length * sz) ≠ [] := by
  rw [flat_all h]; exact ix_ok h hs hi
/-- A row of elements, as data. -/
def slF (c : α → List D) (l : List α) : AV := .d (.sl l.length (flat c l))
/-- An answer told in other words. -/
theorem CallOk.weak {f : FuncId} {args : List AV} {σ : Store} {R R' : AV → Store → Prop} (h : CallOk P f args σ R) (hw : ∀ v s, R v s → ∃ v', (∀ (g : Gh) (x : Value), VR s g v x → VR s g v' x) ∧ R' v' s) : CallOk P f args σ R' :=
  fun g w vs hg hv => (h g w vs hg hv).mono fun x w' ⟨g', σ', av, h1, h2, h3, h4⟩ => by
    obtain ⟨v', k1, k2⟩ := hw av σ' h4
    exact ⟨g', σ', v', k1 g' x h1, h2, h3, k2⟩
/-- Nil slices as rows of no cells, within structs and answers. -/
def D.soft1 : D → D
  | .lit (.slice none 0 0) => .sl 0 []
  | x => x
def AV.softS : AV → AV
  | .d (.agg cs) => .d (.agg (cs.map D.soft1))
  | x => x.soft
def AV.softG : AV → AV
  | .tuple vs => .tuple (vs.map AV.softS)
  | x => x.softS
theorem DR.soft1 {I : Facts} {x : D} {v : Value} (h : DR I x v) : DR I x.soft1 v := by
  unfold D.soft1
  split
  · have e : v = .slice none 0 0 := h
    exact ⟨none, 0, e, Nat.le_refl _, .inl rfl⟩
  · exact h
theorem DRL.soft1 {I : Facts} : ∀ {cs : List D} {vs : List Value}, DRL I cs vs → DRL I (cs.map D.soft1) vs
  | [], _, h => h
  | _ :: _, _, ⟨v, r, e, h, k⟩ => ⟨v, r, e, h.soft1, DRL.soft1 k⟩
theorem VR.softS {σ : Store} {g : Gh} {x : AV} {v : Value} (h : VR σ g x v) : VR σ g x.softS v := by
  unfold AV.softS
  split
  · obtain ⟨vs, e, k⟩ := h
    exact ⟨vs, e, k.soft1⟩
  · exact h.soft
theorem VRL.softS {σ : Store} {g : Gh} : ∀ {cs : List AV} {vs : List Value}, VRL σ g cs vs → VRL σ g (cs.map AV.softS) vs
  | [], _, h => h
  | _ :: _, _, ⟨v, r, e, h, k⟩ => ⟨v, r, e, h.softS, VRL.softS k⟩
theorem VR.softG {σ : Store} {g : Gh} {x : AV} {v : Value} (h : VR σ g x v) : VR σ g x.softG v := by
  unfold AV.softG
  split
  · obtain ⟨vs, e, k⟩ := h
    exact ⟨vs, e, k.softS⟩
  · exact h.softS
theorem CallOk.softG {f : FuncId} {args : List AV} {σ : Store} {R : AV → Store → Prop} (h : CallOk P f args σ fun v s => R v.softG s) : CallOk P f args σ R :=
  h.weak fun v s hv => ⟨v.softG, fun g x hx => hx.softG, hv⟩
end Go.Am
