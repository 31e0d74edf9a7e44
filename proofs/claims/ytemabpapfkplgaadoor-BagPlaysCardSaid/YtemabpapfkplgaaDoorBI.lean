import Derived.Test.YtemabpapfkplgaaDoorBQ
set_option maxRecDepth 100000
set_option linter.unusedVariables false
set_option linter.unusedSimpArgs false
/- A bag behind some calls. -/
namespace Go.Proofs.YtemabpapfkplgaaDoor.Bg
open Go Go.Am
structure Inv (i : Nat) (b : B) : Prop where
  n0 : 0 ≤ b.n
  n1 : b.n ≤ i
  len : b.l.length ≤ i
  srt : b.l.Pairwise fun p q => p.id < q.id
  top : ∀ p ∈ b.l, p.id ≤ b.n
  tx : ∀ p ∈ b.l, p.tx.size ≤ 2000
theorem Inv.more {i : Nat} {b : B} (h : Inv i b) : Inv (i + 1) b := ⟨h.n0, by have := h.n1; omega, by have := h.len; omega, h.srt, h.top, h.tx⟩
theorem Inv.snoc {i : Nat} {b : B} (h : Inv i b) (f t : Int) (s : ByteArray) (hs : s.size ≤ 2000) (e : Nat) (j : List D) : Inv (i + 1) ⟨b.n + 1, b.l ++ [⟨b.n + 1, f, t, s⟩], e, j⟩ where
  n0 := by have := h.n0; show 0 ≤ b.n + 1; omega
  n1 := by have := h.n1; show b.n + 1 ≤ ((i + 1 : Nat) : Int); omega
  len := by have := h.len; simp only [List.length_append, List.length_singleton]; omega
  srt := by
    refine List.pairwise_append.2 ⟨h.srt, by simp, fun p hp q hq => ?_⟩
    obtain rfl := List.mem_singleton.1 hq
    have := h.top p hp
    show p.id < b.n + 1
    omega
  top := fun p hp => by
    rcases List.mem_append.1 hp with hp | hp
    · have := h.top p hp; show p.id ≤ b.n + 1; omega
    · obtain rfl := List.mem_singleton.1 hp; exact Int.le_refl _
  tx := fun p hp => by
    rcases List.mem_append.1 hp with hp | hp
    · exact h.tx p hp
    · obtain rfl := List.mem_singleton.1 hp; exact hs
theorem Inv.sub {i : Nat} {b : B} (h : Inv i b) {l : List Pk} (hl : l.Sublist b.l) (e : Nat) (j : List D) : Inv (i + 1) ⟨b.n, l, e, j⟩ where
  n0 := h.n0
  n1 := by have := h.n1; show b.n ≤ ((i + 1 : Nat) : Int); omega
  len := by have := h.len; have h2 := hl.length_le; simp only; omega
  srt := h.srt.sublist hl
  top := fun p hp => h.top p (hl.subset hp)
  tx := fun p hp => h.tx p (hl.subset hp)
theorem ix_cases (x : Int) (l : List Pk) : (ixI x l = -1 ∧ ∀ p ∈ l, (p.id == x) = false) ∨ ∃ (k : Nat) (p : Pk), ixI x l = k ∧ l[k]? = some p ∧ (p.id == x) = true ∧ ∀ m q, m < k → l[m]? = some q → (q.id == x) = false := by
  rcases ixD_spec (fun p => p.id == x) l 0 with h | ⟨k, p, h1, h2, h3, h4⟩
  · exact .inl h
  · exact .inr ⟨k, p, by unfold ixI; rw [h1, Nat.zero_add], h2, h3, h4⟩
/-- One is taken. -/
theorem rest_one {l : List Pk} (hs : l.Pairwise fun p q => p.id < q.id) {k : Nat} {p : Pk} (hp : l[k]? = some p) : rest (fun q => q.id == p.id) l = l.eraseIdx k := by
  obtain ⟨h1, h2⟩ := List.getElem?_eq_some_iff.1 hp
  have e : l = l.take k ++ ([p] ++ l.drop (k + 1)) := by
    rw [List.singleton_append, ← drop_pk hp, List.take_append_drop]
  have ha : rest (fun q => q.id == p.id) (l.take k) = l.take k := rest_all fun q hq => by
    obtain ⟨m, hm, hmp⟩ := List.mem_iff_getElem.1 hq
    rw [List.length_take] at hm
    have := List.pairwise_iff_getElem.1 hs m k (by omega) h1 (by omega)
    rw [List.getElem_take] at hmp
    rw [hmp, h2] at this
    show (q.id == p.id) = false
    rw [beq_int]; exact decide_eq_false (by omega)
  have hb : rest (fun q => q.id == p.id) (l.drop (k + 1)) = l.drop (k + 1) := rest_all fun q hq => by
    obtain ⟨m, hm, hmp⟩ := List.mem_iff_getElem.1 hq
    rw [List.length_drop] at hm
    have := List.pairwise_iff_getElem.1 hs k (k + 1 + m) h1 (by omega) (by omega)
    rw [List.getElem_drop] at hmp
    rw [hmp, h2] at this
    show (q.id == p.id) = false
    rw [beq_int]; exact decide_eq_false (by omega)
  have hm : rest (fun q => q.id == p.id) [p] = [] := by unfold rest; simp
  have split : ∀ a b, rest (fun q => q.id == p.id) (a ++ b) = rest (fun q => q.id == p.id) a ++ rest (fun q => q.id == p.id) b := fun a b => List.filter_append a b
  rw [List.eraseIdx_eq_take_drop_succ]
  conv => lhs; rw [e]
  rw [split, split, ha, hb, hm, List.nil_append]
theorem pkD {l : List Pk} {i : Nat} {p : Pk} (h : l[i]? = some p) : Elem (flat pkC l) [.int .i64, .int .i64, .int .i64, .str] (i * 4) 4 (pkC p) :=
  Elem.all pkC_len h [.int .i64, .int .i64, .int .i64, .str] rfl ⟨rfl, rfl, rfl, rfl, True.intro⟩ rfl
theorem ba_refl (s : ByteArray) : (s == s) = true := by
  cases s with | mk d => exact beq_self_eq_true d
theorem keep3 : ∀ i, i < 3 → [0, 1, 2][i]? = some i := by
  intro j hj; have : j = 0 ∨ j = 1 ∨ j = 2 := (by omega); rcases this with rfl | rfl | rfl <;> rfl
/-- A call: its kind, two numbers, a text. -/
structure Act where
  k : Int
  a : Int
  b : Int
  s : ByteArray
def acC (a : Act) : List D := [nI a.k, nI a.a, nI a.b, sD a.s]
theorem acC_len (a : Act) : (acC a).length = 4 := rfl
theorem acE {l : List Act} {i : Nat} {a : Act} (h : l[i]? = some a) : Elem (flat acC l) [.int .i64, .int .i64, .int .i64, .str] (i * 4) 4 (acC a) := Elem.all acC_len h [.int .i64, .int .i64, .int .i64, .str] rfl ⟨rfl, rfl, rfl, rfl, True.intro⟩ rfl
end Go.Proofs.YtemabpapfkplgaaDoor.Bg
