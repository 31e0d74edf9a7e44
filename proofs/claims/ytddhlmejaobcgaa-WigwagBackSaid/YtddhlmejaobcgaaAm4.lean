/- The abstract machine 'Am': what it knows of the types, held against a program; and the machine's runs of small things. -/
import Derived.Test.YtddhlmejaobcgaaAm3
import Derived.Laws.Rows
import Derived.Laws.Build
import Derived.Laws.Append
import Derived.Laws.AppendOwn
import Derived.Laws.CopyRow
set_option linter.unusedVariables false
set_option linter.unusedSimpArgs false
namespace Go.Am
open Go

/-- Values without addresses that are held against each other. -/
def plainEq : Value → Value → Bool
  | .bool a, .bool b => a == b
  | .int k a, .int j b => k == j && a == b
  | .string a, .string b => a.data.toList == b.data.toList
  | .pointer none, .pointer none => true
  | .slice none 0 0, .slice none 0 0 => true
  | .map none, .map none => true
  | .nilIface, .nilIface => true
  | .nilFunc, .nilFunc => true
  | _, _ => false
theorem plainEq_eq : ∀ {a b : Value}, plainEq a b = true → a = b := by
  intro a b h
  unfold plainEq at h
  split at h <;> first | rfl | (simp at h; done) | skip
  · simpa using h
  · simp only [Bool.and_eq_true, beq_iff_eq] at h; rw [h.1, h.2]
  · rename_i a b
    have h := eq_of_beq h
    cases a; cases b
    simp at h
    simp [h]
def plainsEq : List Value → List Value → Bool
  | [], [] => true
  | a :: r, b :: s => plainEq a b && plainsEq r s
  | _, _ => false
theorem plainsEq_eq : ∀ {a b : List Value}, plainsEq a b = true → a = b
  | [], [], _ => rfl
  | [], _ :: _, h => by simp [plainsEq] at h
  | _ :: _, [], h => by simp [plainsEq] at h
  | a :: r, b :: s, h => by
    simp only [plainsEq, Bool.and_eq_true] at h
    rw [plainEq_eq h.1, plainsEq_eq h.2]
def fieldsEq : List (Nat × TypeId) → List Field → Bool
  | [], [] => true
  | (o, t) :: r, f :: s => Nat.beq o f.offset && Nat.beq t f.type && f.name != "_" && fieldsEq r s
  | _, _ => false

/-- An element type's size, bytes, zero. -/
def elemB (P : Program) (e : TypeId) (sz by_ : Nat) : Bool :=
  match P.info? e with
  | some ie => Nat.beq ie.size sz && Nat.beq ie.bytes by_ && (match ie.zero with | some z => Nat.beq z.cells.size sz | none => false) && Nat.ble 1 sz
  | none => false
/-- A map's elements: structs have structs for zeros, the others haven't. -/
def elemZ (P : Program) (e : TypeId) : Bool :=
  match P.info? e with
  | some ie => match ie.zero, P.underlying e with
    | some (.agg _), some (.struct _) => true
    | some (.agg _), some (.array _ _) => true
    | some (.agg _), _ => false
    | some (.tuple _), _ => false
    | some _, some (.struct _) => false
    | some _, some (.array _ _) => false
    | some _, some _ => true
    | _, _ => false
  | none => false
def descB (P : Program) (t : TypeId) (d : TyD) (kinds : List CK) : Bool :=
  match P.underlying t, d with
  | some (.int k), .scalar => (match kinds with | [.int j] => k == j | _ => false)
  | some .bool, .scalar => (match kinds with | [.bool] => true | _ => false)
  | some .string, .str => true
  | some (.pointer _), .ptr => true
  | some (.slice e), .slice e' sz by_ u8 => Nat.beq e e' && elemB P e sz by_ && (!u8 || (match P.underlying e with | some (.int .u8) => true | _ => false))
  | some (.array n e), .array n' e' sz => Nat.beq n n' && Nat.beq e e' && (match P.info? e with | some ie => Nat.beq ie.size sz | none => false)
  | some (.struct fs), .struct fs' => fieldsEq fs' fs.toList && !P.stoodInHeld t
  | some (.interface _), .iface => true
  | some (.map k e), .map k' e' => Nat.beq k k' && Nat.beq e e' && elemZ P e
  | _, _ => false
def tyB (P : Program) (t : TypeId) (i : TyI) : Bool :=
  (match P.info? t with
   | some inf => Nat.beq inf.size i.size && (match inf.zero with | some z => plainsEq i.zero z.cells.toList | none => false)
   | none => false) &&
  descB P t i.desc i.kinds && (!i.eqs || !P.eqGuardType P.depth t) &&
  (i.agg == (match P.underlying t with | some (.struct _) | some (.array _ _) => true | _ => false))
def tysB (P : Program) (ty : Tys) : Bool := ty.all fun p => tyB P p.1 p.2
structure TysOk (P : Program) (ty : Tys) : Prop where
  ok : ∀ t i, ty.get t = some i → tyB P t i = true
theorem TysOk.of {P : Program} {ty : Tys} (h : tysB P ty = true) : TysOk P ty := ⟨by
  induction ty with
  | nil => intro t i h; simp [Tys.get] at h
  | cons p r ih =>
    simp only [tysB, List.all_cons, Bool.and_eq_true] at h
    intro t i ht
    obtain ⟨j, x⟩ := p
    simp only [Tys.get] at ht
    cases hb : Nat.beq j t with
    | true =>
      rw [hb] at ht
      simp at ht
      subst ht
      rw [← Nat.eq_of_beq_eq_true hb]
      exact h.1
    | false => rw [hb] at ht; exact ih h.2 t i (by simpa using ht)⟩

section facts
variable {P : Program} {ty : Tys} {t : TypeId} {i : TyI}
theorem ty_info (h : tyB P t i = true) : ∃ inf z, P.info? t = some inf ∧ inf.size = i.size ∧ inf.zero = some z ∧ z.cells.toList = i.zero := by
  simp only [tyB, Bool.and_eq_true] at h
  cases hi : P.info? t with
  | none => simp [hi] at h
  | some inf =>
    cases hz : inf.zero with
    | none => simp [hi, hz] at h
    | some z =>
      simp only [hi, hz, Bool.and_eq_true] at h
      exact ⟨inf, z, rfl, Nat.eq_of_beq_eq_true h.1.1.1.1, hz, (plainsEq_eq h.1.1.1.2).symm⟩
theorem ty_desc (h : tyB P t i = true) : descB P t i.desc i.kinds = true := by
  simp only [tyB, Bool.and_eq_true] at h
  exact h.1.1.2
theorem ty_eqs (h : tyB P t i = true) (he : i.eqs = true) : P.eqGuardType P.depth t = false := by
  simp only [tyB, Bool.and_eq_true] at h
  simpa [he] using h.1.2
theorem ty_und (h : tyB P t i = true) : ∃ d, P.underlying t = some d ∧ i.agg = (match d with | .struct _ | .array _ _ => true | _ => false) := by
  have h1 := ty_desc h
  simp only [tyB, Bool.and_eq_true] at h
  have h2 := h.2
  cases hu : P.underlying t with
  | none => simp [descB, hu] at h1
  | some d =>
    refine ⟨d, rfl, ?_⟩
    rw [hu] at h2
    have := eq_of_beq h2
    rw [this]
    cases d <;> rfl
theorem run_isAgg (h : tyB P t i = true) (w : World) : (isAgg t).run P w = .ok i.agg w := by
  obtain ⟨d, hu, ha⟩ := ty_und h
  unfold isAgg
  rw [Sem.run_bind, run_underlying hu w, ha]
  cases d <;> rfl
theorem run_size (h : tyB P t i = true) (w : World) : (sizeOf t).run P w = .ok i.size w := by
  obtain ⟨inf, z, h1, h2, _⟩ := ty_info h
  simp [sizeOf, typeInfo, h1, h2]
theorem run_zero (h : tyB P t i = true) (w : World) : ∃ z, (zeroValue t).run P w = .ok z w ∧ z.cells.toList = i.zero := by
  obtain ⟨inf, z, h1, h2, h3, h4⟩ := ty_info h
  exact ⟨z, by simp [zeroValue, typeInfo, h1, h3], h4⟩
theorem und_int {k : IntKind} (h : tyB P t i = true) (hd : i.desc = .scalar) (hk : i.kinds = [.int k]) : P.underlying t = some (.int k) := by
  have h1 := ty_desc h
  rw [hd, hk] at h1
  unfold descB at h1
  split at h1 <;> simp_all
theorem und_bool (h : tyB P t i = true) (hd : i.desc = .scalar) (hk : i.kinds = [.bool]) : P.underlying t = some .bool := by
  have h1 := ty_desc h
  rw [hd, hk] at h1
  unfold descB at h1
  split at h1 <;> simp_all
theorem und_scalar (h : tyB P t i = true) (hd : i.desc = .scalar) : (∃ k, P.underlying t = some (.int k)) ∨ P.underlying t = some .bool := by
  have h1 := ty_desc h
  rw [hd] at h1
  unfold descB at h1
  split at h1 <;> simp_all
theorem und_str (h : tyB P t i = true) (hd : i.desc = .str) : P.underlying t = some .string := by
  have h1 := ty_desc h
  rw [hd] at h1
  unfold descB at h1
  split at h1 <;> simp_all
theorem und_iface (h : tyB P t i = true) (hd : i.desc = .iface) : ∃ ms, P.underlying t = some (.interface ms) := by
  have h1 := ty_desc h
  rw [hd] at h1
  unfold descB at h1
  split at h1 <;> simp_all
theorem not_iface (h : tyB P t i = true) (hd : i.desc ≠ .iface) : ∀ ms, P.underlying t ≠ some (.interface ms) := by
  have h1 := ty_desc h
  intro ms hu
  unfold descB at h1
  rw [hu] at h1
  split at h1 <;> simp_all
theorem elem_of {e : TypeId} {sz by_ : Nat} (h : elemB P e sz by_ = true) : ∃ ie z, P.info? e = some ie ∧ ie.size = sz ∧ ie.bytes = by_ ∧ ie.zero = some z ∧ z.cells.size = sz ∧ 0 < sz := by
  unfold elemB at h
  cases hi : P.info? e with
  | none => simp [hi] at h
  | some ie =>
    cases hz : ie.zero with
    | none => simp [hi, hz] at h
    | some z =>
      simp only [hi, hz, Bool.and_eq_true] at h
      exact ⟨ie, z, rfl, Nat.eq_of_beq_eq_true h.1.1.1, Nat.eq_of_beq_eq_true h.1.1.2, hz, Nat.eq_of_beq_eq_true h.1.2, Nat.le_of_ble_eq_true h.2⟩
theorem und_slice {e : TypeId} {sz by_ : Nat} {u8 : Bool} (h : tyB P t i = true) (hd : i.desc = .slice e sz by_ u8) :
    P.underlying t = some (.slice e) ∧ (∃ ie z, P.info? e = some ie ∧ ie.size = sz ∧ ie.bytes = by_ ∧ ie.zero = some z ∧ z.cells.size = sz ∧ 0 < sz) ∧ (u8 = true → P.underlying e = some (.int .u8)) := by
  have h1 := ty_desc h
  rw [hd] at h1
  unfold descB at h1
  split at h1 <;> try (simp_all; done)
  rename_i e' e2 sz2 by2 u2 hu heq
  obtain ⟨rfl, rfl, rfl, rfl⟩ : e = e2 ∧ sz = sz2 ∧ by_ = by2 ∧ u8 = u2 := by injection heq; simp_all
  simp only [Bool.and_eq_true] at h1
  obtain rfl := Nat.eq_of_beq_eq_true h1.1.1
  refine ⟨hu, elem_of h1.1.2, fun hu8 => ?_⟩
  subst hu8
  have h2 := h1.2
  simp only [Bool.not_true, Bool.false_or] at h2
  split at h2 <;> simp_all
theorem und_array {n : Nat} {e : TypeId} {sz : Nat} (h : tyB P t i = true) (hd : i.desc = .array n e sz) : P.underlying t = some (.array n e) ∧ ∃ ie, P.info? e = some ie ∧ ie.size = sz := by
  have h1 := ty_desc h
  rw [hd] at h1
  unfold descB at h1
  split at h1 <;> try (simp_all; done)
  rename_i n' e' n2 e2 sz2 hu heq
  obtain ⟨rfl, rfl, rfl⟩ : n = n2 ∧ e = e2 ∧ sz = sz2 := by injection heq; simp_all
  simp only [Bool.and_eq_true] at h1
  obtain rfl := Nat.eq_of_beq_eq_true h1.1.1
  obtain rfl := Nat.eq_of_beq_eq_true h1.1.2
  refine ⟨hu, ?_⟩
  cases hi : P.info? e' with
  | none => simp [hi] at h1
  | some ie => simp only [hi] at h1; exact ⟨ie, rfl, Nat.eq_of_beq_eq_true h1.2⟩
theorem fieldsEq_get : ∀ {l : List (Nat × TypeId)} {fs : List Field}, fieldsEq l fs = true → ∀ {k : Nat} {o ft : Nat}, l[k]? = some (o, ft) → ∃ f, fs[k]? = some f ∧ f.offset = o ∧ f.type = ft ∧ f.name ≠ "_"
  | [], _, _, k, o, ft, hk => by simp at hk
  | (o', t') :: r, [], h, k, o, ft, hk => by simp [fieldsEq] at h
  | (o', t') :: r, f :: s, h, 0, o, ft, hk => by
    simp only [fieldsEq, Bool.and_eq_true] at h
    simp at hk
    obtain ⟨rfl, rfl⟩ := hk
    exact ⟨f, rfl, (Nat.eq_of_beq_eq_true h.1.1.1).symm, (Nat.eq_of_beq_eq_true h.1.1.2).symm, by simpa using h.1.2⟩
  | (o', t') :: r, f :: s, h, k + 1, o, ft, hk => by
    simp only [fieldsEq, Bool.and_eq_true] at h
    exact fieldsEq_get h.2 (k := k) (by simpa using hk)
theorem fieldsEq_len : ∀ {l : List (Nat × TypeId)} {fs : List Field}, fieldsEq l fs = true → l.length = fs.length
  | [], [], _ => rfl
  | [], _ :: _, h => by simp [fieldsEq] at h
  | (_, _) :: _, [], h => by simp [fieldsEq] at h
  | (_, _) :: r, _ :: s, h => by
    simp only [fieldsEq, Bool.and_eq_true] at h
    simp [fieldsEq_len h.2]
theorem und_map' {k e : TypeId} (h : tyB P t i = true) (hd : i.desc = .map k e) : P.underlying t = some (.map k e) ∧ elemZ P e = true := by
  have h1 := ty_desc h
  rw [hd] at h1
  unfold descB at h1
  split at h1 <;> try (simp_all; done)
  all_goals
    rename_i k' e' k2 e2 hu heq
    obtain ⟨rfl, rfl⟩ : k = k2 ∧ e = e2 := by injection heq; simp_all
    simp only [Bool.and_eq_true] at h1
    obtain rfl := Nat.eq_of_beq_eq_true h1.1.1
    obtain rfl := Nat.eq_of_beq_eq_true h1.1.2
    exact ⟨hu, h1.2⟩
theorem und_map {k e : TypeId} (h : tyB P t i = true) (hd : i.desc = .map k e) : P.underlying t = some (.map k e) := (und_map' h hd).1
theorem und_ptr (h : tyB P t i = true) (hd : i.desc = .ptr) : ∃ e, P.underlying t = some (.pointer e) := by
  have h := ty_desc h
  rw [hd] at h
  unfold descB at h
  split at h <;> first | (rename_i e hu _; exact ⟨_, by assumption⟩) | simp_all
theorem und_struct {fs : List (Nat × TypeId)} (h : tyB P t i = true) (hd : i.desc = .struct fs) : ∃ gs : Array Field, P.underlying t = some (.struct gs) ∧ fieldsEq fs gs.toList = true ∧ P.stoodInHeld t = false := by
  have h1 := ty_desc h
  rw [hd] at h1
  unfold descB at h1
  split at h1 <;> try (simp_all; done)
end facts

theorem add_at (b off j : Nat) : (⟨b, off, none⟩ : Addr).add j = ⟨b, off + j, none⟩ := by
  unfold Addr.add
  split <;> simp_all
end Go.Am
