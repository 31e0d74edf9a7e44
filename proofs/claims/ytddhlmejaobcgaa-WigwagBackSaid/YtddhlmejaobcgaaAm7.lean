/- The abstract machine 'Am': more operations that neither make nor write memory. -/
import Derived.Test.YtddhlmejaobcgaaAm6
set_option linter.unusedVariables false
set_option linter.unusedSimpArgs false
namespace Go.Am
open Go
variable {P : Program} {ty : Tys}

/-! ### binary operations -/
theorem run_eqGuard_lit {op : BinOp} {t : TypeId} {x y : Operand} {a b : Value} (w : World) (h : ¬ (a = .nilIface ∧ b = .nilIface)) (h' : ∀ cs ds, ¬ (a = .agg cs ∧ b = .agg ds)) : (eqGuard op t x y a b).run P w = .ok () w := by
  unfold eqGuard
  cases op <;> simp <;> cases a <;> cases b <;> simp_all
theorem run_eqGuard_nil {op : BinOp} {t : TypeId} {x y : Operand} (w : World) (h : (isNilC x || isNilC y) = true) : (eqGuard op t x y .nilIface .nilIface).run P w = .ok () w := by
  have : ((match x with | .const _ => true | _ => false) || (match y with | .const _ => true | _ => false)) = true := by
    simp only [Bool.or_eq_true] at h ⊢
    rcases h with h | h
    · left; cases x <;> simp_all [isNilC]
    · right; cases y <;> simp_all [isNilC]
  unfold eqGuard
  cases op <;> simp <;> cases x <;> cases y <;> simp_all
theorem run_eqGuard_agg {op : BinOp} {t : TypeId} {i : TyI} {x y : Operand} {a b : Array Value} (w : World) (h : tyB P t i = true) (he : i.eqs = true) : (eqGuard op t x y (.agg a) (.agg b)).run P w = .ok () w := by
  unfold eqGuard
  cases op <;> simp [program, Sem.run, ty_eqs h he]

theorem run_eq_bool (d : Nat) {t : TypeId} (hu : P.underlying t = some .bool) (a b : Bool) (w : World) : (Op.equalIn (d + 1) t (.bool a) (.bool b)).run P w = .ok (a == b) w := by simp [Op.equalIn, run_underlying hu]
theorem run_eq_in (d : Nat) {t : TypeId} {ms : Array (String × TypeId)} (hu : P.underlying t = some (.interface ms)) (u : TypeId) (v : Value) (w : World) : (Op.equalIn (d + 1) t (.iface u v) .nilIface).run P w = .ok false w := by simp [Op.equalIn, run_underlying hu]
theorem run_eq_ni (d : Nat) {t : TypeId} {ms : Array (String × TypeId)} (hu : P.underlying t = some (.interface ms)) (u : TypeId) (v : Value) (w : World) : (Op.equalIn (d + 1) t .nilIface (.iface u v)).run P w = .ok false w := by simp [Op.equalIn, run_underlying hu]
theorem run_eq_nn (d : Nat) {t : TypeId} {ms : Array (String × TypeId)} (hu : P.underlying t = some (.interface ms)) (w : World) : (Op.equalIn (d + 1) t .nilIface .nilIface).run P w = .ok true w := by simp [Op.equalIn, run_underlying hu]

theorem cond_some {α : Type} {c : Bool} {x : Option α} {r : α} (h : (bif c then x else none) = some r) : c = true ∧ x = some r := by
  cases c with
  | true => exact ⟨rfl, h⟩
  | false => cases h
theorem run_eq_mm (d : Nat) {t k e : TypeId} (hu : P.underlying t = some (.map k e)) (w : World) : (Op.equalIn (d + 1) t (.map none) (.map none)).run P w = .ok true w := by simp [Op.equalIn, run_underlying hu]
theorem run_eq_pp (d : Nat) {t e : TypeId} (hu : P.underlying t = some (.pointer e)) (w : World) : (Op.equalIn (d + 1) t (.pointer none) (.pointer none)).run P w = .ok true w := by simp [Op.equalIn, run_underlying hu]
theorem run_eq_pn (d : Nat) {t e : TypeId} (hu : P.underlying t = some (.pointer e)) (b : Addr) (w : World) : (Op.equalIn (d + 1) t (.pointer (some b)) (.pointer none)).run P w = .ok false w := by simp [Op.equalIn, run_underlying hu]
theorem run_eq_sn (d : Nat) {t e : TypeId} (hu : P.underlying t = some (.slice e)) (a : Option Addr) (n c : Nat) (w : World) : (Op.equalIn (d + 1) t (.slice a n c) (.slice none 0 0)).run P w = .ok a.isNone w := by cases a <;> simp [Op.equalIn, run_underlying hu]
theorem run_eq_mn (d : Nat) {t k e : TypeId} (hu : P.underlying t = some (.map k e)) (b : Nat) (w : World) : (Op.equalIn (d + 1) t (.map (some b)) (.map none)).run P w = .ok false w := by simp [Op.equalIn, run_underlying hu]

theorem eqA_run (hty : TysOk P ty) (w : World) {t : TypeId} {x y : D} {r : Bool} {I : Facts} {u v : Value} (hx : DR I x u) (hy : DR I y v) (h : eqA ty t x y = some r) (ox oy : Operand) (op : BinOp) :
    (Op.equal t u v).run P w = .ok r w ∧ (eqGuard op t ox oy u v).run P w = .ok () w := by
  unfold eqA at h
  cases hi : ty.get t with
  | none => simp [hi] at h
  | some i =>
    simp only [hi] at h
    split at h <;> try (cases h; done)
    · rename_i a b hd
      split at h <;> try (cases h; done)
      rename_i hk
      obtain rfl := hx.lit
      obtain rfl := hy.lit
      have hu := und_bool (hty.ok _ _ hi) hd hk
      obtain rfl := Option.some.inj h
      exact ⟨run_eq_bool 9999 hu a b w, run_eqGuard_lit w (by simp) (by simp)⟩
    · rename_i t' x' hd
      obtain ⟨x1, rfl, _⟩ := hx
      obtain rfl := hy.lit
      obtain ⟨ms, hu⟩ := und_iface (hty.ok _ _ hi) hd
      obtain rfl := Option.some.inj h
      exact ⟨run_eq_in 9999 hu _ _ w, run_eqGuard_lit w (by simp) (by simp)⟩
    · rename_i t' x' hd
      obtain ⟨x1, rfl, _⟩ := hy
      obtain rfl := hx.lit
      obtain ⟨ms, hu⟩ := und_iface (hty.ok _ _ hi) hd
      obtain rfl := Option.some.inj h
      exact ⟨run_eq_ni 9999 hu _ _ w, run_eqGuard_lit w (by simp) (by simp)⟩
    · rename_i fs as bs hd
      cases he : i.eqs with
      | false => simp [he] at h
      | true =>
        simp only [he, cond_true] at h
        obtain ⟨us, rfl, ha⟩ := hx
        obtain ⟨vs, rfl, hb⟩ := hy
        exact ⟨run_equal_struct hty w hi hd ha hb h, run_eqGuard_agg w (hty.ok _ _ hi) he⟩
    · rename_i n e sz as bs hd
      obtain ⟨he, h⟩ := cond_some h
      simp only [Bool.and_eq_true] at he
      obtain ⟨us, rfl, ha⟩ := hx
      obtain ⟨vs, rfl, hb⟩ := hy
      exact ⟨run_equal_array hty w hi hd ha hb h, run_eqGuard_agg w (hty.ok _ _ hi) he.1⟩
    · rename_i k e hd
      obtain rfl := hx.lit
      obtain rfl := hy.lit
      obtain rfl := Option.some.inj h
      have hu := und_map (hty.ok _ _ hi) hd
      exact ⟨run_eq_mm 9999 hu w, run_eqGuard_lit w (by simp) (by simp)⟩
    · rename_i e sz by_ u8 hd
      obtain rfl := hx.lit
      obtain rfl := hy.lit
      obtain rfl := Option.some.inj h
      have hu := (und_slice (hty.ok _ _ hi) hd).1
      exact ⟨run_eq_sn 9999 hu none 0 0 w, run_eqGuard_lit w (by simp) (by simp)⟩

/-- Neither numbers nor texts. -/
theorem eqA_other {t : TypeId} {x y : D} {r : Bool} (h : eqA ty t x y = some r) {I : Facts} {u v : Value} (hx : DR I x u) (hy : DR I y v) (w : World) :
    (binOp .eql t u v).run P w = ((Op.equal t u v).run P w).andThen (fun b w => .ok (.bool b) w) ∧ (binOp .neq t u v).run P w = ((Op.equal t u v).run P w).andThen (fun b w => .ok (.bool (!b)) w) := by
  unfold eqA at h
  cases hi : ty.get t with
  | none => simp [hi] at h
  | some i =>
    simp only [hi] at h
    split at h <;> try (cases h; done)
    · obtain rfl := hx.lit
      obtain rfl := hy.lit
      exact ⟨by simp only [binOp, Sem.run_bind]; rfl, by simp only [binOp, Sem.run_bind]; rfl⟩
    · obtain ⟨x1, rfl, _⟩ := hx
      obtain rfl := hy.lit
      exact ⟨by simp only [binOp, Sem.run_bind]; rfl, by simp only [binOp, Sem.run_bind]; rfl⟩
    · obtain ⟨x1, rfl, _⟩ := hy
      obtain rfl := hx.lit
      exact ⟨by simp only [binOp, Sem.run_bind]; rfl, by simp only [binOp, Sem.run_bind]; rfl⟩
    · obtain ⟨us, rfl, ha⟩ := hx
      obtain ⟨vs, rfl, hb⟩ := hy
      exact ⟨by simp only [binOp, Sem.run_bind]; rfl, by simp only [binOp, Sem.run_bind]; rfl⟩
    · obtain ⟨us, rfl, ha⟩ := hx
      obtain ⟨vs, rfl, hb⟩ := hy
      exact ⟨by simp only [binOp, Sem.run_bind]; rfl, by simp only [binOp, Sem.run_bind]; rfl⟩
    · obtain rfl := hx.lit
      obtain rfl := hy.lit
      exact ⟨by simp only [binOp, Sem.run_bind]; rfl, by simp only [binOp, Sem.run_bind]; rfl⟩
    · obtain rfl := hx.lit
      obtain rfl := hy.lit
      exact ⟨by simp only [binOp, Sem.run_bind]; rfl, by simp only [binOp, Sem.run_bind]; rfl⟩

theorem ok_binOp (hty : TysOk P ty) {o : Oper} {op : BinOp} {t : TypeId} {x y : Operand} {t' : TypeId} (ho : o.op = .binOp op t x y t') : Quiet P ty o := by
  intro ev ρ L σ K Q g w hev hw h
  unfold opR at h
  rw [ho] at h
  dsimp only at h
  have hx := hev x
  have hy := hev y
  generalize ev x = ax at h hx
  generalize ev y = ay at h hy
  have done : ∀ {u : Value} {v : Value} {av : AV}, (∀ w, (eqGuard op t x y (ρ x) (ρ y)).run P w = .ok () w) → (∀ w, (binOp op t (ρ x) (ρ y)).run P w = .ok v w) → VR σ g av v → (K av σ).wp P Q →
      QuietAt P o ρ σ K Q g w (readsOf o ev) := fun h1 h2 h3 h4 =>
    quiet_ok hw (fun w' hm => by simp [execOp, ho, h1, h2]) h3 h4
  unfold binR at h
  split at h
  · rename_i k a k' b
    have ex := hx.lit
    have ey := hy.lit
    have hg : ∀ w, (eqGuard op t x y (ρ x) (ρ y)).run P w = .ok () w := fun w => by rw [ex, ey]; exact run_eqGuard_lit w (by simp) (by simp)
    split at h
    · exact done (u := .nilIface) hg (fun w => by rw [ex, ey]; simp only [binOp, Op.shift]; rw [if_neg (by have := h.1; omega)]; rfl) (vr_lit _) h.2
    · exact done (u := .nilIface) hg (fun w => by rw [ex, ey]; simp only [binOp, Op.shift]; rw [if_neg (by have := h.1; omega)]; rfl) (vr_lit _) h.2
    · rename_i h1 h2
      split at h
      · rename_i hk
        subst hk
        obtain ⟨v, hr, hk⟩ := run_intBin t h (fun e => h1 e) (fun e => h2 e)
        exact done (u := .nilIface) hg (fun w => by rw [ex, ey]; exact hr w) (vr_lit _) hk
      · exact h.elim
  · rename_i a b
    have ex := hx.lit
    have ey := hy.lit
    obtain ⟨v, hr, hk⟩ := run_strBin t h
    exact done (u := .nilIface) (fun w => by rw [ex, ey]; exact run_eqGuard_lit w (by simp) (by simp)) (fun w => by rw [ex, ey]; exact hr w) (vr_lit _) hk
  · have ex := hx.lit
    have ey := hy.lit
    cases hn : isNilC x || isNilC y with
    | false => simp only [hn, cond_false] at h; exact h.elim
    | true =>
      simp only [hn, cond_true] at h
      split at h
      · rename_i i hi
        obtain ⟨ms, hu⟩ := und_iface (hty.ok _ _ hi) rfl
        exact done (u := .nilIface) (fun w => by rw [ex, ey]; exact run_eqGuard_nil w hn) (fun w => by rw [ex, ey]; simp only [binOp, Sem.run_bind]; rw [show (Op.equal t .nilIface .nilIface).run P w = .ok true w from run_eq_nn 9999 hu w]; rfl) (vr_lit _) h
      · rename_i i hi
        obtain ⟨ms, hu⟩ := und_iface (hty.ok _ _ hi) rfl
        exact done (u := .nilIface) (fun w => by rw [ex, ey]; exact run_eqGuard_nil w hn) (fun w => by rw [ex, ey]; simp only [binOp, Sem.run_bind]; rw [show (Op.equal t .nilIface .nilIface).run P w = .ok true w from run_eq_nn 9999 hu w]; rfl) (vr_lit _) h
      · exact h.elim
  · rename_i m
    have ey := hy.lit
    obtain ⟨b, _, ex⟩ := hx
    split at h
    · rename_i k e i hi
      have hu := und_map (hty.ok _ _ hi) rfl
      exact done (u := .nilIface) (fun w => by rw [ex, ey]; exact run_eqGuard_lit w (by simp) (by simp)) (fun w => by rw [ex, ey]; simp only [binOp, Sem.run_bind]; rw [show (Op.equal t (.map (some b)) (.map none)).run P w = .ok false w from run_eq_mn 9999 hu b w]; rfl) (vr_lit _) h
    · rename_i k e i hi
      have hu := und_map (hty.ok _ _ hi) rfl
      exact done (u := .nilIface) (fun w => by rw [ex, ey]; exact run_eqGuard_lit w (by simp) (by simp)) (fun w => by rw [ex, ey]; simp only [binOp, Sem.run_bind]; rw [show (Op.equal t (.map (some b)) (.map none)).run P w = .ok false w from run_eq_mn 9999 hu b w]; rfl) (vr_lit _) h
    · exact h.elim
  · rename_i a0
    have ey := hy.lit
    have ex := hx.lit
    split at h
    · rename_i i hi
      obtain ⟨e, hu⟩ := und_ptr (hty.ok _ _ hi) rfl
      exact done (u := .nilIface) (fun w => by rw [ex, ey]; exact run_eqGuard_lit w (by simp) (by simp)) (fun w => by rw [ex, ey]; simp only [binOp, Sem.run_bind]; rw [show (Op.equal t (.pointer (some a0)) (.pointer none)).run P w = .ok false w from run_eq_pn 9999 hu _ w]; rfl) (vr_lit _) h
    · rename_i i hi
      obtain ⟨e, hu⟩ := und_ptr (hty.ok _ _ hi) rfl
      exact done (u := .nilIface) (fun w => by rw [ex, ey]; exact run_eqGuard_lit w (by simp) (by simp)) (fun w => by rw [ex, ey]; simp only [binOp, Sem.run_bind]; rw [show (Op.equal t (.pointer (some a0)) (.pointer none)).run P w = .ok false w from run_eq_pn 9999 hu _ w]; rfl) (vr_lit _) h
    · exact h.elim
  · have ey := hy.lit
    have ex := hx.lit
    split at h
    · rename_i i hi
      obtain ⟨e, hu⟩ := und_ptr (hty.ok _ _ hi) rfl
      exact done (u := .nilIface) (fun w => by rw [ex, ey]; exact run_eqGuard_lit w (by simp) (by simp)) (fun w => by rw [ex, ey]; simp only [binOp, Sem.run_bind]; rw [show (Op.equal t (.pointer none) (.pointer none)).run P w = .ok true w from run_eq_pp 9999 hu w]; rfl) (vr_lit _) h
    · rename_i i hi
      obtain ⟨e, hu⟩ := und_ptr (hty.ok _ _ hi) rfl
      exact done (u := .nilIface) (fun w => by rw [ex, ey]; exact run_eqGuard_lit w (by simp) (by simp)) (fun w => by rw [ex, ey]; simp only [binOp, Sem.run_bind]; rw [show (Op.equal t (.pointer none) (.pointer none)).run P w = .ok true w from run_eq_pp 9999 hu w]; rfl) (vr_lit _) h
    · exact h.elim
  · rename_i id off
    have ey := hy.lit
    obtain ⟨b, _, ex⟩ := hx
    split at h
    · rename_i i hi
      obtain ⟨e, hu⟩ := und_ptr (hty.ok _ _ hi) rfl
      exact done (u := .nilIface) (fun w => by rw [ex, ey]; exact run_eqGuard_lit w (by simp) (by simp)) (fun w => by rw [ex, ey]; simp only [binOp, Sem.run_bind]; rw [show (Op.equal t (.pointer (some ⟨b, off, none⟩)) (.pointer none)).run P w = .ok false w from run_eq_pn 9999 hu _ w]; rfl) (vr_lit _) h
    · rename_i i hi
      obtain ⟨e, hu⟩ := und_ptr (hty.ok _ _ hi) rfl
      exact done (u := .nilIface) (fun w => by rw [ex, ey]; exact run_eqGuard_lit w (by simp) (by simp)) (fun w => by rw [ex, ey]; simp only [binOp, Sem.run_bind]; rw [show (Op.equal t (.pointer (some ⟨b, off, none⟩)) (.pointer none)).run P w = .ok false w from run_eq_pn 9999 hu _ w]; rfl) (vr_lit _) h
    · exact h.elim
  · rename_i n cs
    have ey := hy.lit
    obtain ⟨a, cap, ex, hn, hc⟩ := hx
    split at h
    · rename_i e sz by_ u8 i hi
      have hu := (und_slice (hty.ok _ _ hi) rfl).1
      have hr : ∀ w, (binOp .eql t (ρ x) (ρ y)).run P w = .ok (.bool a.isNone) w := fun w => by rw [ex, ey]; simp only [binOp, Sem.run_bind]; rw [show (Op.equal t (.slice a n cap) (.slice none 0 0)).run P w = .ok a.isNone w from run_eq_sn 9999 hu _ _ _ w]; rfl
      have hg : ∀ w, (eqGuard .eql t x y (ρ x) (ρ y)).run P w = .ok () w := fun w => by rw [ex, ey]; exact run_eqGuard_lit w (by simp) (by simp)
      cases hb : Nat.beq n 0 with
      | true =>
        simp only [hb] at h
        cases ha : a.isNone with
        | true => exact done (u := .nilIface) hg (fun w => by rw [hr w, ha]) (vr_lit _) h.1
        | false => exact done (u := .nilIface) hg (fun w => by rw [hr w, ha]) (vr_lit _) h.2
      | false =>
        simp only [hb] at h
        have ha : a.isNone = false := by
          rcases hc with hc | ⟨b, off, ha, _⟩
          · exact absurd hc h.1
          · rw [ha]; rfl
        exact done (u := .nilIface) hg (fun w => by rw [hr w, ha]) (vr_lit _) h.2
    · rename_i e sz by_ u8 i hi
      have hu := (und_slice (hty.ok _ _ hi) rfl).1
      have hr : ∀ w, (binOp .neq t (ρ x) (ρ y)).run P w = .ok (.bool (!a.isNone)) w := fun w => by rw [ex, ey]; simp only [binOp, Sem.run_bind]; rw [show (Op.equal t (.slice a n cap) (.slice none 0 0)).run P w = .ok a.isNone w from run_eq_sn 9999 hu _ _ _ w]; rfl
      have hg : ∀ w, (eqGuard .neq t x y (ρ x) (ρ y)).run P w = .ok () w := fun w => by rw [ex, ey]; exact run_eqGuard_lit w (by simp) (by simp)
      cases hb : Nat.beq n 0 with
      | true =>
        simp only [hb] at h
        cases ha : a.isNone with
        | true => exact done (u := .nilIface) hg (fun w => by rw [hr w, ha]; rfl) (vr_lit _) h.1
        | false => exact done (u := .nilIface) hg (fun w => by rw [hr w, ha]; rfl) (vr_lit _) h.2
      | false =>
        simp only [hb] at h
        have ha : a.isNone = false := by
          rcases hc with hc | ⟨b, off, ha, _⟩
          · exact absurd hc h.1
          · rw [ha]; rfl
        exact done (u := .nilIface) hg (fun w => by rw [hr w, ha]; rfl) (vr_lit _) h.2
    · exact h.elim
  · rename_i id ep off n
    have ey := hy.lit
    obtain ⟨b0, cap, sz0, e0, cs0, a, k, _, _, ex, hn, hc, _⟩ := hx
    split at h
    · rename_i e sz by_ u8 i hi
      have hu := (und_slice (hty.ok _ _ hi) rfl).1
      have hr : ∀ w, (binOp .eql t (ρ x) (ρ y)).run P w = .ok (.bool a.isNone) w := fun w => by rw [ex, ey]; simp only [binOp, Sem.run_bind]; rw [show (Op.equal t (.slice a n k) (.slice none 0 0)).run P w = .ok a.isNone w from run_eq_sn 9999 hu _ _ _ w]; rfl
      have hg : ∀ w, (eqGuard .eql t x y (ρ x) (ρ y)).run P w = .ok () w := fun w => by rw [ex, ey]; exact run_eqGuard_lit w (by simp) (by simp)
      cases hb : Nat.beq n 0 with
      | true =>
        simp only [hb] at h
        cases ha : a.isNone with
        | true => exact done (u := .nilIface) hg (fun w => by rw [hr w, ha]) (vr_lit _) h.1
        | false => exact done (u := .nilIface) hg (fun w => by rw [hr w, ha]) (vr_lit _) h.2
      | false =>
        simp only [hb] at h
        have ha : a.isNone = false := by
          rcases hc with hc | hc
          · subst hc; cases hb
          · cases a with
            | none => exact absurd rfl hc
            | some _ => rfl
        exact done (u := .nilIface) hg (fun w => by rw [hr w, ha]) (vr_lit _) h
    · rename_i e sz by_ u8 i hi
      have hu := (und_slice (hty.ok _ _ hi) rfl).1
      have hr : ∀ w, (binOp .neq t (ρ x) (ρ y)).run P w = .ok (.bool (!a.isNone)) w := fun w => by rw [ex, ey]; simp only [binOp, Sem.run_bind]; rw [show (Op.equal t (.slice a n k) (.slice none 0 0)).run P w = .ok a.isNone w from run_eq_sn 9999 hu _ _ _ w]; rfl
      have hg : ∀ w, (eqGuard .neq t x y (ρ x) (ρ y)).run P w = .ok () w := fun w => by rw [ex, ey]; exact run_eqGuard_lit w (by simp) (by simp)
      cases hb : Nat.beq n 0 with
      | true =>
        simp only [hb] at h
        cases ha : a.isNone with
        | true => exact done (u := .nilIface) hg (fun w => by rw [hr w, ha]; rfl) (vr_lit _) h.1
        | false => exact done (u := .nilIface) hg (fun w => by rw [hr w, ha]; rfl) (vr_lit _) h.2
      | false =>
        simp only [hb] at h
        have ha : a.isNone = false := by
          rcases hc with hc | hc
          · subst hc; cases hb
          · cases a with
            | none => exact absurd rfl hc
            | some _ => rfl
        exact done (u := .nilIface) hg (fun w => by rw [hr w, ha]; rfl) (vr_lit _) h
    · exact h.elim
  · rename_i x' y' n1 n2 n3 n4
    split at h <;> try exact h.elim
    · split at h <;> try exact h.elim
      rename_i b hb
      have key := fun w => eqA_run hty w hx hy hb x y .eql
      exact done (u := .nilIface) (fun w => (key w).2) (fun w => by rw [(eqA_other (P := P) hb hx hy w).1, (key w).1]; rfl) (vr_lit _) h
    · split at h <;> try exact h.elim
      rename_i b hb
      have key := fun w => eqA_run hty w hx hy hb x y .neq
      exact done (u := .nilIface) (fun w => (key w).2) (fun w => by rw [(eqA_other (P := P) hb hx hy w).2, (key w).1]; rfl) (vr_lit _) h
  · exact h.elim

/-! ### conversions -/
theorem cells_at {σ : Store} {g : Gh} {w : World} (hw : WR g σ w) {b off : Nat} {cs : List D} (h : DRM g.I b off cs) {j : Nat} (hj : j < cs.length) : ∃ v, w.cell? ⟨b, off + j, none⟩ = some v ∧ DR g.I (rdD cs j) v := by
  obtain ⟨v, h1, h2⟩ := h.get j hj
  exact ⟨v, hw.fact _ _ h1, h2⟩
/-- A slice, in the machine. -/
theorem srcS_ok {σ : Store} {g : Gh} {w : World} (hw : WR g σ w) {sz : Nat} {x : AV} {v : Value} (hv : VR σ g x v) {n : Nat} {cs : List D} (h : srcS σ sz x = some (n, cs)) :
    ∃ a cap, v = .slice a n cap ∧ n ≤ cap ∧ (cs = [] ∨ ∃ b off, a = some ⟨b, off, none⟩ ∧ DRM g.I b off cs) := by
  unfold srcS at h
  split at h
  · obtain ⟨a, cap, e, hn, hc⟩ := hv
    simp only [Option.some.injEq, Prod.mk.injEq] at h
    obtain ⟨rfl, rfl⟩ := h
    exact ⟨a, cap, e, hn, hc⟩
  · rename_i i m
    obtain ⟨s, sz2, m2, cs2, a, cap, h1, h2, h3, h4, h5, h6, h7, h8⟩ := hv
    rw [h2] at h
    simp only at h
    cases hb : Nat.beq sz2 sz with
    | false => simp [hb] at h
    | true =>
      obtain rfl := Nat.eq_of_beq_eq_true hb
      simp only [hb, cond_true, Option.some.injEq, Prod.mk.injEq] at h
      obtain ⟨rfl, rfl⟩ := h
      exact ⟨a, cap, h4, h5, h8⟩
  · simp only [Option.some.injEq, Prod.mk.injEq] at h
    obtain ⟨rfl, rfl⟩ := h
    exact ⟨none, 0, hv.lit, Nat.le_refl _, .inl rfl⟩
  · cases h

theorem ok_convert (hty : TysOk P ty) {o : Oper} {src dst : TypeId} {x : Operand} (ho : o.op = .convert src dst x) (hcv : convS ty o = false) : Quiet P ty o := by
  intro ev ρ L σ K Q g w hev hw h
  unfold opR at h
  rw [ho] at h
  dsimp only at h
  have hx := hev x
  generalize hax : ev x = ax at h hx
  unfold convR at h
  split at h
  · rename_i i j hi hj
    split at h
    · rename_i k k' n hd1 hd2 hk
      have ex := hx.lit
      rcases und_scalar (hty.ok _ _ hi) hd1 with ⟨k1, hu⟩ | hu
      · exact quiet_ok hw (v := .int k (k.wrap n)) (fun w' hm => by simp [execOp, ho, ex, convert, run_underlying hu, run_underlying (und_int (hty.ok _ _ hj) hd2 hk), Conv.intToInt]) (vr_lit _) h
      · exact quiet_ok hw (v := .int k (k.wrap n)) (fun w' hm => by simp [execOp, ho, ex, convert, run_underlying hu, run_underlying (und_int (hty.ok _ _ hj) hd2 hk), Conv.intToInt]) (vr_lit _) h
    · rename_i s hd1 hd2
      have ex := hx.lit
      exact quiet_ok hw (v := .string s) (fun w' hm => by simp [execOp, ho, ex, convert, run_underlying (und_str (hty.ok _ _ hi) hd1), run_underlying (und_str (hty.ok _ _ hj) hd2)]) (vr_lit _) h
    · rename_i e sz by_ id off n hd1 hd2
      split at h
      · rename_i cs hs
        cases hle : Nat.ble (off + n) cs.length with
        | false => simp only [hle, cond_false] at h; exact h.elim
        | true =>
          simp only [hle, cond_true] at h
          have hle := Nat.le_of_ble_eq_true hle
          split at h
          · rename_i ds hds
            obtain ⟨⟨rfl, hbt⟩, h⟩ := h
            obtain ⟨b, cap, o', hb', e', hn, ho'⟩ := hx
            obtain ⟨⟨arr, tt, h1, h2⟩, _⟩ := hw.blk _ _ _ hs hb'
            have h3 := (VRL.of_allD hds).1 ((h2.drop off).take n)
            have hl : ds.length = n := by
              have := h3.length
              have h4 := h2.length
              simp only [List.length_take, List.length_drop] at this
              omega
            obtain ⟨hu1, _, hu8⟩ := und_slice (hty.ok _ _ hi) hd1
            have hu2 := und_str (hty.ok _ _ hj) hd2
            have hro : readsOf o ev = [id] := by unfold readsOf; rw [ho]; simp only [hax]
            rw [hro]
            refine quiet_ok hw (v := .string (bytesOf ds)) (fun w' hm' => ?_) (vr_lit _) h
            have hheap := hm'.var id (by simp) b hb'
            have hrun : (convert src dst (ρ x)).run P w' = .ok (.string (bytesOf ds)) w' := by
              rw [e']
              have := run_convert_bytes_arg (P := P) w' src _ hu1 (hu8 rfl) b o' n cap (ds.map D.toI) (by simpa using hl) (fun i hi => by
                obtain ⟨v, k1, k2⟩ := h3.get (j := i) (x := rdD ds i) (by simp [rdD, List.getD_eq_getElem?_getD, List.getElem?_eq_getElem (show i < ds.length by omega)])
                have k3 := hbt (rdD ds i) (by simp [rdD, List.getD_eq_getElem?_getD, List.getElem?_eq_getElem (show i < ds.length by omega)])
                rw [k3.1] at k2
                have k4 : arr.toList[off + i]? = some v := by
                  rw [List.getElem?_take_of_lt (by omega), List.getElem?_drop] at k1
                  exact k1
                obtain rfl : o' = off := by rcases ho' with h | h <;> omega
                have : w'.cell? ⟨b, o' + i, none⟩ = some v := by
                  simp only [World.cell?, hheap, h1]
                  simpa using k4
                rw [this, DR.lit k2]
                simp [rdD, List.getD_eq_getElem?_getD, List.getElem?_eq_getElem (show i < ds.length by omega)]) dst hu2
              rw [this]
              simp [strOfNums, bytesOf]
            simp [execOp, ho, hrun]
          · exact h.elim
      · exact h.elim
    · rename_i e sz by_ hd1 hd2 _
      split at h
      · rename_i n cs hs
        obtain ⟨⟨rfl, hl, hb⟩, h⟩ := h
        obtain ⟨hu1, _, hu8⟩ := und_slice (hty.ok _ _ hi) hd1
        have hu2 := und_str (hty.ok _ _ hj) hd2
        refine quiet_ok hw (v := .string (bytesOf cs)) (fun w' hm' => ?_) (vr_lit _) h
        obtain ⟨a, cap, e, hn, hc⟩ := srcS_ok hw hx hs
        have hrun : (convert src dst (ρ x)).run P w' = .ok (.string (bytesOf cs)) w' := by
          rcases hc with rfl | ⟨b, off, rfl, hm⟩
          · obtain rfl : n = 0 := by simpa using hl.symm
            rw [e, run_convert_bytes_string w' src dst _ a 0 cap hu1 (hu8 rfl) hu2]
            cases a <;> simp [Conv.bytesToString, loadCells, loadCellsFrom, bytesOf] <;> rfl
          · rw [e]
            have := run_convert_bytes_arg (P := P) w' src _ hu1 (hu8 rfl) b off n cap (cs.map D.toI) (by simpa using hl) (fun i hi => by
              obtain ⟨v, h1, h2⟩ := hm.get i (by omega)
              have h1 := hm'.1 _ _ h1
              have h3 := hb (rdD cs i) (by simp [rdD, List.getD_eq_getElem?_getD, List.getElem?_eq_getElem (show i < cs.length by omega)])
              rw [h3.1] at h2
              rw [h1, DR.lit h2]
              simp [rdD, List.getD_eq_getElem?_getD, List.getElem?_eq_getElem (show i < cs.length by omega)]) dst hu2
            rw [this]
            simp [strOfNums, bytesOf]
        simp [execOp, ho, hrun]
      · exact h.elim
    · rename_i e sz by_ s hd1 hd2
      exfalso
      unfold convS at hcv
      rw [ho] at hcv
      cases i with
      | mk d1 a1 b1 c1 e1 f1 g1 =>
        cases j with
        | mk d2 a2 b2 c2 e2 f2 g2 =>
          simp only at hd1 hd2
          subst hd1 hd2
          simp only [hi, hj] at hcv
          cases hcv
    · exact h.elim
  · exact h.elim
end Go.Am
