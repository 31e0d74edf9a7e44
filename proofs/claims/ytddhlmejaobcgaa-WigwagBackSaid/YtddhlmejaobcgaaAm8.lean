/- The abstract machine 'Am': lengths, cuts, places, loads, structs. -/
import Derived.Test.YtddhlmejaobcgaaAm7
set_option linter.unusedVariables false
set_option linter.unusedSimpArgs false
namespace Go.Am
open Go
variable {P : Program} {ty : Tys}

theorem toArray1 {α : Type} {a : Array α} {x : α} (h : a.toList = [x]) : a = #[x] := by cases a; simp_all
theorem toArray2 {α : Type} {a : Array α} {x y : α} (h : a.toList = [x, y]) : a = #[x, y] := by cases a; simp_all

theorem ok_len (hty : TysOk P ty) {o : Oper} {c : Call} (ho : o.op = .call c) (hc : c.callee = .builtin .len) : Quiet P ty o := by
  intro ev ρ L σ K Q g w hev hw h
  unfold opR at h
  rw [ho] at h
  simp only [hc] at h
  split at h
  · rename_i t x ht hx
    have ht := toArray1 ht
    have hx := toArray1 hx
    have hv := hev x
    generalize hax : ev x = ax at h hv
    have done : ∀ {n : Int}, (∀ w, (Builtin.len_ #[t] o.type #[ρ x]).run P w = .ok (.int .i64 n) w) → (K (.d (.lit (.int .i64 n))) σ).wp P Q →
        QuietAt P o ρ σ K Q g w (readsOf o ev) := fun h1 h2 =>
      quiet_ok hw (fun w' hm => by simp [execOp, ho, resolve, hc, ht, hx, invoke, builtin, h1]) (vr_lit _) h2
    unfold lenR at h
    split at h
    · exact h.elim
    · rename_i i hi
      split at h
      · rename_i s hd
        have e := hv.lit
        exact done (fun w => by simp [Builtin.len_, run_underlying (und_str (hty.ok _ _ hi) hd), e, goInt]) h
      · rename_i n cs hd
        obtain ⟨a, cap, e, _⟩ := hv
        exact done (fun w => by simp [Builtin.len_, run_underlying (und_slice (hty.ok _ _ hi) hd).1, e, goInt]) h
      · rename_i id n hd
        obtain ⟨s, sz, m, cs, a, cap, _, _, _, e, _⟩ := hv
        exact done (fun w => by simp [Builtin.len_, run_underlying (und_slice (hty.ok _ _ hi) hd).1, e, goInt]) h
      · rename_i id off n hd
        obtain ⟨b, cap, o, _, e, _⟩ := hv
        exact done (fun w => by simp [Builtin.len_, run_underlying (und_slice (hty.ok _ _ hi) hd).1, e, goInt]) h
      · rename_i id ep off n hd
        obtain ⟨_, _, _, _, _, _, _, _, _, e, _⟩ := hv
        exact done (fun w => by simp [Builtin.len_, run_underlying (und_slice (hty.ok _ _ hi) hd).1, e, goInt]) h
      · rename_i n c hd
        have e := hv.lit
        exact done (fun w => by simp [Builtin.len_, run_underlying (und_slice (hty.ok _ _ hi) hd).1, e, goInt]) h
      · rename_i hd
        exact done (fun w => by simp [Builtin.len_, run_underlying (und_array (hty.ok _ _ hi) hd).1, goInt]) h
      · exact h.elim
  · exact h.elim

theorem ok_max {o : Oper} {c : Call} (ho : o.op = .call c) (hc : c.callee = .builtin .max) : Quiet P ty o := by
  intro ev ρ L σ K Q g w hev hw h
  unfold opR at h
  rw [ho] at h
  simp only [hc] at h
  split at h
  · rename_i x y hx
    have hx := toArray2 hx
    have hv := hev x
    have hu := hev y
    split at h
    · rename_i k a k' b e1 e2
      rw [e1] at hv
      rw [e2] at hu
      have e3 := hv.lit
      have e4 := hu.lit
      exact quiet_ok hw (v := .int k (if b > a then b else a)) (fun w' hm => by simp [execOp, ho, resolve, hc, hx, invoke, builtin, Builtin.max_, Builtin.max2, e3, e4]) (vr_lit _) h
    · exact h.elim
  · exact h.elim
theorem ok_min {o : Oper} {c : Call} (ho : o.op = .call c) (hc : c.callee = .builtin .min) : Quiet P ty o := by
  intro ev ρ L σ K Q g w hev hw h
  unfold opR at h
  rw [ho] at h
  simp only [hc] at h
  split at h
  · rename_i x y hx
    have hx := toArray2 hx
    have hv := hev x
    have hu := hev y
    split at h
    · rename_i k a k' b e1 e2
      rw [e1] at hv
      rw [e2] at hu
      have e3 := hv.lit
      have e4 := hu.lit
      exact quiet_ok hw (v := .int k (if b < a then b else a)) (fun w' hm => by simp [execOp, ho, resolve, hc, hx, invoke, builtin, Builtin.min_, Builtin.min2, e3, e4]) (vr_lit _) h
    · exact h.elim
  · exact h.elim

/-! ### cuts -/
theorem cutR_ok {n : Nat} {lo hi : Option AV} {K : Nat → Nat → Res} {Q} {σ : Store} {g : Gh} {vlo vhi : Option Value}
    (hlo : ∀ x, lo = some x → ∃ v, vlo = some v ∧ VR σ g x v) (hlo' : lo = none → vlo = none) (hhi : ∀ x, hi = some x → ∃ v, vhi = some v ∧ VR σ g x v) (hhi' : hi = none → vhi = none)
    (h : (cutR n lo hi K).wp P Q) : ∃ l k, l ≤ k ∧ k ≤ n ∧ (K l k).wp P Q ∧ ∀ (w : World) (b : Bool) (cap : Nat), n ≤ cap → (Instr.sliceBounds b n cap vlo vhi none).run P w = .ok (l, k, cap) w := by
  unfold cutR at h
  split at h
  · rw [hlo' rfl, hhi' rfl]
    exact ⟨0, n, by omega, by omega, h, fun w b cap hc => by cases b <;> simp [Instr.sliceBounds]⟩
  · rename_i k1 hh
    rw [hlo' rfl]
    obtain ⟨v, e, hv⟩ := hhi _ rfl
    obtain rfl := hv.lit
    obtain ⟨⟨h1, h2⟩, h⟩ := h
    exact ⟨0, hh.toNat, by omega, by omega, h, fun w b cap hc => by cases b <;> simp [Instr.sliceBounds, e, Instr.sliceBound, asIntOf, h1, show hh ≤ (cap : Int) by omega]⟩
  · rename_i k1 ll
    rw [hhi' rfl]
    obtain ⟨v, e, hv⟩ := hlo _ rfl
    obtain rfl := hv.lit
    obtain ⟨⟨h1, h2⟩, h⟩ := h
    exact ⟨ll.toNat, n, by omega, by omega, h, fun w b cap hc => by cases b <;> simp [Instr.sliceBounds, e, Instr.sliceBound, asIntOf, h1, h2]⟩
  · rename_i k1 hh k2 ll
    obtain ⟨v, e, hv⟩ := hlo _ rfl
    obtain rfl := hv.lit
    obtain ⟨v', e', hv'⟩ := hhi _ rfl
    obtain rfl := hv'.lit
    obtain ⟨⟨h1, h2⟩, ⟨h3, h4⟩, h⟩ := h
    exact ⟨ll.toNat, hh.toNat, by omega, by omega, h, fun w b cap hc => by cases b <;> simp [Instr.sliceBounds, e, e', Instr.sliceBound, asIntOf, h1, show hh ≤ (cap : Int) by omega, h3, h4, Int.toNat_of_nonneg h1, show ll ≤ hh by omega]⟩
  · exact h.elim

theorem cutX_ok {m n : Nat} (hnm : n ≤ m) {lo hi : Option AV} {K : Nat → Nat → Res} {Q} {σ : Store} {g : Gh} {vlo vhi : Option Value}
    (hlo : ∀ x, lo = some x → ∃ v, vlo = some v ∧ VR σ g x v) (hlo' : lo = none → vlo = none) (hhi : ∀ x, hi = some x → ∃ v, vhi = some v ∧ VR σ g x v) (hhi' : hi = none → vhi = none)
    (h : (cutX m n lo hi K).wp P Q) : ∃ l k, l ≤ k ∧ k ≤ m ∧ (K l k).wp P Q ∧ ∀ (w : World) (b : Bool) (cap : Nat), m ≤ cap → (Instr.sliceBounds b n cap vlo vhi none).run P w = .ok (l, k, cap) w := by
  unfold cutX at h
  split at h
  · rw [hlo' rfl, hhi' rfl]
    exact ⟨0, n, by omega, by omega, h, fun w b cap hc => by cases b <;> simp [Instr.sliceBounds]⟩
  · rename_i k1 hh
    rw [hlo' rfl]
    obtain ⟨v, e, hv⟩ := hhi _ rfl
    obtain rfl := hv.lit
    obtain ⟨⟨h1, h2⟩, h⟩ := h
    exact ⟨0, hh.toNat, by omega, by omega, h, fun w b cap hc => by cases b <;> simp [Instr.sliceBounds, e, Instr.sliceBound, asIntOf, h1, show hh ≤ (cap : Int) by omega]⟩
  · rename_i k1 ll
    rw [hhi' rfl]
    obtain ⟨v, e, hv⟩ := hlo _ rfl
    obtain rfl := hv.lit
    obtain ⟨⟨h1, h2⟩, h⟩ := h
    exact ⟨ll.toNat, n, by omega, by omega, h, fun w b cap hc => by cases b <;> simp [Instr.sliceBounds, e, Instr.sliceBound, asIntOf, h1, h2]⟩
  · rename_i k1 hh k2 ll
    obtain ⟨v, e, hv⟩ := hlo _ rfl
    obtain rfl := hv.lit
    obtain ⟨v', e', hv'⟩ := hhi _ rfl
    obtain rfl := hv'.lit
    obtain ⟨⟨h1, h2⟩, ⟨h3, h4⟩, h⟩ := h
    exact ⟨ll.toNat, hh.toNat, by omega, by omega, h, fun w b cap hc => by cases b <;> simp [Instr.sliceBounds, e, e', Instr.sliceBound, asIntOf, h1, show hh ≤ (cap : Int) by omega, h3, h4, Int.toNat_of_nonneg h1, show ll ≤ hh by omega]⟩
  · exact h.elim

theorem map_opt {σ : Store} {g : Gh} {ev : Operand → AV} {ρ : Operand → Value} (hev : ∀ x, VR σ g (ev x) (ρ x)) (lo : Option Operand) :
    (∀ x, lo.map ev = some x → ∃ v, lo.map ρ = some v ∧ VR σ g x v) ∧ (lo.map ev = none → lo.map ρ = none) := by
  cases lo with
  | none => simp
  | some y => exact ⟨fun x h => by simp at h; subst h; exact ⟨_, rfl, hev y⟩, by simp⟩

/-- A cut of a slice in the machine. -/
theorem sliceAt_slice {t e : TypeId} {ie : TypeInfo} (hu : P.underlying t = some (.slice e)) (hie : P.info? e = some ie) {w : World} {a : Option Addr} {n cap l h : Nat} {lo hi : Option Value} (hlh : l ≤ h) (hn : h ≤ n) (hc : n ≤ cap)
    (hb : ∀ (b : Bool) (cap : Nat), n ≤ cap → (Instr.sliceBounds b n cap lo hi none).run P w = .ok (l, h, cap) w) :
    (Instr.sliceAt t (.slice a n cap) lo hi none).run P w = .ok (.slice (if cap = l then a else a.map (·.add (l * ie.size))) (h - l) (cap - l)) w := by
  simp only [Instr.sliceAt, Sem.run_bind, run_underlying hu, Result.andThen_ok]
  simp only [Instr.slice, Sem.run_bind, run_underlying hu, Result.andThen_ok, hb true cap hc]
  simp [sizeOf, typeInfo, hie]

theorem sliceAt_row {t e : TypeId} {ie : TypeInfo} (hu : P.underlying t = some (.slice e)) (hie : P.info? e = some ie) {w : World} {a : Option Addr} {n cap l h : Nat} {lo hi : Option Value}
    (hb : (Instr.sliceBounds true n cap lo hi none).run P w = .ok (l, h, cap) w) :
    (Instr.sliceAt t (.slice a n cap) lo hi none).run P w = .ok (.slice (if cap = l then a else a.map (·.add (l * ie.size))) (h - l) (cap - l)) w := by
  simp only [Instr.sliceAt, Sem.run_bind, run_underlying hu, Result.andThen_ok]
  simp only [Instr.slice, Sem.run_bind, run_underlying hu, Result.andThen_ok, hb]
  simp [sizeOf, typeInfo, hie]
theorem cut_vr {σ : Store} {g : Gh} {a : Option Addr} {n cap l h sz : Nat} {cs : List D} (hlh : l ≤ h) (hn : h ≤ n) (hc : n ≤ cap) (hcs : cs = [] ∨ ∃ b off, a = some ⟨b, off, none⟩ ∧ DRM g.I b off cs) :
    VR σ g (.d (.sl (h - l) ((cs.drop (l * sz)).take ((h - l) * sz)))) (.slice (if cap = l then a else a.map (·.add (l * sz))) (h - l) (cap - l)) := by
  refine ⟨_, _, rfl, by omega, ?_⟩
  rcases hcs with rfl | ⟨b, off, rfl, hm⟩
  · left; simp
  · by_cases hcl : cap = l
    · left
      have : h - l = 0 := by omega
      simp [this]
    · right
      rw [if_neg hcl]
      exact ⟨b, off + l * sz, by simp [add_at], (hm.drop (l * sz)).take _⟩

theorem ok_slice (hty : TysOk P ty) {o : Oper} {t : TypeId} {x : Operand} {lo hi : Option Operand} (ho : o.op = .slice t x lo hi none) : Quiet P ty o := by
  intro ev ρ L σ K Q g w hev hw h
  unfold opR at h
  rw [ho] at h
  simp only at h
  have hv := hev x
  generalize ev x = ax at h hv
  unfold sliceR at h
  split at h
  · exact h.elim
  · rename_i i hi'
    split at h
    · rename_i s hd
      have e := hv.lit
      obtain ⟨l, k, h1, h2, h3, h4⟩ := cutR_ok (P := P) (σ := σ) (g := g) (map_opt hev lo).1 (map_opt hev lo).2 (map_opt hev hi).1 (map_opt hev hi).2 h
      have hu := und_str (hty.ok _ _ hi') hd
      refine quiet_ok hw (v := .string (s.extract l k)) (fun w' _ => ?_) (vr_lit _) h3
      have h5 := h4 w' false s.size (Nat.le_refl _)
      simp only [execOp, ho, e, Sem.run_bind, Instr.sliceAt, run_underlying hu, Result.andThen_ok, Instr.slice, Option.isSome_none, Bool.false_eq_true, if_false, Sem.run_pure, Option.map_none, h5]
    · rename_i e sz by_ u8 n cs hd
      obtain ⟨a, cap, ev', hn, hc⟩ := hv
      obtain ⟨l, k, h1, h2, h3, h4⟩ := cutR_ok (P := P) (σ := σ) (g := g) (map_opt hev lo).1 (map_opt hev lo).2 (map_opt hev hi).1 (map_opt hev hi).2 h
      obtain ⟨hu, ⟨ie, z, hie, rfl, _⟩, _⟩ := und_slice (hty.ok _ _ hi') hd
      refine quiet_ok hw (fun w' hm => by simp [execOp, ho, ev', sliceAt_slice hu hie h1 h2 hn (h4 w')]) (cut_vr h1 h2 hn hc) h3
    · rename_i e sz by_ u8 id n hd
      obtain ⟨s, sz2, m, cs, a, cap, _, hs2, _, ev', hn, _, _, hc⟩ := hv
      rw [hs2] at h
      simp only at h
      cases hb : Nat.beq sz2 sz with
      | false => simp only [hb, cond_false] at h; exact h.elim
      | true =>
        simp only [hb, cond_true] at h
        obtain rfl := Nat.eq_of_beq_eq_true hb
        obtain ⟨l, k, h1, h2, h3, h4⟩ := cutR_ok (P := P) (σ := σ) (g := g) (map_opt hev lo).1 (map_opt hev lo).2 (map_opt hev hi).1 (map_opt hev hi).2 h
        obtain ⟨hu, ⟨ie, z, hie, rfl, _⟩, _⟩ := und_slice (hty.ok _ _ hi') hd
        refine quiet_ok hw (fun w' hm => by simp [execOp, ho, ev', sliceAt_slice hu hie h1 h2 hn (h4 w')]) (cut_vr h1 h2 hn hc) h3
    · rename_i n e sz id off hd
      obtain ⟨b, hb, e'⟩ := hv
      obtain ⟨l, k, h1, h2, h3, h4⟩ := cutR_ok (P := P) (σ := σ) (g := g) (map_opt hev lo).1 (map_opt hev lo).2 (map_opt hev hi).1 (map_opt hev hi).2 h
      obtain ⟨hu, ie, hie, rfl⟩ := und_array (hty.ok _ _ hi') hd
      refine quiet_ok hw (v := .slice (some (if n = l then ⟨b, off, none⟩ else (⟨b, off, none⟩ : Addr).add (l * ie.size))) (k - l) (n - l)) (fun w' hm => ?_) ?_ h3
      · have h5 := h4 w' false n (Nat.le_refl _)
        simp [execOp, ho, e', Instr.sliceAt, run_underlying hu, Instr.sureAddr, h5, sizeOf, typeInfo, hie]
      · by_cases hn : n = l
        · rw [if_pos hn]
          exact ⟨b, _, off, hb, rfl, by omega, .inl (by omega)⟩
        · rw [if_neg hn, add_at]
          exact ⟨b, _, _, hb, rfl, by omega, .inr rfl⟩
    · rename_i e sz by_ u8 id off n hd
      obtain ⟨b, cap, o', hb, e', hn, ho'⟩ := hv
      obtain ⟨l, k, h1, h2, h3, h4⟩ := cutR_ok (P := P) (σ := σ) (g := g) (map_opt hev lo).1 (map_opt hev lo).2 (map_opt hev hi).1 (map_opt hev hi).2 h
      obtain ⟨hu, ⟨ie, z, hie, rfl, _⟩, _⟩ := und_slice (hty.ok _ _ hi') hd
      obtain ⟨V, hV, hr⟩ : ∃ V, V = Value.slice (if cap = l then (some ⟨b, o', none⟩ : Option Addr) else (some ⟨b, o', none⟩ : Option Addr).map (·.add (l * ie.size))) (k - l) (cap - l) ∧ ∀ w', (Instr.sliceAt t (.slice (some ⟨b, o', none⟩) n cap) (lo.map ρ) (hi.map ρ) none).run P w' = .ok V w' := ⟨_, rfl, fun w' => sliceAt_slice hu hie h1 h2 hn (h4 w')⟩
      refine quiet_ok hw (v := V) (fun w' hm => by simp [execOp, ho, e', hr]) ?_ h3
      subst hV
      by_cases hcl : cap = l
      · rw [if_pos hcl]
        exact ⟨b, cap - l, o', hb, rfl, by omega, .inl (by omega)⟩
      · rw [if_neg hcl]
        refine ⟨b, cap - l, o' + l * ie.size, hb, by simp [add_at], by omega, ?_⟩
        rcases ho' with h | h
        · exact .inl (by omega)
        · exact .inr (by rw [h])
    · rename_i e sz by_ u8 id ep off n hd
      obtain ⟨b, cap, sz0, e0, cs0, a, kk, hb, hs0, ev', hn, ha, hep, hcur⟩ := hv
      rw [hs0] at h
      simp only at h
      cases hb1 : Nat.beq sz0 sz && Nat.beq e0 ep with
      | false => simp only [hb1, cond_false] at h; exact h.elim
      | true =>
        simp only [hb1, cond_true] at h
        simp only [Bool.and_eq_true] at hb1
        obtain rfl := Nat.eq_of_beq_eq_true hb1.1
        obtain rfl := Nat.eq_of_beq_eq_true hb1.2
        obtain ⟨hfit, h⟩ := h
        obtain ⟨hu, ⟨ie, z, hie, rfl, _, _, _, hpos⟩, _⟩ := und_slice (hty.ok _ _ hi') hd
        obtain ⟨hc1, hc2⟩ := hcur rfl
        have hlen : cs0.length ≤ cap := (hw.blk _ _ _ hs0 hb).1
        have hnm : n ≤ (cs0.length - off) / ie.size := (Nat.le_div_iff_mul_le hpos).2 (by omega)
        have hmk : (cs0.length - off) / ie.size ≤ kk := Nat.le_trans (Nat.div_le_div_right (c := ie.size) (show cs0.length - off ≤ kk * ie.size by omega)) (by rw [Nat.mul_div_cancel _ hpos]; exact Nat.le_refl _)
        obtain ⟨l, k, h1, h2, h3, h4⟩ := cutX_ok (P := P) (σ := σ) (g := g) hnm (map_opt hev lo).1 (map_opt hev lo).2 (map_opt hev hi).1 (map_opt hev hi).2 h
        have hrun : ∀ w', (execOp ρ o).run P w' = .ok (.value (.slice (if kk = l then a else a.map (·.add (l * ie.size))) (k - l) (kk - l))) w' := fun w' => by
          simp [execOp, ho, ev', sliceAt_row hu hie (h4 w' true kk hmk)]
        refine quiet_ok hw (fun w' hm => hrun w') ?_ h3
        have hlk : l ≤ kk := by omega
        refine ⟨b, cap, ie.size, e0, cs0, _, _, hb, hs0, rfl, by omega, ?_, Nat.le_refl _, fun _ => ⟨?_, ?_⟩⟩
        · rcases Nat.eq_or_lt_of_le h1 with e | hlt
          · exact .inl (by omega)
          · right
            have hk0 : kk ≠ 0 := by omega
            rcases hc2 with e | e
            · exact absurd e hk0
            · subst e
              split <;> simp
        · rw [Nat.sub_mul]
          have := Nat.mul_le_mul_right ie.size hlk
          omega
        · by_cases hcl : kk = l
          · exact .inl (by omega)
          · right
            rw [if_neg hcl]
            rcases hc2 with e | e
            · omega
            · subst e; simp [add_at]
    · exact h.elim

/-- A cut with three bounds, of which only that it is one is wanted. -/
theorem ok_slice3 (hty : TysOk P ty) {o : Oper} {t : TypeId} {x lo hi mx : Operand} (ho : o.op = .slice t x (some lo) (some hi) (some mx)) : OpOk P ty o := by
  intro ev ρ L σ K Q g w hev hw h
  unfold opR at h
  rw [ho] at h
  simp only at h
  have hv := hev x
  have hl := hev lo
  have hh := hev hi
  have hm := hev mx
  generalize ev x = ax at h hv
  generalize ev lo = alo at h hl
  generalize ev hi = ahi at h hh
  generalize ev mx = amx at h hm
  unfold slice3R at h
  split at h
  · exact h.elim
  · rename_i i hi'
    split at h
    · rename_i e sz by_ u8 id ep off n kl l kh hh' km m hd
      obtain ⟨b, cap, sz0, e0, cs0, a, kk, hb, hs0, ev', hn, ha, hep, hcur⟩ := hv
      have el := hl.lit
      have eh := hh.lit
      have em := hm.lit
      obtain ⟨⟨h1, h2, h3, h4⟩, h⟩ := h
      obtain ⟨hu, ⟨ie, z, hie, rfl, _⟩, _⟩ := und_slice (hty.ok _ _ hi') hd
      have hb1 : (Instr.sliceBounds true n kk (some (.int kl l)) (some (.int kh hh')) (some (.int km m))).run P w = .ok (l.toNat, hh'.toNat, m.toNat) w := by
        simp [Instr.sliceBounds, Instr.sliceBound, asIntOf, show (0 : Int) ≤ m by omega, show m ≤ (kk : Int) by omega, show (0 : Int) ≤ hh' by omega, Int.toNat_of_nonneg (show (0 : Int) ≤ m by omega), Int.toNat_of_nonneg (show (0 : Int) ≤ hh' by omega), h1, h2, h3]
      refine OpSem.value (v := .slice (if m.toNat = l.toNat then a else a.map (·.add (l.toNat * ie.size))) (hh'.toNat - l.toNat) (m.toNat - l.toNat)) (w' := w) ?_ ⟨g, σ, .undef, True.intro, hw, Step.refl g σ w, Keep.refl g σ w L, h⟩
      simp only [execOp, ho, ev', el, eh, em, Sem.run_bind, Instr.sliceAt, run_underlying hu, Result.andThen_ok, Instr.slice, Option.map_some, hb1]
      simp [sizeOf, typeInfo, hie]
    · exact h.elim

/-! ### places -/
theorem vr_box {σ : Store} {g : Gh} {b base off : Nat} {cs : List D} (h : DRM g.I b base cs) : VR σ g (.d (.box cs off)) (.pointer (some ⟨b, base + off, none⟩)) := ⟨b, base, rfl, h⟩
theorem vr_ptr {σ : Store} {g : Gh} {id b off : Nat} (h : g.μ[id]? = some (.var b)) : VR σ g (.ptr id off) (.pointer (some ⟨b, off, none⟩)) := ⟨b, h, rfl⟩
theorem ok_index (hty : TysOk P ty) {o : Oper} {t : TypeId} {x ix : Operand} (ho : o.op = .index t x ix) : Quiet P ty o := by
  intro ev ρ L σ K Q g w hev hw h
  unfold opR at h
  rw [ho] at h
  simp only at h
  have hv := hev x
  have hj := hev ix
  split at h
  · rename_i i s k j hi e1 e2
    rw [e1] at hv
    rw [e2] at hj
    obtain ⟨⟨h0, h1⟩, h⟩ := h
    have hlt : j.toNat < s.size := by omega
    have hlt' : j.toNat < s.data.size := hlt
    refine quiet_ok hw (v := .int .u8 (s.data.getD j.toNat 0).toNat) (fun w' _ => ?_) (vr_lit _) h
    have hgs : s[j.toNat]? = some (s.data.getD j.toNat 0) := by
      have : s[j.toNat]? = some s[j.toNat] := getElem?_pos s j.toNat hlt
      rw [this]
      simp only [Array.getD, hlt', dite_true]
      rfl
    simp [execOp, ho, hv.lit, hj.lit, Instr.index, asIntOf, run_underlying (und_str (hty.ok _ _ hi) rfl), h0, hgs]
  · exact h.elim

theorem ok_indexAddr (hty : TysOk P ty) {o : Oper} {t : TypeId} {x ix : Operand} (ho : o.op = .indexAddr t x ix) : Quiet P ty o := by
  intro ev ρ L σ K Q g w hev hw h
  unfold opR at h
  rw [ho] at h
  simp only at h
  have hv := hev x
  have hj := hev ix
  generalize ev x = ax at h hv
  generalize ev ix = aj at h hj
  unfold indexAddrR at h
  split at h
  · rename_i i k j hi
    have ej := hj.lit
    split at h
    · rename_i e sz by_ u8 n cs hd
      obtain ⟨a, cap, e', hn, hc⟩ := hv
      obtain ⟨⟨h0, h1, h2⟩, h⟩ := h
      rcases hc with hc | ⟨b, off, rfl, hm⟩
      · exact absurd hc h2
      obtain ⟨hu, ⟨ie, z, hie, rfl, _⟩, _⟩ := und_slice (hty.ok _ _ hi) hd
      refine quiet_ok hw (v := .pointer (some ⟨b, off + j.toNat * ie.size, none⟩)) (fun w' _ => ?_) (vr_box hm) h
      simp [execOp, ho, e', ej, Instr.indexAt, asIntOf, run_underlying hu, h0, h1, sizeOf, typeInfo, hie, add_at]
    · rename_i e sz by_ u8 id n hd
      obtain ⟨s, sz2, m, cs, a, cap, _, hs2, _, e', hn, _, _, hc⟩ := hv
      rw [hs2] at h
      simp only at h
      cases hb : Nat.beq sz2 sz with
      | false => simp only [hb, cond_false] at h; exact h.elim
      | true =>
        simp only [hb, cond_true] at h
        obtain rfl := Nat.eq_of_beq_eq_true hb
        obtain ⟨⟨h0, h1, h2⟩, h⟩ := h
        rcases hc with hc | ⟨b, off, rfl, hm⟩
        · exact absurd hc h2
        obtain ⟨hu, ⟨ie, z, hie, rfl, _⟩, _⟩ := und_slice (hty.ok _ _ hi) hd
        refine quiet_ok hw (v := .pointer (some ⟨b, off + j.toNat * ie.size, none⟩)) (fun w' _ => ?_) (vr_box hm) h
        simp [execOp, ho, e', ej, Instr.indexAt, asIntOf, run_underlying hu, h0, h1, sizeOf, typeInfo, hie, add_at]
    · rename_i e sz by_ u8 id off n hd
      obtain ⟨b, cap, o', hb, e', hn, ho'⟩ := hv
      obtain ⟨⟨h0, h1⟩, h⟩ := h
      obtain rfl : o' = off := by rcases ho' with h2 | h2 <;> omega
      obtain ⟨hu, ⟨ie, z, hie, rfl, _⟩, _⟩ := und_slice (hty.ok _ _ hi) hd
      refine quiet_ok hw (v := .pointer (some ⟨b, o' + j.toNat * ie.size, none⟩)) (fun w' _ => ?_) (vr_ptr hb) h
      simp [execOp, ho, e', ej, Instr.indexAt, asIntOf, run_underlying hu, h0, h1, sizeOf, typeInfo, hie, add_at]
    · rename_i e sz by_ u8 id ep off n hd
      obtain ⟨b, cap, sz0, e0, cs0, a, kk, hb, hs0, e', hn, ha, hep, hcur⟩ := hv
      rw [hs0] at h
      simp only at h
      cases hb1 : Nat.beq sz0 sz && Nat.beq e0 ep with
      | false => simp only [hb1, cond_false] at h; exact h.elim
      | true =>
        simp only [hb1, cond_true] at h
        simp only [Bool.and_eq_true] at hb1
        obtain rfl := Nat.eq_of_beq_eq_true hb1.1
        obtain rfl := Nat.eq_of_beq_eq_true hb1.2
        obtain ⟨⟨h0, h1⟩, h⟩ := h
        obtain ⟨hu, ⟨ie, z, hie, rfl, _⟩, _⟩ := und_slice (hty.ok _ _ hi) hd
        obtain ⟨hc1, hc2⟩ := hcur rfl
        rcases hc2 with hk0 | rfl
        · omega
        refine quiet_ok hw (v := .pointer (some ⟨b, off + j.toNat * ie.size, none⟩)) (av := .cell id e0 (off + j.toNat * ie.size)) (fun w' _ => ?_) ⟨b, cap, _, e0, cs0, _, hb, hs0, rfl, Nat.le_refl _, fun _ => rfl⟩ h
        simp [execOp, ho, e', ej, Instr.indexAt, asIntOf, run_underlying hu, h0, h1, sizeOf, typeInfo, hie, add_at]
    · rename_i len e sz id off hd
      obtain ⟨b, hb, e'⟩ := hv
      obtain ⟨⟨h0, h1⟩, h⟩ := h
      obtain ⟨hu, ie, hie, rfl⟩ := und_array (hty.ok _ _ hi) hd
      refine quiet_ok hw (v := .pointer (some ⟨b, off + j.toNat * ie.size, none⟩)) (fun w' _ => ?_) (vr_ptr hb) h
      simp [execOp, ho, e', ej, Instr.indexAt, asIntOf, run_underlying hu, h0, h1, sizeOf, typeInfo, hie, add_at, Instr.sureAddr]
    · rename_i len e sz cs off hd
      obtain ⟨b, base, e', hm⟩ := hv
      obtain ⟨⟨h0, h1⟩, h⟩ := h
      obtain ⟨hu, ie, hie, rfl⟩ := und_array (hty.ok _ _ hi) hd
      refine quiet_ok hw (v := .pointer (some ⟨b, base + (off + j.toNat * ie.size), none⟩)) (fun w' _ => ?_) (vr_box hm) h
      simp [execOp, ho, e', ej, Instr.indexAt, asIntOf, run_underlying hu, h0, h1, sizeOf, typeInfo, hie, add_at, Instr.sureAddr, Nat.add_assoc]
    · rename_i len e sz b off hd
      have e' := hv.lit
      obtain ⟨⟨h0, h1⟩, h⟩ := h
      obtain ⟨hu, ie, hie, rfl⟩ := und_array (hty.ok _ _ hi) hd
      refine quiet_ok hw (v := .pointer (some ⟨b, off + j.toNat * ie.size, none⟩)) (fun w' _ => ?_) (vr_lit _) h
      simp [execOp, ho, e', ej, Instr.indexAt, asIntOf, run_underlying hu, h0, h1, sizeOf, typeInfo, hie, add_at, Instr.sureAddr]
    · exact h.elim
  · exact h.elim

theorem ok_fieldAddr (hty : TysOk P ty) {o : Oper} {t : TypeId} {x : Operand} {f : Nat} (ho : o.op = .fieldAddr t x f) : Quiet P ty o := by
  intro ev ρ L σ K Q g w hev hw h
  unfold opR at h
  rw [ho] at h
  simp only at h
  have hv := hev x
  split at h
  · rename_i fields _ _ _ _ _ _ hi
    obtain ⟨gs, hu, hf, _⟩ := und_struct (hty.ok _ _ hi) rfl
    have place : ∀ {fo ft : Nat} {j : TyI} {a : Addr}, fields[f]? = some (fo, ft) → ty.get ft = some j → Nat.beq j.size 0 = false → ρ x = .pointer (some a) →
        ∀ w, (execOp ρ o).run P w = .ok (.value (.pointer (some (a.add fo)))) w := fun {fo ft j a} h1 h2 h3 h4 w => by
      obtain ⟨fd, e1, e2, e3, _⟩ := fieldsEq_get hf h1
      have hs := run_size (hty.ok _ _ h2) w
      have hne : j.size ≠ 0 := fun e => by rw [e] at h3; cases h3
      have e1' : gs[f]? = some fd := by simpa using e1
      simp [execOp, ho, Instr.fieldAt, run_underlying hu, e1', h4, Instr.sureAddr, fieldPlace, e3, hs, hne, e2]
    split at h
    · rename_i fo ft id off h1 e1
      split at h
      · rename_i j h2
        cases hb : Nat.beq j.size 0 with
        | true => simp only [hb, cond_true] at h; exact h.elim
        | false =>
          simp only [hb, cond_false] at h
          rw [e1] at hv
          obtain ⟨b, hb', e'⟩ := hv
          exact quiet_ok hw (fun w' hm => by rw [place h1 h2 hb e', add_at]) (vr_ptr hb') h
      · exact h.elim
    · rename_i fo ft b off h1 e1
      split at h
      · rename_i j h2
        cases hb : Nat.beq j.size 0 with
        | true => simp only [hb, cond_true] at h; exact h.elim
        | false =>
          simp only [hb, cond_false] at h
          rw [e1] at hv
          have e' := hv.lit
          exact quiet_ok hw (v := .pointer (some ⟨b, off + fo, none⟩)) (fun w' hm => by rw [place h1 h2 hb e', add_at]) (vr_lit _) h
      · exact h.elim
    · rename_i fo ft id ep off h1 e1
      split at h
      · rename_i j h2
        cases hb : Nat.beq j.size 0 with
        | true => simp only [hb, cond_true] at h; exact h.elim
        | false =>
          simp only [hb, cond_false] at h
          rw [e1] at hv
          obtain ⟨b, cap, sz0, e0, cs0, a, hb', hs0, e', hep, hcur⟩ := hv
          refine quiet_ok hw (v := .pointer (some (a.add fo))) (av := .cell id ep (off + fo)) (fun w' hm => by rw [place h1 h2 hb e']) ⟨b, cap, sz0, e0, cs0, _, hb', hs0, rfl, hep, fun e => ?_⟩ h
          rw [hcur e, add_at]
      · exact h.elim
    · rename_i fo ft cs off h1 e1
      split at h
      · rename_i j h2
        cases hb : Nat.beq j.size 0 with
        | true => simp only [hb, cond_true] at h; exact h.elim
        | false =>
          simp only [hb, cond_false] at h
          rw [e1] at hv
          obtain ⟨b, base, e', hm⟩ := hv
          exact quiet_ok hw (fun w' hm => by rw [place h1 h2 hb e', add_at, Nat.add_assoc]) (vr_box hm) h
      · exact h.elim
    · exact h.elim
  · exact h.elim

/-! ### loads -/
theorem run_loadVar_agg {t : TypeId} {i : TyI} (h : tyB P t i = true) (ha : i.agg = true) {b off : Nat} {vs : List Value} (hl : vs.length = i.size) {w : World}
    (hc : ∀ j v, vs[j]? = some v → w.cell? ⟨b, off + j, none⟩ = some v) : (loadVar t ⟨b, off, none⟩).run P w = .ok (.agg vs.toArray) w := by
  have hl' := run_loadCells_list (P := P) w ⟨b, off, none⟩ vs (fun j v hj => by rw [add_at]; exact hc j v hj)
  rw [hl] at hl'
  simp [loadVar, run_isAgg h, ha, run_size h, hl']
theorem run_loadVar_one {t : TypeId} {i : TyI} (h : tyB P t i = true) (ha : i.agg = false) {a : Addr} {v : Value} {w : World}
    (hc : w.cell? a = some v) : (loadVar t a).run P w = .ok v w := by
  simp [loadVar, run_isAgg h, ha, hc]
theorem var_cells {σ : Store} {g : Gh} {w : World} (hw : WR g σ w) {id b : Nat} {cs : List AV} (hs : σ[id]? = some (.var cs)) (hb : g.μ[id]? = some (.var b)) :
    ∃ arr ty, w.heap[b]? = some (.cells arr ty (0, 0)) ∧ VRL σ g cs arr.toList ∧ ∀ j, w.cell? ⟨b, j, none⟩ = arr.toList[j]? := by
  obtain ⟨⟨arr, t, h1, h2⟩, _⟩ := hw.blk _ _ _ hs hb
  exact ⟨arr, t, h1, h2, fun j => by simp [World.cell?, h1]⟩
/-- The cells of a heap's object. -/
theorem heap_at {σ : Store} {g : Gh} {w : World} (hw : WR g σ w) {ep : Nat} {H : HMap} (hs : σ[0]? = some (.heap ep H)) :
    ∃ snap, g.μ[0]? = some (.heap snap) ∧ (∀ a, snap a ≠ none ↔ H a ≠ none) ∧ (∀ a o, H a = some o → HR g.I w a o) ∧ (∀ a v, g.I a v → ¬ snap a.block ≠ none) ∧ ∀ a o, snap a = some o → w.heap[a]? = some o := by
  have hlt : 0 < g.μ.length := by rw [hw.len]; exact (List.getElem?_eq_some_iff.1 hs).1
  obtain ⟨c, hc⟩ : ∃ c, g.μ[0]? = some c := ⟨_, List.getElem?_eq_getElem hlt⟩
  have hb := hw.blk 0 _ _ hs hc
  cases c with
  | heap dom => exact ⟨dom, hc, hb⟩
  | _ => exact hb.elim
theorem heap_cells {σ : Store} {g : Gh} {w : World} (hw : WR g σ w) {ep : Nat} {H : HMap} (hs : σ[0]? = some (.heap ep H)) {b : Nat} {cs : List D} (hb : H b = some (.cells cs)) :
    ∃ dom vs ty, g.μ[0]? = some (.heap dom) ∧ dom b ≠ none ∧ w.heap[b]? = some (.cells vs ty (0, 0)) ∧ DRL g.I cs vs.toList ∧ ∀ j, w.cell? ⟨b, j, none⟩ = vs.toList[j]? := by
  obtain ⟨dom, h1, h2, h3, h4, _⟩ := heap_at hw hs
  obtain ⟨vs, tt, k1, k2⟩ := h3 b _ hb
  exact ⟨dom, vs, tt, h1, (h2 b).2 (by rw [hb]; simp), k1, k2, fun j => by simp [World.cell?, k1]⟩
theorem drl_get {I : Facts} {cs : List D} {vs : List Value} (h : DRL I cs vs) {j : Nat} (hj : j < cs.length) : ∃ v, vs[j]? = some v ∧ DR I (rdD cs j) v := by
  obtain ⟨v, h1, h2⟩ := h.get (j := j) (x := rdD cs j) (by simp [rdD, List.getD_eq_getElem?_getD, List.getElem?_eq_getElem hj])
  exact ⟨v, h1, h2⟩
theorem formed_length (cs : List D) : ∀ (ks : List CK) (off : Nat), (formed cs ks off).length = ks.length
  | [], _ => rfl
  | k :: ks, off => by simp [formed, formed_length cs ks (off + 1)]
theorem formed_ok (cs : List D) : ∀ (ks : List CK) (off : Nat), formedOk cs ks off → ∀ j, j < ks.length → (formed cs ks off)[j]? = some (rdD cs (off + j))
  | [], _, _, j, hj => by simp at hj
  | k :: ks, off, ⟨h, _⟩, 0, _ => by
    simp only [formed, List.getElem?_cons_zero, Nat.add_zero, Option.some.injEq]
    cases k <;> simp only [CK.form, CK.ok] at h ⊢ <;> first | exact h.symm | rfl
  | k :: ks, off, ⟨_, h⟩, j + 1, hj => by
    simp only [formed, List.getElem?_cons_succ]
    rw [formed_ok cs ks (off + 1) h j (by simpa using hj)]
    congr 2
    omega
theorem DRL.of_get {I : Facts} : ∀ {cs : List D} {vs : List Value}, vs.length = cs.length → (∀ (j : Nat) (x : D) (v : Value), cs[j]? = some x → vs[j]? = some v → DR I x v) → DRL I cs vs
  | [], vs, h, _ => by rw [DRL]; exact List.eq_nil_of_length_eq_zero h
  | c :: cs, [], h, _ => by simp at h
  | c :: cs, v :: vs, h, k => ⟨v, vs, rfl, k 0 c v rfl rfl, DRL.of_get (by simpa using h) fun j x u hx hu => k (j + 1) x u (by simpa using hx) (by simpa using hu)⟩

/-- A load, on whatever world has its cells. -/
theorem load_cells {σ : Store} {g : Gh} {t : TypeId} {i : TyI} (hi : tyB P t i = true) {b base off : Nat} {cs : List D} (J : Facts) (hk : i.kinds.length = i.size)
    (get : ∀ j, j < i.size → ∃ v, J ⟨b, base + off + j, none⟩ v ∧ DR g.I (rdD cs (off + j)) v) (hf : formedOk cs i.kinds off) :
    (i.agg = true → ∃ v, (∀ w', (∀ a v, J a v → w'.cell? a = some v) → (loadVar t ⟨b, base + off, none⟩).run P w' = .ok v w') ∧ VR σ g (.d (.agg (formed cs i.kinds off))) v) ∧
    (i.agg = false → i.size = 1 → ∃ x v, formed cs i.kinds off = [x] ∧ (∀ w', (∀ a v, J a v → w'.cell? a = some v) → (loadVar t ⟨b, base + off, none⟩).run P w' = .ok v w') ∧ DR g.I x v) := by
  constructor
  · intro ha
    have : ∃ vs : List Value, vs.length = i.size ∧ ∀ j v, vs[j]? = some v → J ⟨b, base + off + j, none⟩ v ∧ DR g.I (rdD cs (off + j)) v := by
      have : ∀ n, n ≤ i.size → ∃ vs : List Value, vs.length = n ∧ ∀ j v, vs[j]? = some v → J ⟨b, base + off + j, none⟩ v ∧ DR g.I (rdD cs (off + j)) v := by
        intro n
        induction n with
        | zero => exact fun _ => ⟨[], rfl, fun j v h => by simp at h⟩
        | succ n ih =>
          intro hn
          obtain ⟨vs, h1, h2⟩ := ih (by omega)
          obtain ⟨v, h3, h4⟩ := get n (by omega)
          refine ⟨vs ++ [v], by simp [h1], fun j u hu => ?_⟩
          rcases Nat.lt_trichotomy j n with h | h | h
          · rw [List.getElem?_append_left (by omega)] at hu
            exact h2 j u hu
          · subst h
            rw [List.getElem?_append_right (by omega)] at hu
            simp [h1] at hu
            subst hu
            exact ⟨h3, h4⟩
          · rw [List.getElem?_eq_none (by simp; omega)] at hu
            cases hu
      exact this i.size (Nat.le_refl _)
    obtain ⟨vs, h1, h2⟩ := this
    refine ⟨.agg vs.toArray, fun w' hw' => run_loadVar_agg hi ha h1 fun j v hj => hw' _ _ (h2 j v hj).1, vs, rfl, DRL.of_get (by rw [formed_length, hk, h1]) fun j x v hx hv => ?_⟩
    have hj : j < i.kinds.length := by
      have := (List.getElem?_eq_some_iff.1 hx).1
      rwa [formed_length] at this
    rw [formed_ok cs _ _ hf j hj] at hx
    obtain rfl := Option.some.inj hx
    exact (h2 j v hv).2
  · intro ha h1
    obtain ⟨v, h2, h3⟩ := get 0 (by omega)
    have hlen : (formed cs i.kinds off).length = 1 := by rw [formed_length, hk, h1]
    obtain ⟨x, hx⟩ := List.length_eq_one_iff.1 hlen
    refine ⟨x, v, hx, fun w' hw' => run_loadVar_one hi ha (hw' _ _ (by simpa using h2)), ?_⟩
    have := formed_ok cs _ _ hf 0 (by omega)
    rw [hx] at this
    simp at this
    rw [this]
    exact h3

theorem load_box {σ : Store} {g : Gh} {t : TypeId} {i : TyI} (hi : tyB P t i = true) {b base off : Nat} {cs : List D} (hm : DRM g.I b base cs) (hk : i.kinds.length = i.size)
    (hl : off + i.size ≤ cs.length) (hf : formedOk cs i.kinds off) {w : World} (hw : ∀ a v, g.I a v → w.cell? a = some v) :
    (i.agg = true → ∃ v, (∀ w', (∀ a v, g.I a v → w'.cell? a = some v) → (loadVar t ⟨b, base + off, none⟩).run P w' = .ok v w') ∧ VR σ g (.d (.agg (formed cs i.kinds off))) v) ∧
    (i.agg = false → i.size = 1 → ∃ x v, formed cs i.kinds off = [x] ∧ (∀ w', (∀ a v, g.I a v → w'.cell? a = some v) → (loadVar t ⟨b, base + off, none⟩).run P w' = .ok v w') ∧ DR g.I x v) :=
  load_cells hi g.I hk (fun j hj => by
    obtain ⟨v, h1, h2⟩ := hm.get (off + j) (by omega)
    exact ⟨v, by rw [Nat.add_assoc]; exact h1, h2⟩) hf
/-- The cells of a row. -/
theorem row_cells {σ : Store} {g : Gh} {w : World} (hw : WR g σ w) {id b cap sz ep : Nat} {cs : List D} (hs : σ[id]? = some (.row sz ep cs)) (hb : g.μ[id]? = some (.row b cap)) (hne : cs ≠ []) :
    ∃ arr ty, w.heap[b]? = some (.cells arr ty (0, 0)) ∧ arr.size = cap ∧ cs.length ≤ cap ∧ (∀ j, w.cell? ⟨b, j, none⟩ = arr.toList[j]?) ∧ (∀ j, j < cs.length → ∃ v, arr.toList[j]? = some v ∧ DR g.I (rdD cs j) v) ∧ (∀ a v, g.I a v → a.block ≠ b) ∧ DRL g.I cs (arr.toList.take cs.length) := by
  obtain ⟨h1, h2⟩ := hw.blk _ _ _ hs hb
  rcases h2 with h2 | ⟨⟨arr, t, vs, h3, h4, h5, h6⟩, h7⟩
  · have : cs.length = 0 := by omega
    exact absurd (List.eq_nil_of_length_eq_zero this) hne
  · refine ⟨arr, t, h3, h4, h1, fun j => by simp [World.cell?, h3], fun j hj => ?_, h7, by rw [h6]; exact h5⟩
    obtain ⟨v, hv, hd⟩ := h5.get (j := j) (x := rdD cs j) (by simp only [rdD, List.getD_eq_getElem?_getD, List.getElem?_eq_getElem hj, Option.getD_some])
    rw [← h6, List.getElem?_take_of_lt hj] at hv
    exact ⟨v, hv, hd⟩
theorem row_cap {σ : Store} {g : Gh} {w : World} (hw : WR g σ w) {id b cap sz ep : Nat} {cs : List D} (hs : σ[id]? = some (.row sz ep cs)) (hb : g.μ[id]? = some (.row b cap)) (hcap : 0 < cap) :
    ∃ arr ty, w.heap[b]? = some (.cells arr ty (0, 0)) ∧ arr.size = cap ∧ cs.length ≤ cap ∧ (∀ j, w.cell? ⟨b, j, none⟩ = arr.toList[j]?) ∧ (∀ a v, g.I a v → a.block ≠ b) ∧ DRL g.I cs (arr.toList.take cs.length) := by
  obtain ⟨h1, h2⟩ := hw.blk _ _ _ hs hb
  rcases h2 with h2 | ⟨⟨arr, t, vs, h3, h4, h5, h6⟩, h7⟩
  · omega
  · exact ⟨arr, t, h3, h4, h1, fun j => by simp [World.cell?, h3], h7, by rw [h6]; exact h5⟩
theorem ok_load (hty : TysOk P ty) {o : Oper} {t : TypeId} {x : Operand} (ho : o.op = .load t x) : Quiet P ty o := by
  intro ev ρ L σ K Q g w hev hw h
  unfold opR at h
  rw [ho] at h
  simp only at h
  have hv := hev x
  generalize hax : ev x = ax at h hv
  split at h
  · rename_i i hi
    have hi := hty.ok _ _ hi
    unfold loadR at h
    split at h
    · rename_i id off
      obtain ⟨b, hb, e⟩ := hv
      split at h
      · rename_i cs hs
        obtain ⟨arr, tt, h1, h2, h3⟩ := var_cells hw hs hb
        have same : ∀ w', Meets g σ (readsOf o ev) w w' → ∀ {j}, w'.cell? ⟨b, j, none⟩ = w.cell? ⟨b, j, none⟩ := fun w' hm j => by
          have : w'.heap[b]? = w.heap[b]? := hm.var id (by simp [readsOf, ho, hax]) b hb
          simp only [World.cell?, this]
        cases hle : Nat.ble (off + i.size) cs.length with
        | false => simp only [hle, cond_false] at h; exact h.elim
        | true =>
          simp only [hle, cond_true] at h
          have hle := Nat.le_of_ble_eq_true hle
          cases ha : i.agg with
          | true =>
            simp only [ha, cond_true, AV.force_eq] at h
            have hl : ((arr.toList.drop off).take i.size).length = i.size := by
              have := h2.length
              simp only [List.length_take, List.length_drop]
              omega
            refine quiet_ok hw (v := .agg ((arr.toList.drop off).take i.size).toArray) (fun w' hm' => ?_) (VR.mkAgg ((h2.drop off).take i.size)) h
            have := run_loadVar_agg (P := P) hi ha (b := b) (off := off) hl (w := w') (fun j v hj => by
              rw [same w' hm', h3, ← hj, List.getElem?_take, List.getElem?_drop]
              rw [if_pos (by have := (List.getElem?_eq_some_iff.1 hj).1; omega)])
            simp [execOp, ho, Instr.loadAt, e, Instr.sureAddr, this]
          | false =>
            simp only [ha, cond_false] at h
            cases h1' : Nat.beq i.size 1 with
            | false => simp only [h1', cond_false] at h; exact h.elim
            | true =>
              simp only [h1', cond_true, AV.force_eq] at h
              split at h
              · rename_i v hv
                obtain ⟨u, hu, hr⟩ := h2.get hv
                refine quiet_ok hw (v := u) (fun w' hm' => ?_) hr h
                have := run_loadVar_one (P := P) hi ha (a := ⟨b, off, none⟩) (v := u) (w := w') (by rw [same w' hm', h3]; exact hu)
                simp [execOp, ho, Instr.loadAt, e, Instr.sureAddr, this]
              · exact h.elim
      · exact h.elim
    · rename_i cs off
      obtain ⟨b, base, e, hm⟩ := hv
      cases hk : Nat.beq i.kinds.length i.size with
      | false => simp only [hk, cond_false] at h; exact h.elim
      | true =>
        simp only [hk, cond_true] at h
        have hk := Nat.eq_of_beq_eq_true hk
        obtain ⟨⟨h1, h2⟩, h⟩ := h
        have key := load_box (σ := σ) hi hm hk h1 h2 (w := w) hw.fact
        unfold loadK at h
        cases ha : i.agg with
        | true =>
          simp only [ha, cond_true, forceL_eq] at h
          obtain ⟨v, h3, h4⟩ := key.1 ha
          exact quiet_ok hw (v := v) (fun w' hm => by simp [execOp, ho, Instr.loadAt, e, Instr.sureAddr, h3 w' hm.fact]) h4 h
        | false =>
          simp only [ha, cond_false] at h
          cases h1' : Nat.beq i.size 1 with
          | false => simp only [h1', cond_false] at h; exact h.elim
          | true =>
            simp only [h1', cond_true, AV.force_eq] at h
            obtain ⟨x, v, h3, h4, h5⟩ := key.2 ha (Nat.eq_of_beq_eq_true h1')
            rw [h3] at h
            exact quiet_ok hw (v := v) (fun w' hm => by simp [execOp, ho, Instr.loadAt, e, Instr.sureAddr, h4 w' hm.fact]) (show VR σ g (.d x) v from h5) h
    · rename_i b off
      have e := hv.lit
      split at h
      · rename_i σ0 ep H r
        cases hk : Nat.beq i.kinds.length i.size with
        | false => simp only [hk, cond_false] at h; exact h.elim
        | true =>
          simp only [hk, cond_true] at h
          have hk := Nat.eq_of_beq_eq_true hk
          obtain ⟨l, ⟨cs, hH, h1, h2, rfl⟩, h⟩ := h
          obtain ⟨dom, vs, tt, k1, k2, k3, k4, k5⟩ := heap_cells hw rfl hH
          have hro : readsOf o ev = [0] := by unfold readsOf; rw [ho]; simp only [hax]
          have hJ : ∀ w', Meets g (.heap ep H :: r) (readsOf o ev) w w' → ∀ a v, (a.block = b ∧ w.cell? a = some v) → w'.cell? a = some v := fun w' hm a v ⟨ha, hv⟩ => by
            rw [hro] at hm
            rw [World.cell?_of_block (w := w) (by rw [ha]; exact hm.hp 0 (by simp) dom ep H k1 rfl b k2)]
            exact hv
          have key := load_cells (P := P) (σ := .heap ep H :: r) (g := g) hi (b := b) (base := 0) (off := off) (cs := cs) (fun a v => a.block = b ∧ w.cell? a = some v) hk (fun j hj => by
            obtain ⟨v, hv, hd⟩ := drl_get k4 (j := off + j) (by omega)
            exact ⟨v, ⟨rfl, by rw [Nat.zero_add, k5]; exact hv⟩, hd⟩) h2
          rw [Nat.zero_add] at key
          unfold loadK at h
          cases ha : i.agg with
          | true =>
            simp only [ha, cond_true, forceL_eq] at h
            obtain ⟨v, h3, h4⟩ := key.1 ha
            exact quiet_ok hw (v := v) (fun w' hm => by simp [execOp, ho, Instr.loadAt, e, Instr.sureAddr, h3 w' (hJ w' hm)]) h4 h
          | false =>
            simp only [ha, cond_false] at h
            cases h1' : Nat.beq i.size 1 with
            | false => simp only [h1', cond_false] at h; exact h.elim
            | true =>
              simp only [h1', cond_true, AV.force_eq] at h
              obtain ⟨x, v, h3, h4, h5⟩ := key.2 ha (Nat.eq_of_beq_eq_true h1')
              rw [h3] at h
              exact quiet_ok hw (v := v) (fun w' hm => by simp [execOp, ho, Instr.loadAt, e, Instr.sureAddr, h4 w' (hJ w' hm)]) (show VR (.heap ep H :: r) g (.d x) v from h5) h
      cases ha : i.agg with
      | true => simp only [ha, cond_true] at h; exact h.elim
      | false =>
        simp only [ha, cond_false] at h
        cases h1' : Nat.beq i.size 1 with
        | false => simp only [h1', cond_false] at h; exact h.elim
        | true =>
          simp only [h1', cond_true] at h
          obtain ⟨v, hj, h⟩ := h
          refine quiet_ok hw (v := v) (fun w' hm => ?_) (vr_lit v) h
          have := run_loadVar_one (P := P) hi ha (a := ⟨b, off, none⟩) (v := v) (w := w') (hm.fact _ _ (hw.glob.1 _ _ hj))
          simp [execOp, ho, Instr.loadAt, e, Instr.sureAddr, this]
    · rename_i id ep off
      obtain ⟨b, cap, sz0, e0, cs, a, hb, hs, e, hep, hcur⟩ := hv
      rw [hs] at h
      simp only at h
      cases hk : Nat.beq i.kinds.length i.size && Nat.beq e0 ep with
      | false => simp only [hk, cond_false] at h; exact h.elim
      | true =>
        simp only [hk, cond_true] at h
        simp only [Bool.and_eq_true] at hk
        obtain rfl := Nat.eq_of_beq_eq_true hk.2
        have hk := Nat.eq_of_beq_eq_true hk.1
        obtain ⟨⟨h1, h2⟩, h⟩ := h
        obtain rfl := hcur rfl
        by_cases hne : cs = []
        · -- a load of no cells
          subst hne
          have hsz : i.size = 0 := by simp at h1; omega
          have hkn : i.kinds = [] := List.eq_nil_of_length_eq_zero (by omega)
          unfold loadK at h
          cases ha : i.agg with
          | true =>
            simp only [ha, cond_true, forceL_eq, hkn, formed] at h
            refine quiet_ok hw (v := .agg #[]) (av := .d (.agg [])) (fun w' hm => ?_) ⟨[], rfl, rfl⟩ h
            have := run_loadVar_agg (P := P) hi ha (b := b) (off := off) (vs := []) (by simp [hsz]) (w := w') (fun j v hj => by simp at hj)
            simp [execOp, ho, Instr.loadAt, e, Instr.sureAddr, this]
          | false =>
            simp only [ha, cond_false, hsz] at h
            exact h.elim
        · obtain ⟨arr, tt, k1, k2, k3, k4, k5, k6, _⟩ := row_cells hw hs hb hne
          have hJ : ∀ w', Meets g σ (readsOf o ev) w w' → ∀ a v, (a.block = b ∧ w.cell? a = some v) → w'.cell? a = some v := fun w' hm a v ⟨ha, hv⟩ => by
            have hro : readsOf o ev = [id] := by unfold readsOf; rw [ho]; simp only [hax]
            have hcap : cap ≠ 0 := fun h0 => by
              subst h0
              exact hne (List.eq_nil_of_length_eq_zero (by omega))
            obtain ⟨cap, rfl⟩ : ∃ c, cap = c + 1 := ⟨cap - 1, by omega⟩
            rw [hro] at hm
            rw [World.cell?_of_block (w := w) (by rw [ha]; exact hm.row id (by simp) b cap _ _ _ hb hs)]
            exact hv
          have key := load_cells (P := P) (σ := σ) (g := g) hi (b := b) (base := 0) (off := off) (cs := cs) (fun a v => a.block = b ∧ w.cell? a = some v) hk (fun j hj => by
            obtain ⟨v, hv, hd⟩ := k5 (off + j) (by omega)
            exact ⟨v, ⟨rfl, by rw [Nat.zero_add, k4]; exact hv⟩, hd⟩) h2
          rw [Nat.zero_add] at key
          unfold loadK at h
          cases ha : i.agg with
          | true =>
            simp only [ha, cond_true, forceL_eq] at h
            obtain ⟨v, h3, h4⟩ := key.1 ha
            exact quiet_ok hw (v := v) (fun w' hm => by simp [execOp, ho, Instr.loadAt, e, Instr.sureAddr, h3 w' (hJ w' hm)]) h4 h
          | false =>
            simp only [ha, cond_false] at h
            cases h1' : Nat.beq i.size 1 with
            | false => simp only [h1', cond_false] at h; exact h.elim
            | true =>
              simp only [h1', cond_true, AV.force_eq] at h
              obtain ⟨x, v, h3, h4, h5⟩ := key.2 ha (Nat.eq_of_beq_eq_true h1')
              rw [h3] at h
              exact quiet_ok hw (v := v) (fun w' hm => by simp [execOp, ho, Instr.loadAt, e, Instr.sureAddr, h4 w' (hJ w' hm)]) (show VR σ g (.d x) v from h5) h
    · exact h.elim
  · exact h.elim

/-! ### structs -/
theorem fieldR_ok {i : TyI} {fo ft : Nat} (h2 : tyB P ft i = true) {cs : List AV} {σ : Store} {g : Gh} {vs : List Value} (hl : VRL σ g cs vs) {K : AV → Res} {Q} (h : (fieldR i fo cs K).wp P Q) :
    ∃ v av, (∀ w, (part ft vs.toArray fo).run P w = .ok v w) ∧ VR σ g av v ∧ (K av).wp P Q := by
  unfold fieldR at h
  cases hle : Nat.ble (fo + i.size) cs.length with
  | false => simp only [hle, cond_false] at h; exact h.elim
  | true =>
    simp only [hle, cond_true] at h
    have hle := Nat.le_of_ble_eq_true hle
    have hlen := hl.length
    cases ha : i.agg with
    | true =>
      simp only [ha, cond_true, AV.force_eq] at h
      refine ⟨.agg ((vs.drop fo).take i.size).toArray, _, fun w => ?_, VR.mkAgg ((hl.drop fo).take i.size), h⟩
      have hs := run_size h2 w
      have : (vs.toArray.extract fo (fo + i.size)) = ((vs.drop fo).take i.size).toArray := by
        simp [List.extract_toArray, List.extract_eq_take_drop]
      simp [part, run_isAgg h2, ha, hs, this]
    | false =>
      simp only [ha, cond_false] at h
      cases h1' : Nat.beq i.size 1 with
      | false => simp only [h1', cond_false] at h; exact h.elim
      | true =>
        simp only [h1', cond_true, AV.force_eq] at h
        split at h
        · rename_i v hv
          obtain ⟨u, hu', hr⟩ := hl.get hv
          exact ⟨u, v, fun w => by simp [part, run_isAgg h2, ha, hu'], hr, h⟩
        · exact h.elim
theorem ok_field (hty : TysOk P ty) {o : Oper} {t : TypeId} {x : Operand} {f : Nat} (ho : o.op = .field t x f) : Quiet P ty o := by
  intro ev ρ L σ K Q g w hev hw h
  unfold opR at h
  rw [ho] at h
  simp only at h
  have hv := hev x
  split at h
  · rename_i fields _ _ _ _ _ _ hi
    obtain ⟨gs, hu, hf, _⟩ := und_struct (hty.ok _ _ hi) rfl
    split at h
    · rename_i fo ft h1
      obtain ⟨fd, e1, e2, e3, _⟩ := fieldsEq_get hf h1
      have e1' : gs[f]? = some fd := by simpa using e1
      split at h
      · rename_i i h2
        have h2 := hty.ok _ _ h2
        split at h
        · rename_i cs hx
          rw [hx] at hv
          obtain ⟨vs, e, hl⟩ := hv
          obtain ⟨v, av, h3, h4, h5⟩ := fieldR_ok h2 (VRL.of_ds (σ := σ).2 hl) h
          exact quiet_ok hw (v := v) (fun w' hm => by simp [execOp, ho, Instr.field, run_underlying hu, e1', e, asAgg, e3, e2, h3]) h4 h5
        · rename_i cs hx
          rw [hx] at hv
          obtain ⟨vs, e, hl⟩ := hv
          obtain ⟨v, av, h3, h4, h5⟩ := fieldR_ok h2 hl h
          exact quiet_ok hw (v := v) (fun w' hm => by simp [execOp, ho, Instr.field, run_underlying hu, e1', e, asAgg, e3, e2, h3]) h4 h5
        · exact h.elim
      · exact h.elim
    · exact h.elim
  · exact h.elim
end Go.Am
