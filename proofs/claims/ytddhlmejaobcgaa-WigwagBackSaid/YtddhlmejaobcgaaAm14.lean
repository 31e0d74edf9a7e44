/- The abstract machine 'Am': every operation; regions. -/
import Derived.Test.YtddhlmejaobcgaaAm21
import Derived.OrdersHeld
import Derived.Laws.IdiomStrings
set_option linter.unusedVariables false
set_option linter.unusedSimpArgs false
namespace Go.Am
open Go
variable {P : Program} {ty : Tys}

/-- As new_row: the row bears a mark, and may be longer. -/
theorem new_row_at {g : Gh} {σ : Store} {w : World} (hw : WR g σ w) {cs : List D} {arr : Array Value} {vs : List Value} {t : TypeId} {m : Nat × Nat} (h : DRL g.I cs vs) (hv : ∀ (j : Nat) v, vs[j]? = some v → arr[j]? = some v) :
    ∃ J : Facts, DRM J w.heap.size 0 cs ∧ (∀ a v, J a v → g.I a v ∨ a.block = w.heap.size) ∧ WR ⟨g.μ, J⟩ σ (w.alloc (.cells arr t m)) ∧ Step g σ w ⟨g.μ, J⟩ σ (w.alloc (.cells arr t m)) := by
  have hcell : ∀ j, (w.alloc (.cells arr t m)).cell? ⟨w.heap.size, j, none⟩ = arr[j]? := fun j => by
    have hnew : (w.alloc (.cells arr t m)).heap[w.heap.size]? = some (.cells arr t m) := heap_alloc_new w _
    rw [cell_of_row _ _ _ _ _ _ hnew]
  let J : Facts := fun a v => g.I a v ∨ (∃ j, a = ⟨w.heap.size, j, none⟩ ∧ vs[j]? = some v)
  obtain ⟨h1, h2⟩ := hw.grow (.cells arr t m) J (fun _ _ h => .inl h) fun a v h => h.imp _root_.id fun ⟨j, e, hj⟩ => by
    subst e
    exact ⟨rfl, by rw [hcell]; exact hv j v hj⟩
  refine ⟨J, DRM.of_get fun j hj => ?_, fun a v h => h.imp _root_.id fun ⟨j, e, hj⟩ => (by subst e; rfl), h1, h2⟩
  have hx : cs[j]? = some (rdD cs j) := by simp [rdD, List.getD_eq_getElem?_getD, List.getElem?_eq_getElem hj]
  obtain ⟨v, hv, hd⟩ := h.get hx
  exact ⟨v, .inr ⟨j, by simp, hv⟩, DR.mono (fun _ _ h => .inl h) _ _ hd⟩
/-- Operations that may be taken first. -/
def quietB : Op → Bool
  | .move _ | .assign _ | .pick _ _ _ | .build _ _ | .load _ _ | .nilCheck _ | .binOp _ _ _ _ _ | .unOp _ _ _ | .convert _ _ _ | .makeInterface _ _ | .makeFunc _ _ _ | .slice _ _ _ _ none
  | .fieldAddr _ _ _ | .field _ _ _ | .indexAddr _ _ _ | .index _ _ _ | .extract _ _ | .lookup _ _ _ _ => true
  | .call c => match c.callee with
    | .builtin .len | .builtin .max | .builtin .min => true
    | _ => false
  | _ => false

theorem op_quiet (hty : TysOk P ty) (o : Oper) (h : quietB o.op = true) (hcv : convS ty o = false) : Quiet P ty o := by
  cases ho : o.op <;> rw [ho] at h
  case move x => exact ok_move (.inl ho)
  case assign x => exact ok_move (.inr ho)
  case pick => exact ok_pick ho
  case build => exact ok_build hty ho
  case load => exact ok_load hty ho
  case nilCheck => exact ok_nilCheck ho
  case binOp => exact ok_binOp hty ho
  case unOp => exact ok_unOp ho
  case convert => exact ok_convert hty ho hcv
  case makeInterface => exact ok_makeInterface hty ho
  case makeFunc => exact ok_makeFunc ho
  case slice t x lo hi mx =>
    cases mx with
    | none => exact ok_slice hty ho
    | some m => cases h
  case fieldAddr => exact ok_fieldAddr hty ho
  case field => exact ok_field hty ho
  case indexAddr => exact ok_indexAddr hty ho
  case index => exact ok_index hty ho
  case extract => exact ok_extract ho
  case lookup => exact ok_lookup hty ho
  case call c =>
    cases hc : c.callee with
    | value f => simp [quietB, hc] at h
    | invoke a b => simp [quietB, hc] at h
    | builtin b =>
      cases b <;> simp only [quietB, hc] at h <;> try (cases h; done)
      · exact ok_len hty ho hc
      · exact ok_max ho hc
      · exact ok_min ho hc
  all_goals cases h
/-- A string laid out as bytes. -/
theorem ok_convS (hty : TysOk P ty) {o : Oper} (hcv : convS ty o = true) : OpOk P ty o := by
  unfold convS at hcv
  split at hcv
  · rename_i src dst x ho
    split at hcv
    · rename_i hi hj
      intro ev ρ L σ K Q g w hev hw h
      unfold opR at h
      rw [ho] at h
      dsimp only at h
      have hx := hev x
      generalize hax : ev x = ax at h hx
      unfold convR at h
      simp only [hi, hj] at h
      split at h <;> try (first | (exfalso; simp_all; done) | exact h.elim)
      rename_i e sz by_ s q1 q2
      injection q2 with k1 k2 k3 k4
      have k1 := k1.symm
      have k2 := k2.symm
      have k3 := k3.symm
      subst k1 k2 k3
      obtain ⟨rfl, h⟩ := h
      obtain ⟨hu1, ⟨ie, z, hie, _, _, hz, hzs, hpos⟩, hu8⟩ := und_slice (hty.ok _ _ hj) rfl
      have hu0 := und_str (hty.ok _ _ hi) rfl
      have ex := hx.lit
      obtain ⟨cap, hcap⟩ : ∃ c, grownCap w s.size 0 e = c := ⟨_, rfl⟩
      have hrun := run_bytes_of_string (P := P) w src dst e s hu0 hu1 (hu8 rfl)
      have hge : s.size ≤ grownCap w s.size 0 e := grownCap_ge w s.size 0 e
      have hdl : DRL g.I (s.data.toList.map fun b => D.lit (.int .u8 b.toNat)) (s.data.toList.map fun b => Value.int .u8 b.toNat) := by
        generalize s.data.toList = l
        induction l with
        | nil => exact rfl
        | cons b r ih => exact ⟨_, _, rfl, rfl, ih⟩
      obtain ⟨J, q1, hJ, q2, q3⟩ := new_row_at (drew_wr hw) (t := e) (m := ((bytesRow s (grownCap w s.size 0 e)).size, (bytesRow s (grownCap w s.size 0 e)).size + 1)) (arr := bytesRow s (grownCap w s.size 0 e)) (vs := s.data.toList.map fun b => Value.int .u8 b.toNat) hdl (by
        intro j v hv
        unfold bytesRow
        rw [Array.getElem?_append_left (by have := (List.getElem?_eq_some_iff.1 hv).1; simpa using this)]
        simpa using hv)
      refine OpSem.value (v := .slice (some ⟨w.heap.size, 0, none⟩) s.size (grownCap w s.size 0 e)) (w' := w.drew.alloc (.cells (bytesRow s (grownCap w s.size 0 e)) e ((bytesRow s (grownCap w s.size 0 e)).size, (bytesRow s (grownCap w s.size 0 e)).size + 1))) ?_
        ⟨_, _, .d (.sl s.size _), ⟨_, _, rfl, hge, .inr ⟨w.heap.size, 0, rfl, q1⟩⟩, q2, (drew_step g σ w).trans q3, Keep.old hw (fun b hb => heap_alloc_old w.drew _ hb) L, h⟩
      unfold execOp
      simp only [ho, ex, Sem.run_bind, hrun, Result.andThen, Sem.run_pure]
    · cases hcv
  · cases hcv
theorem op_ok (hty : TysOk P ty) (o : Oper) : OpOk P ty o := by
  cases hcv : convS ty o with
  | true => exact ok_convS hty hcv
  | false =>
  cases hq : quietB o.op with
  | true => exact Quiet.ok (op_quiet hty o hq hcv)
  | false =>
    cases ho : o.op <;> rw [ho] at hq <;> try (cases hq; done)
    case alloc => exact ok_alloc hty ho
    case box => exact ok_box ho
    case buildSlice => exact ok_buildSlice hty ho
    case makeSlice => exact ok_makeSlice hty ho
    case store => exact ok_store hty ho
    case makeMap => exact ok_makeMap hty ho
    case range => exact ok_range hty ho
    case next => exact ok_next hty ho
    case entry => exact ok_entry ho
    case mapUpdate => exact ok_mapUpdate hty ho
    case slice t x lo hi mx =>
      cases mx with
      | none => cases hq
      | some m =>
        cases lo with
        | none =>
          intro ev ρ L σ K Q g w hev hw h
          unfold opR at h
          rw [ho] at h
          exact h.elim
        | some lo =>
          cases hi with
          | none =>
            intro ev ρ L σ K Q g w hev hw h
            unfold opR at h
            rw [ho] at h
            exact h.elim
          | some hi => exact ok_slice3 hty ho
    case call c =>
      cases hc : c.callee with
      | value f => exact ok_call ho hc
      | invoke a b => exact ok_invoke ho hc
      | builtin b =>
        cases b <;> first
          | exact ok_append hty ho hc
          | exact ok_clear hty ho hc
          | (simp only [quietB, hc] at hq; cases hq; done)
          | (intro ev ρ L σ K Q g w hev hw h
             unfold opR at h
             rw [ho] at h
             simp only [hc] at h
             exact h.elim)
    all_goals
      intro ev ρ L σ K Q g w hev hw h
      unfold opR at h
      rw [ho] at h
      exact h.elim
end Go.Am
