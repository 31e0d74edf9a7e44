/- The abstract machine 'Am': every operation; regions. -/
import Derived.Test.YtddhlmejaobcgaaAm21
import Derived.OrdersHeld
set_option linter.unusedVariables false
set_option linter.unusedSimpArgs false
namespace Go.Am
open Go
variable {P : Program} {ty : Tys}

/-- Operations that may be taken first. -/
def quietB : Op → Bool
  | .move _ | .assign _ | .pick _ _ _ | .build _ _ | .load _ _ | .nilCheck _ | .binOp _ _ _ _ _ | .unOp _ _ _ | .convert _ _ _ | .makeInterface _ _ | .makeFunc _ _ _ | .slice _ _ _ _ none
  | .fieldAddr _ _ _ | .field _ _ _ | .indexAddr _ _ _ | .index _ _ _ | .extract _ _ => true
  | .call c => match c.callee with
    | .builtin .len | .builtin .max | .builtin .min => true
    | _ => false
  | _ => false

theorem op_quiet (hty : TysOk P ty) (o : Oper) (h : quietB o.op = true) : Quiet P ty o := by
  cases ho : o.op <;> rw [ho] at h
  case move x => exact ok_move (.inl ho)
  case assign x => exact ok_move (.inr ho)
  case pick => exact ok_pick ho
  case build => exact ok_build hty ho
  case load => exact ok_load hty ho
  case nilCheck => exact ok_nilCheck ho
  case binOp => exact ok_binOp hty ho
  case unOp => exact ok_unOp ho
  case convert => exact ok_convert hty ho
  case makeInterface => exact ok_makeInterface hty ho
  case makeFunc => exact ok_makeFunc ho
  case slice t x lo hi mx =>
    cases mx with
    | none => exact ok_slice hty ho
    | some m => cases h
  case fieldAddr => exact ok_fieldAddr hty ho
  case field => exact ok_field hty ho
  case indexAddr => exact ok_indexAddr hty ho
  case index => exact ok_index hty ho
  case extract => exact ok_extract ho
  case call c =>
    cases hc : c.callee with
    | value f => simp [quietB, hc] at h
    | invoke a b => simp [quietB, hc] at h
    | builtin b =>
      cases b <;> simp only [quietB, hc] at h <;> try (cases h; done)
      · exact ok_len hty ho hc
      · exact ok_max ho hc
      · exact ok_min ho hc
  all_goals cases h
theorem op_ok (hty : TysOk P ty) (o : Oper) : OpOk P ty o := by
  cases hq : quietB o.op with
  | true => exact Quiet.ok (op_quiet hty o hq)
  | false =>
    cases ho : o.op <;> rw [ho] at hq <;> try (cases hq; done)
    case alloc => exact ok_alloc hty ho
    case box => exact ok_box ho
    case buildSlice => exact ok_buildSlice hty ho
    case makeSlice => exact ok_makeSlice hty ho
    case store => exact ok_store hty ho
    case makeMap => exact ok_makeMap hty ho
    case range => exact ok_range hty ho
    case next => exact ok_next hty ho
    case lookup => exact ok_lookup hty ho
    case mapUpdate => exact ok_mapUpdate hty ho
    case slice t x lo hi mx =>
      cases mx with
      | none => cases hq
      | some m =>
        cases lo with
        | none =>
          intro ev ρ L σ K Q g w hev hw h
          unfold opR at h
          rw [ho] at h
          exact h.elim
        | some lo =>
          cases hi with
          | none =>
            intro ev ρ L σ K Q g w hev hw h
            unfold opR at h
            rw [ho] at h
            exact h.elim
          | some hi => exact ok_slice3 hty ho
    case call c =>
      cases hc : c.callee with
      | value f => exact ok_call ho hc
      | invoke a b =>
        intro ev ρ L σ K Q g w hev hw h
        unfold opR at h
        rw [ho] at h
        simp only [hc] at h
        exact h.elim
      | builtin b =>
        cases b <;> first
          | exact ok_append hty ho hc
          | exact ok_clear hty ho hc
          | (simp only [quietB, hc] at hq; cases hq; done)
          | (intro ev ρ L σ K Q g w hev hw h
             unfold opR at h
             rw [ho] at h
             simp only [hc] at h
             exact h.elim)
    all_goals
      intro ev ρ L σ K Q g w hev hw h
      unfold opR at h
      rw [ho] at h
      exact h.elim
end Go.Am
