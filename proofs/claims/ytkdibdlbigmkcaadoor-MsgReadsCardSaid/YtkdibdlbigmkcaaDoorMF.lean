import Derived.Test.YtkdibdlbigmkcaaDoorMT
import Derived.Test.YtkdibdlbigmkcaaDoorCV0
set_option maxRecDepth 100000
set_option linter.unusedVariables false
set_option linter.unusedSimpArgs false
/- Layer 15: the reference's check and bytes. -/
namespace Go.Proofs.YtkdibdlbigmkcaaDoor.Ms
open Go Go.Am Co
def od12 : Ords := []
theorem code12 : codeB Tryd.f12.ntmps od12 (match Tryd.f12.body with | some c => c | none => .skip) = true := by kernel_rfl
/-- The check, as the reference has it. -/
def checkR (k g y fl p q h vl t : Int) : Int :=
  if g < 1 ∨ g > 40 then 1
  else if (k ≠ 1 ∧ (y = 1 ∨ fl > 0)) ∨ (k ≠ 3 ∧ h ≠ 0) then 11
  else if k = 1 ∧ ((y = 1 ∧ fl > 0) ∨ fl > 16) then 11
  else if k = 1 ∨ k = 2 then (if p ≠ 0 ∨ q ≠ 0 ∨ h ≠ 0 ∨ vl > 0 ∨ t > 0 then 11 else 0)
  else if k < 3 ∨ k > 5 ∨ (k = 5 ∧ (vl > 0 ∨ t > 0)) then 11
  else if p < 0 ∨ p > 31 ∨ q < 1 ∨ q > 1073741824 ∨ h < 0 ∨ h > 65 then 1
  else if vl > 4 then 11 else 0
theorem isMt (s : ByteArray) : (s.toList == mt.toList) = decide ((s.size : Int) < 1) := by
  rw [ByteArray.toList_eq, ByteArray.toList_eq]
  obtain ⟨⟨l⟩⟩ := s
  cases l with
  | nil => rfl
  | cons a r =>
    show (a :: r == []) = decide ((((a :: r).length : Nat) : Int) < 1)
    rw [show (a :: r == []) = false from rfl]
    simp only [List.length_cons]
    symm
    rw [decide_eq_false_iff_not]
    omega
abbrev yI (b : Bool) : Int := if b = true then 1 else 0
theorem checkB_R (m : Mg) : checkB m = checkR m.k m.g.size (yI m.any) m.f.length m.p m.q m.h m.v.length m.t.size := by
  unfold checkB plainB checkR yI
  rw [isMt, isMt]
  generalize (m.g.size : Int) = g
  generalize (m.f.length : Int) = fl
  have hv : (m.v.length : Int) ≥ 0 := by omega
  have ht : (m.t.size : Int) ≥ 0 := by omega
  generalize (m.v.length : Int) = vl at *
  generalize (m.t.size : Int) = t at *
  generalize m.k = k
  generalize m.p = p
  generalize m.q = q
  generalize m.h = h
  simp only [cond_eq_ite, Bool.or_eq_true, Bool.and_eq_true, decide_eq_true_eq, bne_iff_ne, beq_iff_eq, Bool.not_eq_true', decide_eq_false_iff_not, ne_eq]
  cases m.any <;> simp only [Bool.false_eq_true, if_false, if_true, and_true, false_or, false_and, true_and, true_or, reduceCtorEq] <;> omega
theorem retI (b : Int) {a : Int} (h : a = b) : mkRet [.d (nI b)] = .d (nI a) := by subst h; rfl
set_option maxHeartbeats 16000000 in
theorem ok12 (m : Mg) : Go.Am.Pure Tryd.prog 12 [mgG m] (.d (nI (checkB m))) := by
  rw [checkB_R]
  obtain ⟨k, g, any, f, p, q, h, v, t⟩ := m
  refine CallOk.of tysOk mixed od12 Tryd.func12 rfl rfl code12 ?_
  dsimp only
  have K : k = 1 ∨ k = 2 ∨ k = 3 ∨ k = 4 ∨ k = 5 ∨ (k < 1 ∨ k > 5) := by omega
  have y1 : yI true = 1 := rfl
  have y0 : yI false = 0 := rfl
  rcases K with rfl | rfl | rfl | rfl | rfl | K
  all_goals cases any
  all_goals
    repeat' (first
      | refine W.ite_t rfl ?_
      | refine W.ite_f rfl ?_
      | refine W.ite_t (by assumption) ?_
      | refine W.ite_f (by assumption) ?_
      | refine W.ite (fun c => ?_) (fun c => ?_)
      | (refine W.ret ?_; refine RetQ.pure rfl ?_; refine retI _ ?_))
  all_goals
    simp only [decide_eq_true_eq, decide_eq_false_iff_not, bne_iff_ne, beq_iff_eq, ne_eq, bne_eq_false_iff_eq, beq_eq_false_iff_ne] at *
    unfold checkR
    first | rw [y1] | rw [y0]
    omega
end Go.Proofs.YtkdibdlbigmkcaaDoor.Ms
