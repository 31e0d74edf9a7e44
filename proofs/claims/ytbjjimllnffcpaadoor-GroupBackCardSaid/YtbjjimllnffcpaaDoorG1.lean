import Derived.Test.YtbjjimllnffcpaaDoorGJ
import Derived.Test.YtbjjimllnffcpaaDoorDD
set_option maxRecDepth 100000
set_option linter.unusedVariables false
set_option linter.unusedSimpArgs false
/- Package group: names, faults, what is checked; two lists of texts. -/
namespace Go.Proofs.YtbjjimllnffcpaaDoor.Gr
open Go Go.Am Va
def od40 : Ords := []
theorem code40 : codeB Tryd.f40.ntmps od40 (match Tryd.f40.body with | some c => c | none => .skip) = true := by kernel_rfl
def od28 : Ords := []
theorem code28 : codeB Tryd.f28.ntmps od28 (match Tryd.f28.body with | some c => c | none => .skip) = true := by kernel_rfl
def od11 : Ords := [(1, [0, 1, 2, 3, 7, 8, 4, 5, 6, 1009, 10, 11])]
theorem code11 : codeB Tryd.f11.ntmps od11 (match Tryd.f11.body with | some c => c | none => .skip) = true := by kernel_rfl
def od25 : Ords := [(6, [0, 1, 2, 3, 4, 5, 6, 7, 8])]
theorem code25 : codeB Tryd.f25.ntmps od25 (match Tryd.f25.body with | some c => c | none => .skip) = true := by kernel_rfl
theorem beq_int {a b : Int} : (a == b) = decide (a = b) := by
  by_cases h : a = b
  · rw [h]; simp
  · rw [decide_eq_false h]; simpa using h
def sC (s : ByteArray) : List D := [sD s]
theorem sC_len (s : ByteArray) : (sC s).length = 1 := rfl
theorem sC_one (s : ByteArray) : ∀ d ∈ sC s, d.one = true := fun d h => by
  obtain rfl := List.mem_singleton.1 h; rfl
theorem sE {l : List ByteArray} {i : Nat} {s : ByteArray} (h : l[i]? = some s) : Elem (flat sC l) [.str] (i * 1) 1 [sD s] := Elem.all sC_len h _ rfl ⟨rfl, True.intro⟩ rfl
theorem sl_len (l : List ByteArray) : (flat sC l).length = l.length := by rw [flat_length sC_len]; simp
abbrev slS (l : List ByteArray) : AV := slF sC l
abbrev gfaultE (c : Int) : D := .iface 100 (.box [sD (txt [103, 114, 111, 117, 112]), nI 0, .iface 91 (nI c)] 0)
theorem ok40 (c : Int) : Go.Am.Pure Tryd.prog 40 [.d (nI c)] (.d (gfaultE c)) := by
  refine CallOk.of tysOk mixed od40 Tryd.func40 rfl rfl code40 ?_
  exact W.ret (RetQ.pure rfl rfl)
/-- What is wrong: nothing; the levels; a place of a schema, a filter, an event. -/
inductive GE where
  | ok | arg | val (i : Nat)
  deriving DecidableEq
def geD : GE → D
  | .ok => .lit .nilIface
  | .arg => gfaultE 1
  | .val i => faultE i 3
def ofO : Option Nat → GE
  | none => .ok
  | some i => .val i
theorem geD_ofO (o : Option Nat) : geD (ofO o) = errV o := by cases o <;> rfl
def checkE (s : List Att) (n : Int) : GE := if n < 0 ∨ n > 8 then .arg else ofO (chkErr s)
theorem ok28 (s : List Att) (n : Int) : Go.Am.Pure Tryd.prog 28 [slF atC s, .d (nI n)] (.d (geD (checkE s n))) := by
  refine CallOk.of tysOk mixed od28 Tryd.func28 rfl rfl code28 ?_
  by_cases h0 : n < 0
  · have c0 : decide (n < 0) = true := decide_eq_true h0
    repeat (first | refine W.ite_t rfl ?_ | refine W.ite_f rfl ?_ | refine W.ite_t c0 ?_)
    refine W.pure (ok40 1) rfl rfl (W.ret (RetQ.pure rfl ?_))
    rw [checkE, if_pos (.inl h0)]
    rfl
  · have c0 : decide (n < 0) = false := decide_eq_false h0
    by_cases h8 : n > 8
    · have c8 : decide (n > 8) = true := decide_eq_true h8
      repeat (first | refine W.ite_t rfl ?_ | refine W.ite_f rfl ?_ | refine W.ite_f c0 ?_ | refine W.ite_t c8 ?_)
      refine W.pure (ok40 1) rfl rfl (W.ret (RetQ.pure rfl ?_))
      rw [checkE, if_pos (.inr h8)]
      rfl
    · have c8 : decide (n > 8) = false := decide_eq_false h8
      repeat (first | refine W.ite_t rfl ?_ | refine W.ite_f rfl ?_ | refine W.ite_f c0 ?_ | refine W.ite_f c8 ?_)
      refine W.pure (ok44 s) rfl rfl ?_
      rw [← geD_ofO]
      have e : checkE s n = ofO (chkErr s) := by rw [checkE, if_neg (by omega)]
      rw [e]
      cases chkErr s <;> exact W.ret (RetQ.pure rfl rfl)
def dotS : ByteArray := txt [46]
/-- A group's name. -/
def nameS (a : ByteArray) (l i : Nat) : ByteArray := a ++ dotS ++ numS l ++ dotS ++ numS i
theorem numS_size (n : Nat) : (numS n).size ≤ 3 := by
  unfold numS
  split
  · show 1 ≤ 3; decide
  · split
    · show 2 ≤ 3; decide
    · show 3 ≤ 3; decide
theorem ok11 (a : ByteArray) (l i : Nat) (ha : a.size ≤ 1000) (hl : l < 1000) (hi : i < 1000) : Go.Am.Pure Tryd.prog 11 [.d (sD a), Dy.iv l i] (.d (sD (nameS a l i))) := by
  refine CallOk.of tysOk mixed od11 Tryd.func11 rfl rfl code11 ?_
  have s1 := numS_size l
  have s2 := numS_size i
  have e1 : (a ++ dotS).size = a.size + 1 := by rw [ByteArray.size_append]; rfl
  have e2 : (a ++ dotS ++ numS l).size = a.size + 1 + (numS l).size := by rw [ByteArray.size_append, e1]
  have e3 : (a ++ dotS ++ numS l ++ dotS).size = a.size + 1 + (numS l).size + 1 := by rw [ByteArray.size_append, e2]; rfl
  refine W.need (by show ((a.size + 1 : Nat) : Int) ≤ 9223372036854775807; omega) ?_
  refine W.pure (ok26 l hl) rfl rfl ?_
  refine W.need (by show (((a ++ dotS).size + (numS l).size : Nat) : Int) ≤ 9223372036854775807; rw [e1]; omega) ?_
  refine W.need (by show (((a ++ dotS ++ numS l).size + 1 : Nat) : Int) ≤ 9223372036854775807; rw [e2]; omega) ?_
  refine W.pure (ok26 i hi) rfl rfl ?_
  refine W.need (by show (((a ++ dotS ++ numS l ++ dotS).size + (numS i).size : Nat) : Int) ≤ 9223372036854775807; rw [e3]; omega) ?_
  exact W.ret (RetQ.pure rfl rfl)
/-- Two lists of texts. -/
def eqL : List ByteArray → List ByteArray → Bool
  | [], [] => true
  | a :: r, b :: s => sEq a b && eqL r s
  | _, _ => false
theorem eqL_len : ∀ {X Y : List ByteArray}, X.length ≠ Y.length → eqL X Y = false
  | [], [], h => absurd rfl h
  | [], _ :: _, _ => rfl
  | _ :: _, [], _ => rfl
  | a :: r, b :: s, h => by
    simp only [eqL, eqL_len (X := r) (Y := s) (by simpa using h), Bool.and_false]
theorem ok25 (X Y : List ByteArray) (hX : X.length ≤ 1000000) (hY : Y.length ≤ 1000000) : Go.Am.Pure Tryd.prog 25 [slS X, slS Y] (bI (eqL X Y)) := by
  refine CallOk.of tysOk mixed od25 Tryd.func25 rfl rfl code25 ?_
  refine W.ite (fun c => ?_) (fun c => ?_)
  · have hne : X.length ≠ Y.length := fun e => by rw [e] at c; simp at c
    exact W.ret (RetQ.pure rfl (ret_bI (eqL_len hne).symm))
  have he : X.length = Y.length := by
    have : ((X.length : Int) != Y.length) = false := c
    have := bne_eq_false_iff_eq.1 this
    omega
  refine W.loop (fun k fr σ => ∃ i : Nat, fr = [(0, slS X), (1, slS Y), (12, .d (nI X.length)), (13, .d (nI i))] ∧ σ = [] ∧ i ≤ X.length ∧ eqL (X.drop i) (Y.drop i) = eqL X Y ∧ k = X.length - i) X.length
    (Start.of [0, 1, 12, 13] [] (by simp)) ⟨0, rfl, rfl, by omega, rfl, rfl⟩ ?_
  rintro k fr σ ⟨i, rfl, rfl, hi, heq, rfl⟩
  refine W.ite (fun c1 => ?_) (fun c1 => ?_)
  · have hil : i < X.length := by have := of_decide_eq_true c1; omega
    obtain ⟨x, hx⟩ : ∃ x, X[i]? = some x := ⟨_, List.getElem?_eq_getElem hil⟩
    obtain ⟨y, hy⟩ : ∃ x, Y[i]? = some x := ⟨_, List.getElem?_eq_getElem (by omega)⟩
    refine W.need (ix_ok sC_len (by decide) hil) ?_
    refine W.ld (sE hx) ?_
    refine W.need (ix_ok sC_len (by decide) (by omega)) ?_
    refine W.ld (sE hy) ?_
    rw [drop_cons hx, drop_cons hy] at heq
    refine W.ite (fun c2 => ?_) (fun c2 => ?_)
    · have hne : sEq x y = false := by
        have : (!(x.toList == y.toList)) = true := c2
        simpa [sEq] using this
      refine W.ret (W.ret (RetQ.pure rfl (ret_bI ?_)))
      rw [← heq, eqL, hne]
      rfl
    · have hee : sEq x y = true := by
        have : (!(x.toList == y.toList)) = false := c2
        simpa [sEq] using this
      have g1 : IntKind.i64.wrap ((i : Int) + 1) = ((i + 1 : Nat) : Int) := by rw [wrap64 (by omega) (by omega)]; rfl
      refine W.ret ⟨_, _, _, ?_, Trim.of [0, 1, 12, 13] [] (by decide) (by simp) (by simp), i + 1, ?_, rfl, by omega, ?_, rfl⟩
      · omega
      · rw [← g1]; rfl
      · rw [← heq, eqL, hee]
        rfl
  · have hil : i = X.length := by have := of_decide_eq_false c1; omega
    refine W.ret (W.ret (RetQ.pure rfl (ret_bI ?_)))
    rw [← heq, List.drop_of_length_le (by omega), List.drop_of_length_le (by omega)]
    rfl
end Go.Proofs.YtbjjimllnffcpaaDoor.Gr
