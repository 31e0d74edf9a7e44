import Derived.Test.YtddhlmejaobcgaaDoorGJ
import Derived.Test.YtddhlmejaobcgaaDoorD26
import Derived.Test.YtddhlmejaobcgaaDoorD8
set_option maxRecDepth 100000
set_option linter.unusedVariables false
set_option linter.unusedSimpArgs false
/- Package group: names, faults, what is checked; two lists of texts. -/
namespace Go.Proofs.YtddhlmejaobcgaaDoor.Gr
open Go Go.Am Va
def od46 : Ords := []
theorem code46 : codeB Tryd.f46.ntmps od46 (match Tryd.f46.body with | some c => c | none => .skip) = true := by kernel_rfl
def od24 : Ords := []
theorem code24 : codeB Tryd.f24.ntmps od24 (match Tryd.f24.body with | some c => c | none => .skip) = true := by kernel_rfl
def od26 : Ords := [(1, [0, 1, 2, 3, 7, 8, 4, 5, 6, 9, 10, 11])]
theorem code26 : codeB Tryd.f26.ntmps od26 (match Tryd.f26.body with | some c => c | none => .skip) = true := by kernel_rfl
theorem beq_int {a b : Int} : (a == b) = decide (a = b) := by
  by_cases h : a = b
  · rw [h]; simp
  · rw [decide_eq_false h]; simpa using h
def sC (s : ByteArray) : List D := [sD s]
theorem sC_len (s : ByteArray) : (sC s).length = 1 := rfl
theorem sC_one (s : ByteArray) : ∀ d ∈ sC s, d.one = true := fun d h => by
  obtain rfl := List.mem_singleton.1 h; rfl
theorem sE {l : List ByteArray} {i : Nat} {s : ByteArray} (h : l[i]? = some s) : Elem (flat sC l) [.str] (i * 1) 1 [sD s] := Elem.all sC_len h _ rfl ⟨rfl, True.intro⟩ rfl
theorem sl_len (l : List ByteArray) : (flat sC l).length = l.length := by rw [flat_length sC_len]; simp
abbrev slS (l : List ByteArray) : AV := slF sC l
abbrev gfaultE (c : Int) : D := .iface 81 (.box [sD (txt [103, 114, 111, 117, 112]), nI 0, .iface 82 (nI c)] 0)
theorem ok46 (c : Int) : Go.Am.Pure Tryd.prog 46 [.d (nI c)] (.d (gfaultE c)) := by
  refine CallOk.of tysOk mixed od46 Tryd.func46 rfl rfl code46 ?_
  exact W.ret (RetQ.pure rfl rfl)
/-- What is wrong: nothing; the levels; a place of a schema, a filter, an event. -/
inductive GE where
  | ok | arg | val (i : Nat)
  deriving DecidableEq
def geD : GE → D
  | .ok => .lit .nilIface
  | .arg => gfaultE 1
  | .val i => faultE i 3
def ofO : Option Nat → GE
  | none => .ok
  | some i => .val i
theorem geD_ofO (o : Option Nat) : geD (ofO o) = errV o := by cases o <;> rfl
def checkE (s : List Att) (n : Int) : GE := if n < 0 ∨ n > 8 then .arg else ofO (chkErr s)
theorem ok24 (s : List Att) (n : Int) : Go.Am.Pure Tryd.prog 24 [slF atC s, .d (nI n)] (.d (geD (checkE s n))) := by
  refine CallOk.of tysOk mixed od24 Tryd.func24 rfl rfl code24 ?_
  by_cases h0 : n < 0
  · have c0 : decide (n < 0) = true := decide_eq_true h0
    repeat (first | refine W.ite_t rfl ?_ | refine W.ite_f rfl ?_ | refine W.ite_t c0 ?_)
    refine W.pure (ok46 1) rfl rfl (W.ret (RetQ.pure rfl ?_))
    rw [checkE, if_pos (.inl h0)]
    rfl
  · have c0 : decide (n < 0) = false := decide_eq_false h0
    by_cases h8 : n > 8
    · have c8 : decide (n > 8) = true := decide_eq_true h8
      repeat (first | refine W.ite_t rfl ?_ | refine W.ite_f rfl ?_ | refine W.ite_f c0 ?_ | refine W.ite_t c8 ?_)
      refine W.pure (ok46 1) rfl rfl (W.ret (RetQ.pure rfl ?_))
      rw [checkE, if_pos (.inr h8)]
      rfl
    · have c8 : decide (n > 8) = false := decide_eq_false h8
      repeat (first | refine W.ite_t rfl ?_ | refine W.ite_f rfl ?_ | refine W.ite_f c0 ?_ | refine W.ite_f c8 ?_)
      refine W.pure (ok16 s) rfl rfl ?_
      rw [← geD_ofO]
      have e : checkE s n = ofO (chkErr s) := by rw [checkE, if_neg (by omega)]
      rw [e]
      cases chkErr s <;> exact W.ret (RetQ.pure rfl rfl)
def dotS : ByteArray := txt [46]
/-- A group's name. -/
def nameS (a : ByteArray) (l i : Nat) : ByteArray := a ++ dotS ++ numS l ++ dotS ++ numS i
theorem numS_size (n : Nat) : (numS n).size ≤ 3 := by
  unfold numS
  split
  · show 1 ≤ 3; decide
  · split
    · show 2 ≤ 3; decide
    · show 3 ≤ 3; decide
theorem ok26 (a : ByteArray) (l i : Nat) (ha : a.size ≤ 1000) (hl : l < 1000) (hi : i < 1000) : Go.Am.Pure Tryd.prog 26 [.d (sD a), Dy.iv l i] (.d (sD (nameS a l i))) := by
  refine CallOk.of tysOk mixed od26 Tryd.func26 rfl rfl code26 ?_
  have s1 := numS_size l
  have s2 := numS_size i
  have e1 : (a ++ dotS).size = a.size + 1 := by rw [ByteArray.size_append]; rfl
  have e2 : (a ++ dotS ++ numS l).size = a.size + 1 + (numS l).size := by rw [ByteArray.size_append, e1]
  have e3 : (a ++ dotS ++ numS l ++ dotS).size = a.size + 1 + (numS l).size + 1 := by rw [ByteArray.size_append, e2]; rfl
  refine W.need (by show ((a.size + 1 : Nat) : Int) ≤ 9223372036854775807; omega) ?_
  refine W.pure (ok40 l hl) rfl rfl ?_
  refine W.need (by show (((a ++ dotS).size + (numS l).size : Nat) : Int) ≤ 9223372036854775807; rw [e1]; omega) ?_
  refine W.need (by show (((a ++ dotS ++ numS l).size + 1 : Nat) : Int) ≤ 9223372036854775807; rw [e2]; omega) ?_
  refine W.pure (ok40 i hi) rfl rfl ?_
  refine W.need (by show (((a ++ dotS ++ numS l ++ dotS).size + (numS i).size : Nat) : Int) ≤ 9223372036854775807; rw [e3]; omega) ?_
  exact W.ret (RetQ.pure rfl rfl)
/-- Two lists of texts. -/
def eqL : List ByteArray → List ByteArray → Bool
  | [], [] => true
  | a :: r, b :: s => sEq a b && eqL r s
  | _, _ => false
theorem eqL_len : ∀ {X Y : List ByteArray}, X.length ≠ Y.length → eqL X Y = false
  | [], [], h => absurd rfl h
  | [], _ :: _, _ => rfl
  | _ :: _, [], _ => rfl
  | a :: r, b :: s, h => by
    simp only [eqL, eqL_len (X := r) (Y := s) (by simpa using h), Bool.and_false]
end Go.Proofs.YtddhlmejaobcgaaDoor.Gr
