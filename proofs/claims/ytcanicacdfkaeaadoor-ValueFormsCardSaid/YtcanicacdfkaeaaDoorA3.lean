import Derived.Test.YtcanicacdfkaeaaDoorAm24
import Derived.Test.YtcanicacdfkaeaaDoorE
import Derived.Test.YtcanicacdfkaeaaDoorChecked
import Derived.WalkKit
import Derived.LaidEql
import Derived.Stop.Asserts
import Derived.RowKitTokens
set_option maxRecDepth 100000
set_option linter.unusedVariables false
set_option linter.unusedSimpArgs false
namespace Go.Proofs.YtcanicacdfkaeaaDoor.Af
open Go Go.RowKit Go.Extern.Stop Go.Stop Go.Extern
/-! ### closed facts on the entries for reflectlite (after the worked example toyas) -/
abbrev tyH (t : Nat) : Value := .pointer (some ⟨1, t, none⟩)
theorem valueOfP (t : Addr) (w : World) : (ReflectliteValue.unpack (.iface 68 (.pointer (some t)))).run Tryd.prog w
    = .ok (.agg #[tyH 68, .pointer (some ⟨w.heap.size, 0, none⟩), .int .u64 150]) (w.alloc (.cells #[.pointer (some t)] 68)) := by kernel_rfl
theorem typeP (a : Addr) (w : World) : (ReflectliteValue.methodAny (ReflectliteValue.valueError "reflectlite.Value.Type" 0) (fun t _ _ _ => ReflectliteType.toType t) #[.agg #[tyH 68, .pointer (some a), .int .u64 150]]).run Tryd.prog w
    = .ok (.iface 99 (.agg #[tyH 68])) w := by kernel_rfl
theorem methodKind (h : Value) (w : World) : (Go.method 244 99 (.agg #[h]) "Kind").run Tryd.prog w = .ok (67, h) w := by kernel_rfl
theorem kindP (w : World) : ((ReflectliteType.abiMethod fun t => (fun a : Nat => Value.int IntKind.u8 (a : Int)) <$> Rtype.kind t) #[tyH 68]).run Tryd.prog w = .ok (.int .u8 22) w := by kernel_rfl
theorem kindC (w : World) : ((ReflectliteType.abiMethod fun t => (fun a : Nat => Value.int IntKind.u8 (a : Int)) <$> Rtype.kind t) #[tyH 64]).run Tryd.prog w = .ok (.int .u8 22) w := by kernel_rfl
theorem rlm (z : Sem Value) (f : TypeId → Addr → Nat → Nat → Sem Value) (v : Value) :
    ReflectliteValue.method z f #[v] = (do match ← ReflectliteValue.parts v with | none => z | some (t, a, fl) => f t a fl (fl % 32)) := rfl
theorem partsP (a : Addr) (w : World) : (ReflectliteValue.parts (.agg #[tyH 68, .pointer (some a), .int .u64 150])).run Tryd.prog w = .ok (some (68, a, 150)) w := by kernel_rfl
theorem isNilP (a p : Addr) (W : World) (ha : W.cell? a = some (.pointer (some p))) :
    (ReflectliteValue.method (ReflectliteValue.valueError "reflectlite.Value.IsNil" 0) ReflectliteValue.isNil #[.agg #[tyH 68, .pointer (some a), .int .u64 150]]).run Tryd.prog W = .ok (.bool false) W := by
  rw [rlm]
  simp only [Sem.run_bind, partsP, Result.andThen]
  simp [ReflectliteValue.isNil, loadVar, isAgg, underlying, Tryd.underlying68, ha, Result.andThen]
theorem methodElem (h : Value) (w : World) : (Go.method 244 99 (.agg #[h]) "Elem").run Tryd.prog w = .ok (79, .agg #[h]) w := by kernel_rfl
theorem methodImplements (h : Value) (w : World) : (Go.method 244 99 (.agg #[h]) "Implements").run Tryd.prog w = .ok (80, .agg #[h]) w := by kernel_rfl
theorem methodAssignableTo (h : Value) (w : World) : (Go.method 244 99 (.agg #[h]) "AssignableTo").run Tryd.prog w = .ok (77, .agg #[h]) w := by kernel_rfl
theorem elemP (w : World) : (ReflectliteType.method ReflectliteType.elem #[.agg #[tyH 68]]).run Tryd.prog w = .ok (.iface 99 (.agg #[tyH 64])) w := by kernel_rfl
theorem implementsC (w : World) : (ReflectliteType.relation "Implements" ReflectliteType.implements_ #[.agg #[tyH 64], .iface 99 (.agg #[tyH 42])]).run Tryd.prog w = .ok (.bool true) w := by kernel_rfl
theorem typeOfF (v : Value) (w : World) : (ReflectliteType.typeOf #[.iface 64 v]).run Tryd.prog w = .ok (.iface 99 (.agg #[tyH 64])) w := by kernel_rfl
theorem assignableF (w : World) : (ReflectliteType.relation "AssignableTo" ReflectliteType.assignableTo #[.agg #[tyH 64], .iface 99 (.agg #[tyH 64])]).run Tryd.prog w = .ok (.bool true) w := by kernel_rfl
theorem valueOfC (f : Addr) (w : World) : (ReflectliteValue.unpack (.iface 64 (.pointer (some f)))).run Tryd.prog w
    = .ok (.agg #[tyH 64, .pointer (some ⟨w.heap.size, 0, none⟩), .int .u64 150]) (w.alloc (.cells #[.pointer (some f)] 64)) := by kernel_rfl
theorem elemOfP (w : World) : (Rtype.elem? 68).run Tryd.prog w = .ok (some 64) w := by kernel_rfl
theorem mkC (p : Addr) (w : World) : (ReflectliteValue.mk 64 p ReflectliteValue.flagAddr).run Tryd.prog w = .ok (.agg #[tyH 64, .pointer (some p), .int .u64 406]) w := by kernel_rfl
theorem elemVP (a p : Addr) (W : World) (ha : W.cell? a = some (.pointer (some p))) :
    (ReflectliteValue.method (ReflectliteValue.valueError "reflectlite.Value.Elem" 0) ReflectliteValue.elem #[.agg #[tyH 68, .pointer (some a), .int .u64 150]]).run Tryd.prog W
      = .ok (.agg #[tyH 64, .pointer (some p), .int .u64 406]) W := by
  rw [rlm]
  simp only [Sem.run_bind, partsP, Result.andThen]
  simp [ReflectliteValue.elem, loadVar, isAgg, underlying, Tryd.underlying68, ha, Result.andThen, elemOfP, mkC]
theorem rls (v x : Value) : ReflectliteValue.set #[v, x] = (do
    let (some (dst, a, fl), some (src, b, _)) := (← ReflectliteValue.parts v, ← ReflectliteValue.parts x)
      | unsupported (.noEntry "extern/(internal/reflectlite.Value).Set.zeroValue")
    if fl / ReflectliteValue.flagAddr % 2 == 0 then unsupported (.noEntry "extern/(internal/reflectlite.Value).Set.unaddressable")
    let val ← loadVar src b
    if ← Rtype.directlyAssignable dst src then storeVar dst a val
    else if ← Rtype.implements dst src then
      if (← Rtype.kind src) == 20 then
        match val with
        | .nilIface => unsupported (.noEntry "extern/reflectlite: a nil value of one interface type handed on as a value of another")
        | _ => storeVar dst a val
      else storeVar dst a (.iface src val)
    else panicString ("reflectlite.Set: value of type " ++ (← Rtype.spelt src) ++ " is not assignable to type " ++ (← Rtype.spelt dst))
    pure (.tuple #[])) := rfl
theorem partsCa (a : Addr) (w : World) : (ReflectliteValue.parts (.agg #[tyH 64, .pointer (some a), .int .u64 406])).run Tryd.prog w = .ok (some (64, a, 406)) w := by kernel_rfl
theorem partsC (a : Addr) (w : World) : (ReflectliteValue.parts (.agg #[tyH 64, .pointer (some a), .int .u64 150])).run Tryd.prog w = .ok (some (64, a, 150)) w := by kernel_rfl
theorem directC (w : World) : (Rtype.directlyAssignable 64 64).run Tryd.prog w = .ok true w := by kernel_rfl
theorem sizeC (w : World) : (sizeOf 64).run Tryd.prog w = .ok 1 w := by kernel_rfl
theorem setC (ta b f : Addr) (old : Value) (W : World) (hb : W.cell? b = some (.pointer (some f))) (ht : W.cell? ta = some old) (hf : W.frozen? ta = false) :
    (ReflectliteValue.set #[.agg #[tyH 64, .pointer (some ta), .int .u64 406], .agg #[tyH 64, .pointer (some b), .int .u64 150]]).run Tryd.prog W
      = .ok (.tuple #[]) (W.setCell ta (.pointer (some f))) := by
  rw [rls]
  simp only [Sem.run_bind, partsCa, partsC, Result.andThen]
  simp [ReflectliteValue.flagAddr, loadVar, isAgg, underlying, Tryd.underlying64, hb, Result.andThen, directC, storeVar, Value.cells, storeCells, Addr.add]
  rw [run_store Tryd.prog W ta _ _ (by rfl)]
  simp [ht, hf]
theorem noAsF (v : Value) (xT : TypeId) (w : World) : (Instr.typeAssert (.iface 64 v) xT 110 true).run Tryd.prog w = .ok (.tuple #[.nilIface, .bool false]) w := run_typeAssert_lacksB Tryd.underlying110 (by kernel_rfl) (by kernel_rfl) v xT w
theorem hasUnwrapF (v : Value) (xT : TypeId) (w : World) : (Instr.typeAssert (.iface 64 v) xT 104 true).run Tryd.prog w = .ok (.tuple #[.iface 64 v, .bool true]) w := run_typeAssert_hasB Tryd.underlying104 (by kernel_rfl) v xT w
theorem methodUnwrap (v : Value) (w : World) : (Go.method 244 64 v "Unwrap").run Tryd.prog w = .ok (71, v) w := by kernel_rfl
/-- The four new blocks. -/
abbrev w1 (w : World) (t : Addr) : World := w.alloc (.cells #[.pointer (some t)] 68)
abbrev w2 (w : World) (t : Addr) : World := (w1 w t).alloc (.cells #[tyH 68, .pointer (some ⟨w.heap.size, 0, none⟩), .int .u64 150] 88)
abbrev w3 (w : World) (t : Addr) : World := (w2 w t).alloc (.cells #[tyH 68, .pointer (some ⟨w.heap.size, 0, none⟩), .int .u64 150] 88)
abbrev w4 (w : World) (t f : Addr) : World := (w3 w t).alloc (.cells #[.pointer (some f)] 64)
theorem w3_old (w : World) (t a : Addr) (h : a.block < w.heap.size) : (w3 w t).cell? a = w.cell? a := by
  rw [World.cell?_alloc_lt _ _ a (by simp; omega), World.cell?_alloc_lt _ _ a (by simp; omega), World.cell?_alloc_lt _ _ a h]
set_option maxHeartbeats 8000000 in
/-- errors.As of a fault, into a Code. -/
theorem as_faultF (b o : Nat) (t : Addr) (old : Value) (w : World)
    (hg : w.cell? ⟨0, 0, none⟩ = some (.iface 99 (.agg #[tyH 42]))) (ht0 : w.cell? t = some old) (hf0 : w.frozen? t = false) :
    Calls Tryd.prog 25 #[.iface 64 (.pointer (some ⟨b, o, none⟩)), .iface 68 (.pointer (some t))] w fun ev w' => ev = .returned (.bool true) ∧ w' = (w4 w t ⟨b, o, none⟩).setCell t (.pointer (some ⟨b, o, none⟩)) := by
  have e6 := @run_callFunc_extern Tryd.prog 42 _ (fun args => ReflectliteValue.unpack (args.getD 0 (.tuple #[]))) Tryd.func42 (by kernel_rfl) (by kernel_rfl) (by kernel_rfl) (by kernel_rfl)
  have e7 := @run_callFunc_extern Tryd.prog 43 _ (ReflectliteValue.methodAny (ReflectliteValue.valueError "reflectlite.Value.Type" 0) (fun t _ _ _ => ReflectliteType.toType t)) Tryd.func43 (by kernel_rfl) (by kernel_rfl) (by kernel_rfl) (by kernel_rfl)
  have e8 := @run_callFunc_extern Tryd.prog 44 _ (ReflectliteValue.method (ReflectliteValue.valueError "reflectlite.Value.IsNil" 0) ReflectliteValue.isNil) Tryd.func44 (by kernel_rfl) (by kernel_rfl) (by kernel_rfl) (by kernel_rfl)
  have e27 := @run_callFunc_extern Tryd.prog 67 _ (ReflectliteType.abiMethod fun t => do pure (.int .u8 (← Rtype.kind t))) Tryd.func67 (by kernel_rfl) (by kernel_rfl) (by kernel_rfl) (by kernel_rfl)
  have e37 := @run_callFunc_extern Tryd.prog 79 _ (ReflectliteType.method ReflectliteType.elem) Tryd.func79 (by kernel_rfl) (by kernel_rfl) (by kernel_rfl) (by kernel_rfl)
  have e38 := @run_callFunc_extern Tryd.prog 80 _ (ReflectliteType.relation "Implements" ReflectliteType.implements_) Tryd.func80 (by kernel_rfl) (by kernel_rfl) (by kernel_rfl) (by kernel_rfl)
  have e10 := @run_callFunc_extern Tryd.prog 40 _ ReflectliteType.typeOf Tryd.func40 (by kernel_rfl) (by kernel_rfl) (by kernel_rfl) (by kernel_rfl)
  have e35 := @run_callFunc_extern Tryd.prog 77 _ (ReflectliteType.relation "AssignableTo" ReflectliteType.assignableTo) Tryd.func77 (by kernel_rfl) (by kernel_rfl) (by kernel_rfl) (by kernel_rfl)
  have e11 := @run_callFunc_extern Tryd.prog 49 _ (ReflectliteValue.method (ReflectliteValue.valueError "reflectlite.Value.Elem" 0) ReflectliteValue.elem) Tryd.func49 (by kernel_rfl) (by kernel_rfl) (by kernel_rfl) (by kernel_rfl)
  have e12 := @run_callFunc_extern Tryd.prog 50 _ ReflectliteValue.set Tryd.func50 (by kernel_rfl) (by kernel_rfl) (by kernel_rfl) (by kernel_rfl)
  have tF := typeOfF
  have mA := methodAssignableTo
  have aF := assignableF
  have vC := valueOfC
  have f6 := valueOfP
  have f7 := typeP
  have mK := methodKind
  have mE := methodElem
  have mI := methodImplements
  have kP := kindP
  have kC := kindC
  have eP := elemP
  have iC := implementsC
  have n8 := isNilP ⟨w.heap.size, 0, none⟩ t (w2 w t) (by simp)
  have hlt : 0 < w.heap.size := by
    rcases Nat.eq_zero_or_pos w.heap.size with h0 | h
    · simp [World.cell?, h0] at hg
    · exact h
  have hg2 : (w2 w t).cell? ⟨0, 0, none⟩ = some (.iface 99 (.agg #[tyH 42])) := by
    rw [World.cell?_alloc_lt _ _ ⟨0, 0, none⟩ (by simp), World.cell?_alloc_lt _ _ ⟨0, 0, none⟩ hlt]; exact hg
  have htl : t.block < w.heap.size := World.block_lt_of_cell? w t ht0
  have el := elemVP ⟨w.heap.size, 0, none⟩ t (w3 w t) (by rw [World.cell?_alloc_lt _ _ ⟨w.heap.size, 0, none⟩ (by simp; omega)]; simp)
  have st := setC t ⟨w.heap.size + 1 + 1 + 1, 0, none⟩ ⟨b, o, none⟩ old (w4 w t ⟨b, o, none⟩)
    (by rw [World.cell?_alloc_at _ _ _ _ (by simp)]; rfl)
    (by rw [World.cell?_alloc_lt _ _ t (by simp; omega), w3_old w t t htl]; exact ht0)
    (by rw [World.frozen?_alloc_old _ _ t (by simp; omega), World.frozen?_alloc_old _ _ t (by simp; omega), World.frozen?_alloc_old _ _ t (by simp; omega), World.frozen?_alloc_old _ _ t (Nat.ne_of_lt htl)]; exact hf0)
  go_enter Tryd.func25, Tryd.ntmps25
  go_wp2
  refine wp_loop_rounds 1 ?_
  rw [rounds_succ]
  go_wp2
  go_ret
  exact ⟨rfl, rfl⟩
/-! ### where a fault lies -/
set_option maxHeartbeats 8000000 in
theorem at_nil (w : World) : Calls Tryd.prog 9 #[.nilIface] w fun e w' => e = .returned (.int .i64 (-1)) ∧ Go.Am.Grew w w' := by
  go_enter Tryd.func9, Tryd.ntmps9
  go_wp2
  go_ret
  exact ⟨rfl, Go.Am.Grew.alloc w _⟩
set_option maxHeartbeats 8000000 in
theorem at_fault (b o : Nat) (i : Int) (w : World) (h1 : w.cell? ⟨b, o + 2, none⟩ = some (.iface 66 (.int .i64 3))) (h2 : w.cell? ⟨b, o + 1, none⟩ = some (.int .i64 i))
    (hg : w.cell? ⟨0, 0, none⟩ = some (.iface 99 (.agg #[tyH 42]))) :
    Calls Tryd.prog 9 #[.iface 64 (.pointer (some ⟨b, o, none⟩))] w fun e w' => e = .returned (.int .i64 i) ∧ Go.Am.Grew w w' := by
  have hlt : 0 < w.heap.size := World.block_lt_of_cell? w ⟨0, 0, none⟩ hg
  have hbl : b < w.heap.size := World.block_lt_of_cell? w ⟨b, o + 2, none⟩ h1
  have hA : (w.alloc (.cells #[.pointer none] 64)).cell? ⟨b, o + 2, none⟩ = some (.iface 66 (.int .i64 3)) := by rw [World.cell?_alloc_lt _ _ ⟨b, o + 2, none⟩ hbl]; exact h1
  have hgA : (w.alloc (.cells #[.pointer none] 64)).cell? ⟨0, 0, none⟩ = some (.iface 99 (.agg #[tyH 42])) := by rw [World.cell?_alloc_lt _ _ ⟨0, 0, none⟩ hlt]; exact hg
  have htA : (w.alloc (.cells #[.pointer none] 64)).cell? ⟨w.heap.size, 0, none⟩ = some (.pointer none) := by simp
  have hfA : (w.alloc (.cells #[.pointer none] 64)).frozen? ⟨w.heap.size, 0, none⟩ = false := by simp
  have hall : Go.Am.Grew w (((((w.alloc (.cells #[.pointer (some ⟨b, o, none⟩)] 64)).alloc (.cells #[.pointer (some ⟨w.heap.size, 0, none⟩)] 68)).alloc (.cells #[tyH 68, .pointer (some ⟨w.heap.size + 1, 0, none⟩), .int .u64 150] 88)).alloc (.cells #[tyH 68, .pointer (some ⟨w.heap.size + 1, 0, none⟩), .int .u64 150] 88)).alloc (.cells #[.pointer (some ⟨b, o, none⟩)] 64)) := ((((Go.Am.Grew.alloc w _).trans (Go.Am.Grew.alloc _ _)).trans (Go.Am.Grew.alloc _ _)).trans (Go.Am.Grew.alloc _ _)).trans (Go.Am.Grew.alloc _ _)
  have hi := hall.cell h2
  go_enter Tryd.func9, Tryd.ntmps9
  go_wp2_with (first
    | (go_at_call 24; refine (Er.is_fault b o 3 3 _ hA).mono ?_; rintro e w' ⟨rfl, rfl⟩)
    | (go_at_call 25; refine (as_faultF b o _ (.pointer none) _ hgA htA hfA).mono ?_; rintro e w' ⟨rfl, rfl⟩))
  go_ret
  exact ⟨rfl, by first | exact hall | (refine Go.Am.Grew.trans hall ?_; exact Go.Am.Grew.refl _)⟩
end Go.Proofs.YtcanicacdfkaeaaDoor.Af
