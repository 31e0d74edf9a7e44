import Derived.Test.YtbjjimllnffcpaaGreatDoorAm22
import Derived.Test.YtbjjimllnffcpaaGreatDoorChecked
import Derived.WalkKit
import Derived.LaidEql
import Derived.Stop.Asserts
import Derived.RowKitTokens
import Derived.Lib.IfaceEq
set_option maxRecDepth 100000
set_option linter.unusedVariables false
set_option linter.unusedSimpArgs false
namespace Go.Proofs.YtbjjimllnffcpaaGreatDoor.Er
open Go Go.RowKit Go.Extern.Stop Go.Stop Go.Extern Go.Lib
/-! ### closed facts -/
theorem isTypeOf (v : Value) (w : World) : (Extern.ReflectliteType.typeOf #[.iface 52 v]).run Tryz.prog w = .ok (.iface 144 (.agg #[.pointer (some ⟨9, 52, none⟩)])) w := by kernel_rfl
theorem isComparable (w : World) : ((Extern.ReflectliteType.method fun t => do Extern.Rtype.noPackHeld "Comparable" t; (fun a => Value.bool a.comparable) <$> typeInfo t) #[.agg #[.pointer (some ⟨9, 52, none⟩)]]).run Tryz.prog w = .ok (.bool true) w := by kernel_rfl
theorem isMethodComparable (v : Value) (w : World) : (Go.method 333 144 v "Comparable").run Tryz.prog w = .ok (149, v) w := by kernel_rfl
theorem isComp : (Tryz.prog.info? 52).map (·.comparable) = some true := by kernel_rfl
theorem noIsC (v : Value) (xT : TypeId) (w : World) : (Instr.typeAssert (.iface 52 v) xT 146 true).run Tryz.prog w = .ok (.tuple #[.nilIface, .bool false]) w := run_typeAssert_lacksB Tryz.underlying146 (by kernel_rfl) (by kernel_rfl) v xT w
theorem noUnwrapC (v : Value) (xT : TypeId) (w : World) : (Instr.typeAssert (.iface 52 v) xT 149 true).run Tryz.prog w = .ok (.tuple #[.nilIface, .bool false]) w := run_typeAssert_lacksB Tryz.underlying149 (by kernel_rfl) (by kernel_rfl) v xT w
theorem noUnwrapsC (v : Value) (xT : TypeId) (w : World) : (Instr.typeAssert (.iface 52 v) xT 150 true).run Tryz.prog w = .ok (.tuple #[.nilIface, .bool false]) w := run_typeAssert_lacksB Tryz.underlying150 (by kernel_rfl) (by kernel_rfl) v xT w
theorem noIsF (v : Value) (xT : TypeId) (w : World) : (Instr.typeAssert (.iface 138 v) xT 146 true).run Tryz.prog w = .ok (.tuple #[.nilIface, .bool false]) w := run_typeAssert_lacksB Tryz.underlying146 (by kernel_rfl) (by kernel_rfl) v xT w
theorem hasUnwrapF (v : Value) (xT : TypeId) (w : World) : (Instr.typeAssert (.iface 138 v) xT 149 true).run Tryz.prog w = .ok (.tuple #[.iface 138 v, .bool true]) w := run_typeAssert_hasB Tryz.underlying149 (by kernel_rfl) v xT w
theorem methodUnwrap (v : Value) (w : World) : (Go.method 333 138 v "Unwrap").run Tryz.prog w = .ok (146, v) w := by kernel_rfl
set_option maxHeartbeats 4000000 in
/-- errors.Is of a fault and a code: is it the fault's? -/
theorem is_fault (b o : Nat) (c k : Int) (w : World) (h1 : w.cell? ⟨b, o + 2, none⟩ = some (.iface 52 (.int .i64 c))) :
    Calls Tryz.prog 24 #[.iface 138 (.pointer (some ⟨b, o, none⟩)), .iface 52 (.int .i64 k)] w fun e w' => e = .returned (.bool (c == k)) ∧ w' = w := by
  have h8 := @run_callFunc_extern Tryz.prog 53 _ Extern.ReflectliteType.typeOf Tryz.func53 (by kernel_rfl) (by kernel_rfl) (by kernel_rfl) (by kernel_rfl)
  have h32 := @run_callFunc_extern Tryz.prog 149 _ (Extern.ReflectliteType.method fun t => do Extern.Rtype.noPackHeld "Comparable" t; pure (.bool (← typeInfo t).comparable)) Tryz.func149 (by kernel_rfl) (by kernel_rfl) (by kernel_rfl) (by kernel_rfl)
  have tT := isTypeOf
  have cT := isComparable
  have mR := isMethodComparable
  have nC := noIsC
  have uC := noUnwrapC
  have vC := noUnwrapsC
  have nF := noIsF
  have uF := hasUnwrapF
  have mU := methodUnwrap
  have heq := run_eql_iface_int (P := Tryz.prog) w (k := .i64) c k Tryz.underlying39 isComp Tryz.underlying52
  have hty := run_eql_iface_types (P := Tryz.prog) 138 52 (.pointer (some ⟨b, o, none⟩)) (.int .i64 k) Tryz.underlying39 (by decide) w
  cases hb : c == k with
  | true =>
    rw [hb] at heq
    go_enter Tryz.func24, Tryz.ntmps24
    go_wp2
    refine wp_loop_rounds 2 ?_
    rw [rounds_succ]
    go_wp2
    rw [rounds_succ]
    go_wp2
    go_ret
    exact ⟨rfl, rfl⟩
  | false =>
    rw [hb] at heq
    go_enter Tryz.func24, Tryz.ntmps24
    go_wp2
    refine wp_loop_rounds 2 ?_
    rw [rounds_succ]
    go_wp2
    rw [rounds_succ]
    go_wp2
    go_ret
    exact ⟨rfl, rfl⟩
/-- errors.Is of no error. -/
theorem is_nil (k : Int) (w : World) :
    Calls Tryz.prog 24 #[.nilIface, .iface 52 (.int .i64 k)] w fun e w' => e = .returned (.bool false) ∧ w' = w := by
  have hn := run_eql_iface_nil_left (P := Tryz.prog) w 52 (.int .i64 k) Tryz.underlying39
  go_enter Tryz.func24, Tryz.ntmps24
  go_wp2
  go_ret
  exact ⟨rfl, rfl⟩
/-! ### in the machine -/
open Go.Am
theorem callOk_of {f : FuncId} {fn : Func} {c : Go.Code} (hf : Tryz.prog.funcs[f]? = some fn) (hb : fn.body = some c) (hn : (fn.name == "runtime.NumGoroutine") = false) {args : List AV} {b : Bool}
    (h : ∀ (g : Gh) (w : World) (vs : List Value), WR g [] w → VRL [] g args vs → Calls Tryz.prog f vs.toArray w fun e w' => e = .returned (.bool b) ∧ w' = w) : Go.Am.Pure Tryz.prog f args (.d (.lit (.bool b))) := by
  intro g w vs hw hv
  have hn' : ¬ fn.name = "runtime.NumGoroutine" := by simpa using hn
  have hrun : (callFunc f vs.toArray).run Tryz.prog w = .ok (.enter f vs.toArray) w := by
    simp [callFunc, program, Sem.run, hf, hb, hn']
  unfold NextSem
  rw [hrun]
  refine Calls.mono (h g w vs hw hv) fun e w' ⟨h1, h2⟩ => ?_
  subst h2
  exact ⟨_, h1, g, [], _, vr_lit _, hw, Step.refl g [] w', rfl, rfl⟩
/-- A fault, a code. -/
abbrev ftD (wh : ByteArray) (at_ c : Int) : D := .iface 138 (.box [.lit (.string wh), .lit (.int .i64 at_), .iface 52 (.lit (.int .i64 c))] 0)
abbrev cdD (k : Int) : D := .iface 52 (.lit (.int .i64 k))
theorem okIs (wh : ByteArray) (at_ c k : Int) : Go.Am.Pure Tryz.prog 24 [.d (ftD wh at_ c), .d (cdD k)] (.d (.lit (.bool (c == k)))) := by
  refine callOk_of Tryz.func24 rfl rfl fun g w vs hw hv => ?_
  obtain ⟨v1, r, rfl, h1, v2, r2, rfl, h2, hr⟩ := hv
  rw [VRL] at hr
  subst hr
  obtain ⟨p, rfl, b, base, rfl, hm⟩ := h1
  obtain ⟨q, rfl, hq⟩ := h2
  obtain rfl := DR.lit hq
  obtain ⟨u, hu, hd⟩ := hm.get 2 (by simp)
  obtain ⟨z, rfl, hz⟩ := hd
  obtain rfl := DR.lit hz
  exact is_fault b base c k w (hw.fact _ _ hu)
theorem okIsNil (k : Int) : Go.Am.Pure Tryz.prog 24 [.d (.lit .nilIface), .d (cdD k)] (.d (.lit (.bool false))) := by
  refine callOk_of Tryz.func24 rfl rfl fun g w vs hw hv => ?_
  obtain ⟨v1, r, rfl, h1, v2, r2, rfl, h2, hr⟩ := hv
  rw [VRL] at hr
  subst hr
  obtain rfl := VR.lit h1
  obtain ⟨q, rfl, hq⟩ := h2
  obtain rfl := DR.lit hq
  exact is_nil k w
end Go.Proofs.YtbjjimllnffcpaaGreatDoor.Er
