import Derived.Test.YtpemfjnjkjckoaaDoorA
import Derived.Test.YtpemfjnjkjckoaaDoorChecked
import Derived.WalkKit
import Derived.LaidEql
import Derived.Stop.Asserts
import Derived.RowKitTokens
set_option maxRecDepth 100000
set_option linter.unusedVariables false
set_option linter.unusedSimpArgs false
namespace Go.Proofs.YtpemfjnjkjckoaaDoor.As
open Go Go.RowKit Go.Extern.Stop Go.Stop Go.Extern
set_option maxHeartbeats 8000000 in
/-- errors.As of a fault of a fault, into a Code. -/
theorem as_fault2 (b o b2 o2 : Nat) (c : Int) (t : Addr) (old : Value) (w : World) (h0 : w.cell? ⟨b, o + 2, none⟩ = some (.iface 64 (.pointer (some ⟨b2, o2, none⟩)))) (h1 : w.cell? ⟨b2, o2 + 2, none⟩ = some (.iface 39 (.int .i64 c)))
    (hg : w.cell? ⟨0, 0, none⟩ = some (.iface 103 (.agg #[tyH 35]))) (ht0 : w.cell? t = some old) (hf0 : w.frozen? t = false) :
    Calls Tryd.prog 20 #[.iface 64 (.pointer (some ⟨b, o, none⟩)), .iface 57 (.pointer (some t))] w fun ev w' => ev = .returned (.bool true) ∧ w' = (w4 w t c).setCell t (.int .i64 c) := by
  have e6 := @run_callFunc_extern Tryd.prog 31 _ (fun args => ReflectliteValue.unpack (args.getD 0 (.tuple #[]))) Tryd.func31 (by kernel_rfl) (by kernel_rfl) (by kernel_rfl) (by kernel_rfl)
  have e7 := @run_callFunc_extern Tryd.prog 32 _ (ReflectliteValue.methodAny (ReflectliteValue.valueError "reflectlite.Value.Type" 0) (fun t _ _ _ => ReflectliteType.toType t)) Tryd.func32 (by kernel_rfl) (by kernel_rfl) (by kernel_rfl) (by kernel_rfl)
  have e8 := @run_callFunc_extern Tryd.prog 33 _ (ReflectliteValue.method (ReflectliteValue.valueError "reflectlite.Value.IsNil" 0) ReflectliteValue.isNil) Tryd.func33 (by kernel_rfl) (by kernel_rfl) (by kernel_rfl) (by kernel_rfl)
  have e27 := @run_callFunc_extern Tryd.prog 62 _ (ReflectliteType.abiMethod fun t => do pure (.int .u8 (← Rtype.kind t))) Tryd.func62 (by kernel_rfl) (by kernel_rfl) (by kernel_rfl) (by kernel_rfl)
  have e37 := @run_callFunc_extern Tryd.prog 75 _ (ReflectliteType.method ReflectliteType.elem) Tryd.func75 (by kernel_rfl) (by kernel_rfl) (by kernel_rfl) (by kernel_rfl)
  have e38 := @run_callFunc_extern Tryd.prog 76 _ (ReflectliteType.relation "Implements" ReflectliteType.implements_) Tryd.func76 (by kernel_rfl) (by kernel_rfl) (by kernel_rfl) (by kernel_rfl)
  have e10 := @run_callFunc_extern Tryd.prog 43 _ ReflectliteType.typeOf Tryd.func43 (by kernel_rfl) (by kernel_rfl) (by kernel_rfl) (by kernel_rfl)
  have e35 := @run_callFunc_extern Tryd.prog 73 _ (ReflectliteType.relation "AssignableTo" ReflectliteType.assignableTo) Tryd.func73 (by kernel_rfl) (by kernel_rfl) (by kernel_rfl) (by kernel_rfl)
  have e11 := @run_callFunc_extern Tryd.prog 44 _ (ReflectliteValue.method (ReflectliteValue.valueError "reflectlite.Value.Elem" 0) ReflectliteValue.elem) Tryd.func44 (by kernel_rfl) (by kernel_rfl) (by kernel_rfl) (by kernel_rfl)
  have e12 := @run_callFunc_extern Tryd.prog 45 _ ReflectliteValue.set Tryd.func45 (by kernel_rfl) (by kernel_rfl) (by kernel_rfl) (by kernel_rfl)
  have tO := typeOfC
  have tF := typeOfF
  have mA := methodAssignableTo
  have aC := assignableC
  have aF := assignableF
  have vC := valueOfC
  have f6 := valueOfP
  have f7 := typeP
  have mK := methodKind
  have mE := methodElem
  have mI := methodImplements
  have kP := kindP
  have kC := kindC
  have eP := elemP
  have iC := implementsC
  have nA := noAsF
  have uF := hasUnwrapF
  have mU := methodUnwrap
  have n8 := isNilP ⟨w.heap.size, 0, none⟩ t (w2 w t) (by simp)
  have hlt : 0 < w.heap.size := by
    rcases Nat.eq_zero_or_pos w.heap.size with h0 | h
    · simp [World.cell?, h0] at hg
    · exact h
  have hg2 : (w2 w t).cell? ⟨0, 0, none⟩ = some (.iface 103 (.agg #[tyH 35])) := by
    rw [World.cell?_alloc_lt _ _ ⟨0, 0, none⟩ (by simp), World.cell?_alloc_lt _ _ ⟨0, 0, none⟩ hlt]; exact hg
  have htl : t.block < w.heap.size := World.block_lt_of_cell? w t ht0
  have hbl : b < w.heap.size := World.block_lt_of_cell? w ⟨b, o + 2, none⟩ h0
  have hbl2 : b2 < w.heap.size := World.block_lt_of_cell? w ⟨b2, o2 + 2, none⟩ h1
  have hF0 : (w3 w t).cell? ⟨b, o + 2, none⟩ = some (.iface 64 (.pointer (some ⟨b2, o2, none⟩))) := by rw [w3_old w t _ hbl]; exact h0
  have hF3 : (w3 w t).cell? ⟨b2, o2 + 2, none⟩ = some (.iface 39 (.int .i64 c)) := by rw [w3_old w t _ hbl2]; exact h1
  have el := elemVP ⟨w.heap.size, 0, none⟩ t (w3 w t) (by rw [World.cell?_alloc_lt _ _ ⟨w.heap.size, 0, none⟩ (by simp; omega)]; simp)
  have st := setC t ⟨w.heap.size + 1 + 1 + 1, 0, none⟩ c old (w4 w t c)
    (by rw [World.cell?_alloc_at _ _ _ _ (by simp)]; rfl)
    (by rw [World.cell?_alloc_lt _ _ t (by simp; omega), w3_old w t t htl]; exact ht0)
    (by rw [World.frozen?_alloc_old _ _ t (by simp; omega), World.frozen?_alloc_old _ _ t (by simp; omega), World.frozen?_alloc_old _ _ t (by simp; omega), World.frozen?_alloc_old _ _ t (Nat.ne_of_lt htl)]; exact hf0)
  go_enter Tryd.func20, Tryd.ntmps20
  go_wp2
  refine wp_loop_rounds 3 ?_
  rw [rounds_succ]
  go_wp2
  rw [rounds_succ]
  go_wp2
  rw [rounds_succ]
  go_wp2
  go_ret
  exact ⟨rfl, rfl⟩
set_option maxHeartbeats 8000000 in
theorem of_fault2 (b o b2 o2 : Nat) (c : Int) (w : World) (h0 : w.cell? ⟨b, o + 2, none⟩ = some (.iface 64 (.pointer (some ⟨b2, o2, none⟩)))) (h1 : w.cell? ⟨b2, o2 + 2, none⟩ = some (.iface 39 (.int .i64 c)))
    (hg : w.cell? ⟨0, 0, none⟩ = some (.iface 103 (.agg #[tyH 35]))) :
    Calls Tryd.prog 9 #[.iface 64 (.pointer (some ⟨b, o, none⟩))] w fun e w' => e = .returned (.int .i64 c) ∧ Go.Am.Grew w w' := by
  have hlt : 0 < w.heap.size := World.block_lt_of_cell? w ⟨0, 0, none⟩ hg
  have hbl : b < w.heap.size := World.block_lt_of_cell? w ⟨b, o + 2, none⟩ h0
  have hbl2 : b2 < w.heap.size := World.block_lt_of_cell? w ⟨b2, o2 + 2, none⟩ h1
  have hA0 : (w.alloc (.cells #[.int .i64 0] 39)).cell? ⟨b, o + 2, none⟩ = some (.iface 64 (.pointer (some ⟨b2, o2, none⟩))) := by rw [World.cell?_alloc_lt _ _ ⟨b, o + 2, none⟩ hbl]; exact h0
  have hA : (w.alloc (.cells #[.int .i64 0] 39)).cell? ⟨b2, o2 + 2, none⟩ = some (.iface 39 (.int .i64 c)) := by rw [World.cell?_alloc_lt _ _ ⟨b2, o2 + 2, none⟩ hbl2]; exact h1
  have hgA : (w.alloc (.cells #[.int .i64 0] 39)).cell? ⟨0, 0, none⟩ = some (.iface 103 (.agg #[tyH 35])) := by rw [World.cell?_alloc_lt _ _ ⟨0, 0, none⟩ hlt]; exact hg
  have htA : (w.alloc (.cells #[.int .i64 0] 39)).cell? ⟨w.heap.size, 0, none⟩ = some (.int .i64 0) := by simp
  have hfA : (w.alloc (.cells #[.int .i64 0] 39)).frozen? ⟨w.heap.size, 0, none⟩ = false := by simp
  go_enter Tryd.func9, Tryd.ntmps9
  go_wp2_with (go_at_call 20; refine (as_fault2 b o b2 o2 c _ (.int .i64 0) _ hA0 hA hgA htA hfA).mono ?_; rintro e w' ⟨rfl, rfl⟩)
  go_ret
  exact ⟨rfl, ((((Go.Am.Grew.alloc w _).trans (Go.Am.Grew.alloc _ _)).trans (Go.Am.Grew.alloc _ _)).trans (Go.Am.Grew.alloc _ _)).trans (Go.Am.Grew.alloc _ _)⟩
/-! ### in the machine -/
open Go.Am
theorem okOf2 (wh wh2 : ByteArray) (at_ at2 c : Int) : Go.Am.Pure Tryd.prog 9 [.d (.iface 64 (.box [.lit (.string wh), .lit (.int .i64 at_), ftD wh2 at2 c] 0))] (.d (.lit (.int .i64 c))) := by
  refine Pure.of_calls Tryd.func9 rfl rfl fun g w vs hw hv => ?_
  obtain ⟨v1, r, rfl, h1, hr⟩ := hv
  rw [VRL] at hr
  subst hr
  obtain ⟨p, rfl, b, base, rfl, hm⟩ := h1
  obtain ⟨u, hu, hd⟩ := hm.get 2 (by simp)
  obtain ⟨z, rfl, b2, base2, rfl, hm2⟩ := hd
  obtain ⟨u2, hu2, hd2⟩ := hm2.get 2 (by simp)
  obtain ⟨z2, rfl, hz2⟩ := hd2
  obtain rfl := DR.lit hz2
  exact of_fault2 b base b2 base2 c w (hw.fact _ _ hu) (hw.fact _ _ hu2) (hw.fact _ _ (hw.glob _ _ (by first | exact ⟨rfl, rfl⟩ | exact .inl ⟨rfl, rfl⟩)))
end Go.Proofs.YtpemfjnjkjckoaaDoor.As
