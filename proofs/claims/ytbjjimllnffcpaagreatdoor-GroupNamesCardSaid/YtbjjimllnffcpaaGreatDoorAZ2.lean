import Derived.Test.YtbjjimllnffcpaaGreatDoorAZ
import Derived.Test.YtbjjimllnffcpaaGreatDoorHK
import Derived.Lib.AtoiErrMem
set_option maxRecDepth 100000
set_option linter.unusedVariables false
set_option linter.unusedSimpArgs false
/- strconv.Atoi of every text, by its contract. -/
namespace Go.Proofs.YtbjjimllnffcpaaGreatDoor.Gr
open Go Go.Am Va
theorem Grew.ofBelow {w w' : World} (h : Go.RowKit.Below w.heap.size w w') : Grew w w' := ⟨h.size, fun b hb => h.block b hb, h.os, h.tape, h.output⟩
def atV (l : List UInt8) : Int := match Lib.atoiAll l with
  | .ok v => v
  | .syntax => 0
  | .range => Lib.atoiSat l
def atE (l : List UInt8) : D := match Lib.atoiAll l with
  | .ok _ => .lit .nilIface
  | _ => .iface 166 (.box [] 0)
theorem sent_cell {g : Gh} {σ : Store} {w : World} (hw : WR g σ w) (a : Addr) (ha : glS a) : ∃ v, w.cell? a = some v ∧ (v = .nilIface ∨ ∃ t x, v = .iface t x) :=
  (hw.glob.2 a ha).imp fun v k => ⟨hw.fact a v k.1, k.2⟩
theorem vr_err {g : Gh} (v : Int) (n : Nat) : VR [] g (.tuple [.d (nI v), .d (.iface 166 (.box [] 0))]) (.tuple #[.int .i64 v, .iface 166 (.pointer (some ⟨n, 0, none⟩))]) :=
  ⟨[.int .i64 v, .iface 166 (.pointer (some ⟨n, 0, none⟩))], rfl, _, _, rfl, vr_lit _, _, _, rfl, ⟨_, rfl, n, 0, rfl, True.intro⟩, rfl⟩
theorem ok45a (s : ByteArray) (hs : s.size ≤ 1000000) : Go.Am.Pure Tryz.prog 45 [.d (sD s)] (.tuple [.d (nI (atV s.data.toList)), .d (atE s.data.toList)]) := by
  refine Pure.of_calls' Tryz.func45 rfl rfl fun g w vs hw hv => ?_
  obtain ⟨v1, r, rfl, h1, hr⟩ := hv
  rw [VRL] at hr
  subst hr
  obtain rfl := h1.lit
  unfold atV atE
  cases h : Lib.atoiAll s.data.toList with
  | ok v =>
    refine (Any.strconv_Atoi_ok Tryz.laysC172 s (by omega) v h w).mono ?_
    rintro e w' ⟨rfl, hW⟩
    refine ⟨⟨_, rfl, [.int .i64 v, .nilIface], rfl, _, _, rfl, vr_lit _, _, _, rfl, vr_lit _, rfl⟩, ?_⟩
    rcases hW with rfl | ⟨t, rfl⟩
    · exact Grew.refl _
    · exact Grew.ofBelow (Lib.bytesWorld_below w _ t)
  | «syntax» =>
    obtain ⟨ev, h2, h3⟩ := sent_cell hw ⟨1, 0, none⟩ (.inl rfl)
    refine (Any.strconv_Atoi_syntax Tryz.laysC172 s (by omega) h ev w h2 h3).mono ?_
    rintro e w' ⟨N, rfl, hn, hc, hb⟩
    exact ⟨⟨_, rfl, vr_err _ N⟩, Grew.ofBelow hb⟩
  | range =>
    obtain ⟨ev, h2, h3⟩ := sent_cell hw ⟨2, 0, none⟩ (.inr rfl)
    refine (Any.strconv_Atoi_range Tryz.laysC172 s (by omega) h ev w h2 h3).mono ?_
    rintro e w' ⟨N, rfl, hn, hc, hb⟩
    exact ⟨⟨_, rfl, vr_err _ N⟩, Grew.ofBelow hb⟩
theorem atoi_num : ∀ n, n < 1000 → Lib.atoiAll (numS n).data.toList = .ok (n : Int) := by decide +kernel
theorem atV_num (n : Nat) (h : n < 1000) : atV (numS n).data.toList = n := by unfold atV; rw [atoi_num n h]
theorem atE_num (n : Nat) (h : n < 1000) : atE (numS n).data.toList = .lit .nilIface := by unfold atE; rw [atoi_num n h]
end Go.Proofs.YtbjjimllnffcpaaGreatDoor.Gr
