import Derived.Test.YtpemfjnjkjckoaaDoorLP
set_option maxRecDepth 100000
set_option linter.unusedVariables false
set_option linter.unusedSimpArgs false
/- Layer 4: the laws' common start. -/
namespace Go.Proofs.YtpemfjnjkjckoaaDoor.Lk
open Go Go.Am Co
def od5 : Ords := []
theorem code5 : codeB Tryd.f5.ntmps od5 (match Tryd.f5.body with | some c => c | none => .skip) = true := by kernel_rfl
abbrev tA : ByteArray := ⟨#[97]⟩
abbrev tB : ByteArray := ⟨#[98]⟩
theorem rg {n : Int} (h1 : -1 ≤ n) (h2 : n ≤ 2000000) : -9223372036854775808 ≤ n ∧ n < 9223372036854775808 := by omega
set_option maxHeartbeats 4000000 in
theorem ok5 : Go.Am.Pure Tryd.prog 5 [] (bI true) := by
  refine CallOk.of tysOk mixed od5 Tryd.func5 rfl rfl code5 ?_
  have o0 : lk0.ok := .mk' (by decide) (by simp) (by decide) (by decide)
  have o1 : (⟨[tA], 0, 0, false⟩ : Lk).ok := .mk' (by decide) (by simp; decide) (by decide) (by decide)
  have o2 : (⟨[tA, tB], 0, 0, false⟩ : Lk).ok := .mk' (by decide) (by simp; decide) (by decide) (by decide)
  have o3 : (⟨[], 0, 0, true⟩ : Lk).ok := .mk' (by decide) (by simp) (by decide) (by decide)
  refine W.lk 0 [.var (lkC ⟨[tA], 0, 0, false⟩), .var (lkC lk0)] (pushOk lk0 o0 tA (by decide) (by decide)) rfl rfl rfl rfl ?_
  repeat (first | refine W.ite_t rfl ?_ | refine W.ite_f rfl ?_)
  refine W.lk 0 [.var (lkC ⟨[tA, tB], 0, 0, false⟩), .var (lkC lk0)] (pushOk ⟨[tA], 0, 0, false⟩ o1 tB (by decide) (by decide)) rfl rfl rfl rfl ?_
  repeat (first | refine W.ite_t rfl ?_ | refine W.ite_f rfl ?_)
  refine W.lk 0 [.var (lkC ⟨[tA, tB], 0, 0, false⟩), .var (lkC lk0)] (packetsOk ⟨[tA, tB], 0, 0, false⟩ o2 (ps := [pk 0 0 tA, pk 1 0 tB]) rfl) rfl rfl rfl rfl ?_
  repeat (first | refine W.ite_t rfl ?_ | refine W.ite_f rfl ?_)
  refine W.need (ix_ok (l := [pk 0 0 tA, pk 1 0 tB]) (i := 1) sC_len (by decide) (by decide)) ?_
  refine W.ld (sE (l := [pk 0 0 tA, pk 1 0 tB]) (i := 1) rfl) ?_
  refine W.lk 1 [.var (lkC ⟨[tA, tB], 0, 0, false⟩), .var (lkC ⟨[], 0, 0, true⟩)] (takeOk lk0 o0 (n := 1) (c := 0) (s := tB) (by decide) (by decide) (by decide) (r := (mt, false, .lit .nilIface)) rfl) rfl rfl rfl rfl ?_
  refine W.need (ix_ok (l := [pk 0 0 tA, pk 1 0 tB]) (i := 0) sC_len (by decide) (by decide)) ?_
  refine W.ld (sE (l := [pk 0 0 tA, pk 1 0 tB]) (i := 0) rfl) ?_
  refine W.lk 1 [.var (lkC ⟨[tA, tB], 0, 0, false⟩), .var (lkC ⟨[], 0, 1, true⟩)] (takeOk ⟨[], 0, 0, true⟩ o3 (n := 0) (c := 0) (s := tA) (by decide) (by decide) (by decide) (r := (tA, true, .lit .nilIface)) rfl) rfl rfl rfl rfl ?_
  have ea : (tA.toList == tA.toList) = true := toList_beq tA
  repeat (first | refine W.ite_t rfl ?_ | refine W.ite_f rfl ?_ | refine W.ite_t ea ?_)
  refine W.lk 1 [.var (lkC ⟨[tA, tB], 0, 0, false⟩), .var (lkC ⟨[], 0, 1, true⟩)] (idleOk ⟨[], 0, 1, true⟩ (b := false) rfl) rfl rfl rfl rfl ?_
  repeat (first | refine W.ite_t rfl ?_ | refine W.ite_f rfl ?_)
  exact W.ret (RetQ.pure rfl rfl)
end Go.Proofs.YtpemfjnjkjckoaaDoor.Lk
