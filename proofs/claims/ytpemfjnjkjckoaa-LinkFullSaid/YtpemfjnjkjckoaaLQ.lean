import Derived.Test.YtpemfjnjkjckoaaLA
set_option maxRecDepth 100000
set_option linter.unusedVariables false
set_option linter.unusedSimpArgs false
/- Layer 4: LinkQuiet. -/
namespace Go.Proofs.Ytpemfjnjkjckoaa.Lk
open Go Go.Am Co
def od5 : Ords := []
theorem code5 : codeB Try.f5.ntmps od5 (match Try.f5.body with | some c => c | none => .skip) = true := by kernel_rfl
set_option maxHeartbeats 4000000 in
theorem ok5 (s0 : ByteArray) : Go.Am.Pure Try.prog 5 [.d (sD s0)] (bI true) := by
  refine CallOk.of tysOk mixed od5 Try.func5 rfl rfl code5 ?_
  refine W.pure (ok8 s0 100) rfl rfl ?_
  have hs := cut_size s0 100
  generalize cut s0 100 = s at hs
  have o0 : lk0.ok := .mk' (by decide) (by simp) (by decide) (by decide)
  have o1 : (⟨[s], 0, 0, false⟩ : Lk).ok := .mk' (by simp) (by simp; omega) (by decide) (by decide)
  have o2 : (⟨[], 0, 1, true⟩ : Lk).ok := .mk' (by decide) (by simp) (by decide) (by decide)
  have o3 : (⟨[], 0, 1, false⟩ : Lk).ok := .mk' (by decide) (by simp) (by decide) (by decide)
  have o4 : (⟨[], 1, 0, false⟩ : Lk).ok := .mk' (by decide) (by simp) (by decide) (by decide)
  refine W.lk 0 [.var (lkC lk0), .var (lkC lk0)] (packetsOk lk0 o0 (ps := []) rfl) rfl rfl rfl rfl ?_
  repeat (first | refine W.ite_t rfl ?_ | refine W.ite_f rfl ?_)
  refine W.lk 0 [.var (lkC lk0), .var (lkC lk0)] (idleOk lk0 (b := true) rfl) rfl rfl rfl rfl ?_
  repeat (first | refine W.ite_t rfl ?_ | refine W.ite_f rfl ?_)
  refine W.lk 0 [.var (lkC ⟨[s], 0, 0, false⟩), .var (lkC lk0)] (pushOk lk0 o0 s (by omega) (by decide)) rfl rfl rfl rfl ?_
  repeat (first | refine W.ite_t rfl ?_ | refine W.ite_f rfl ?_)
  refine W.lk 0 [.var (lkC ⟨[s], 0, 0, false⟩), .var (lkC lk0)] (idleOk ⟨[s], 0, 0, false⟩ (b := false) (by simp)) rfl rfl rfl rfl ?_
  repeat (first | refine W.ite_t rfl ?_ | refine W.ite_f rfl ?_)
  refine W.lk 0 [.var (lkC ⟨[s], 0, 0, false⟩), .var (lkC lk0)] (packetsOk ⟨[s], 0, 0, false⟩ o1 (ps := [pk 0 0 s]) rfl) rfl rfl rfl rfl ?_
  repeat (first | refine W.ite_t rfl ?_ | refine W.ite_f rfl ?_)
  refine W.need (ix_ok (l := [pk 0 0 s]) (i := 0) sC_len (by decide) (by simp)) ?_
  refine W.ld (sE (l := [pk 0 0 s]) (i := 0) rfl) ?_
  refine W.lk 1 [.var (lkC ⟨[s], 0, 0, false⟩), .var (lkC ⟨[], 0, 1, true⟩)] (takeOk lk0 o0 (n := 0) (c := 0) (s := s) (by decide) (by decide) (by omega) (r := (s, true, .lit .nilIface)) rfl) rfl rfl rfl rfl ?_
  refine W.lk 1 [.var (lkC ⟨[s], 0, 0, false⟩), .var (lkC ⟨[], 0, 1, false⟩)] (packetsOk ⟨[], 0, 1, true⟩ o2 (ps := [pk (-1) 1 mt]) rfl) rfl rfl rfl rfl ?_
  have es := toList_bne s
  repeat (first | refine W.ite_t rfl ?_ | refine W.ite_f rfl ?_ | refine W.ite_f es ?_)
  refine W.lk 1 [.var (lkC ⟨[s], 0, 0, false⟩), .var (lkC ⟨[], 0, 1, false⟩)] (packetsOk ⟨[], 0, 1, false⟩ o3 (ps := []) rfl) rfl rfl rfl rfl ?_
  repeat (first | refine W.ite_t rfl ?_ | refine W.ite_f rfl ?_)
  refine W.lk 1 [.var (lkC ⟨[s], 0, 0, false⟩), .var (lkC ⟨[], 0, 1, false⟩)] (idleOk ⟨[], 0, 1, false⟩ (b := true) rfl) rfl rfl rfl rfl ?_
  repeat (first | refine W.ite_t rfl ?_ | refine W.ite_f rfl ?_)
  refine W.need (ix_ok (l := [pk (-1) 1 mt]) (i := 0) sC_len (by decide) (by simp)) ?_
  refine W.ld (sE (l := [pk (-1) 1 mt]) (i := 0) rfl) ?_
  refine W.lk 0 [.var (lkC ⟨[], 1, 0, false⟩), .var (lkC ⟨[], 0, 1, false⟩)] (takeOk ⟨[s], 0, 0, false⟩ o1 (n := -1) (c := 1) (s := mt) (by decide) (by decide) (by decide) (r := (mt, false, .lit .nilIface)) (l' := ⟨[], 1, 0, false⟩) ?_) rfl rfl rfl rfl ?_
  · unfold takeV
    rw [if_neg (by rw [isE_mt]; decide), if_pos (by decide)]
    rfl
  refine W.pure ok12 rfl rfl ?_
  repeat (first | refine W.ite_t rfl ?_ | refine W.ite_f rfl ?_)
  refine W.lk 0 [.var (lkC ⟨[], 1, 0, false⟩), .var (lkC ⟨[], 0, 1, false⟩)] (idleOk ⟨[], 1, 0, false⟩ (b := true) rfl) rfl rfl rfl rfl ?_
  repeat (first | refine W.ite_t rfl ?_ | refine W.ite_f rfl ?_)
  refine W.lk 0 [.var (lkC ⟨[], 1, 0, false⟩), .var (lkC ⟨[], 0, 1, false⟩)] (packetsOk ⟨[], 1, 0, false⟩ o4 (ps := []) rfl) rfl rfl rfl rfl ?_
  repeat (first | refine W.ite_t rfl ?_ | refine W.ite_f rfl ?_)
  exact W.ret (RetQ.pure rfl rfl)
end Go.Proofs.Ytpemfjnjkjckoaa.Lk
