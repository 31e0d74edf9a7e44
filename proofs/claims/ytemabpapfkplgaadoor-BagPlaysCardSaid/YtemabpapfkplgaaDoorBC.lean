import Derived.Test.YtemabpapfkplgaaDoorBB
set_option maxRecDepth 100000
set_option linter.unusedVariables false
set_option linter.unusedSimpArgs false
/- Package bag: what the document fixes. -/
namespace Go.Proofs.YtemabpapfkplgaaDoor.Bg
open Go Go.Am
def od4 : Ords := []
theorem code4 : codeB Tryd.f4.ntmps od4 (match Tryd.f4.body with | some c => c | none => .skip) = true := by kernel_rfl
theorem bR_ex {n : Int} {l : List Pk} (s : Store) (h : bR n l s) : ∃ n' l' e' j', s = bS ⟨n', l', e', j'⟩ := by
  obtain ⟨e, j, rfl⟩ := h
  exact ⟨n, l, e, j, rfl⟩
theorem ok12K (b : B) (x : Int) {i : Nat} {p : Pk} (h : ixI x b.l = i) (hp : b.l[i]? = some p) (hs : p.tx.size ≤ 2000) (hl : b.l.length < 4000) (hn : 0 ≤ b.n ∧ b.n ≤ 1000000000) :
    CallOk Tryd.prog 12 [.ptr 1 0, .d (nI x)] (bS b) (fun v s => v = rN (b.n + 1) (.lit .nilIface) ∧ bR (b.n + 1) (b.l ++ [⟨b.n + 1, p.fr, p.to, p.tx⟩]) s) :=
  ok12S b x (by omega) h hp bR_ex (ok5S b p.fr p.to p.tx hs hl hn) (.inl rfl)
theorem ok12F (b : B) (x : Int) {i : Nat} {p : Pk} (h : ixI x b.l = i) (hp : b.l[i]? = some p) (hs : p.tx.size ≤ 2000) (hl : b.l.length ≥ 4000) (hl2 : b.l.length ≤ 1000000) :
    CallOk Tryd.prog 12 [.ptr 1 0, .d (nI x)] (bS b) (fun v s => v = rN 0 (fE 4) ∧ s = bS b) :=
  ok12S (R := fun s => s = bS b) b x hl2 h hp (fun s hs => ⟨_, _, _, _, hs⟩) (ok5F b p.fr p.to p.tx hs hl) (.inr (.inr rfl))
abbrev aS : ByteArray := ⟨#[97]⟩
abbrev pA (n : Int) : Pk := ⟨n, 1, 2, aS⟩
set_option maxHeartbeats 4000000 in
theorem ok4 : Go.Am.Pure Tryd.prog 4 [] (bI true) := by
  refine CallOk.of tysOk mixed od4 Tryd.func4 rfl rfl code4 ?_
  have k1 := ok5S ⟨0, [], 0, []⟩ 1 2 aS (by decide) (by decide) (by decide)
  refine W.callT [0, 1] k1 (by decide) rfl rfl rfl rfl ?_
  rintro v s ⟨rfl, e, j, rfl⟩
  have k2 := ok12K ⟨1, [pA 1], e, j⟩ 1 (i := 0) (p := pA 1) rfl rfl (by decide) (by simp) (by simp)
  refine W.callT [0, 1] k2 (by decide) rfl rfl rfl rfl ?_
  rintro v s ⟨rfl, e, j, rfl⟩
  have k3 := ok8S ⟨2, [pA 1, pA 2], e, j⟩ 1 (by simp) (i := 0) (p := pA 1) rfl rfl
  refine W.callT [0, 1] k3 (by decide) rfl rfl rfl rfl ?_
  rintro v s ⟨rfl, rfl⟩
  have k4 := ok8N ⟨2, [pA 2], e, pkC pk0 ++ j⟩ 1 (by simp) rfl
  refine W.callT [0, 1] k4 (by decide) rfl rfl rfl rfl ?_
  rintro v s ⟨rfl, rfl⟩
  have ct : (aS.toList == aS.toList) = true := beq_self_eq_true _
  repeat (first | refine W.ite_t rfl ?_ | refine W.ite_f rfl ?_ | refine W.ite_t ct ?_)
  refine W.pure (Er.okIs bagW 0 9 9) rfl rfl ?_
  repeat (first | refine W.ite_t rfl ?_ | refine W.ite_f rfl ?_ | refine W.ite_t ct ?_)
  have k5 := ok17 ⟨2, [pA 2], e, pkC pk0 ++ j⟩
  refine W.callT [0, 1] k5 (by decide) rfl rfl rfl rfl ?_
  rintro v s ⟨rfl, rfl⟩
  repeat (first | refine W.ite_t rfl ?_ | refine W.ite_f rfl ?_ | refine W.ite_t ct ?_)
  exact W.ret (RetQ.pure rfl rfl)
end Go.Proofs.YtemabpapfkplgaaDoor.Bg
