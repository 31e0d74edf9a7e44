import Derived.Test.YtddhlmejaobcgaaBB
set_option maxRecDepth 100000
set_option linter.unusedVariables false
set_option linter.unusedSimpArgs false
/- Package bag: what the document fixes. -/
namespace Go.Proofs.Ytddhlmejaobcgaa.Bg
open Go Go.Am
theorem bR_ex {n : Int} {l : List Pk} (s : Store) (h : bR n l s) : ∃ n' l' e' j', s = bS ⟨n', l', e', j'⟩ := by
  obtain ⟨e, j, rfl⟩ := h
  exact ⟨n, l, e, j, rfl⟩
theorem ok12K (b : B) (x : Int) {i : Nat} {p : Pk} (h : ixI x b.l = i) (hp : b.l[i]? = some p) (hs : p.tx.size ≤ 2000) (hl : b.l.length < 4000) (hn : 0 ≤ b.n ∧ b.n ≤ 1000000000) :
    CallOk Try.prog 12 [.ptr 1 0, .d (nI x)] (bS b) (fun v s => v = rN (b.n + 1) (.lit .nilIface) ∧ bR (b.n + 1) (b.l ++ [⟨b.n + 1, p.fr, p.to, p.tx⟩]) s) :=
  ok12S b x (by omega) h hp bR_ex (ok8S b p.fr p.to p.tx hs hl hn) (.inl rfl)
theorem ok12F (b : B) (x : Int) {i : Nat} {p : Pk} (h : ixI x b.l = i) (hp : b.l[i]? = some p) (hs : p.tx.size ≤ 2000) (hl : b.l.length ≥ 4000) (hl2 : b.l.length ≤ 1000000) :
    CallOk Try.prog 12 [.ptr 1 0, .d (nI x)] (bS b) (fun v s => v = rN 0 (fE 4) ∧ s = bS b) :=
  ok12S (R := fun s => s = bS b) b x hl2 h hp (fun s hs => ⟨_, _, _, _, hs⟩) (ok8F b p.fr p.to p.tx hs hl) (.inr (.inr rfl))
abbrev aS : ByteArray := ⟨#[97]⟩
abbrev pA (n : Int) : Pk := ⟨n, 1, 2, aS⟩
end Go.Proofs.Ytddhlmejaobcgaa.Bg
