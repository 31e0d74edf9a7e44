import Derived.Test.YtddhlmejaobcgaaLP
set_option maxRecDepth 100000
set_option linter.unusedVariables false
set_option linter.unusedSimpArgs false
/- Layer 4: the laws' common start. -/
namespace Go.Proofs.Ytddhlmejaobcgaa.Lk
open Go Go.Am Co
abbrev tA : ByteArray := ⟨#[97]⟩
abbrev tB : ByteArray := ⟨#[98]⟩
theorem rg {n : Int} (h1 : -1 ≤ n) (h2 : n ≤ 2000000) : -9223372036854775808 ≤ n ∧ n < 9223372036854775808 := by omega
end Go.Proofs.Ytddhlmejaobcgaa.Lk
