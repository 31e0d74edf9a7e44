import Derived.Test.YtddhlmejaobcgaaAm25
import Derived.Test.YtddhlmejaobcgaaChecked
set_option maxRecDepth 100000
set_option linter.unusedVariables false
set_option linter.unusedSimpArgs false
/- Faults, where nobody asks errors.Is. -/
namespace Go.Proofs.Ytddhlmejaobcgaa.Er
open Go.Am
abbrev ftD (wh : ByteArray) (at_ c : Int) : D := .iface 114 (.box [.lit (.string wh), .lit (.int .i64 at_), .iface 85 (.lit (.int .i64 c))] 0)
end Go.Proofs.Ytddhlmejaobcgaa.Er
