import Derived.Test.YtddhlmejaobcgaaDoorD23
set_option maxRecDepth 100000
set_option linter.unusedVariables false
set_option linter.unusedSimpArgs false
namespace Go.Proofs.YtddhlmejaobcgaaDoor.Dy
open Go Go.Am Va
theorem ok14' (a : Att) (v : Val) (n : Int) : Go.Am.Pure Tryd.prog 14 [.d (.agg (atC a)), .d (.agg (vaC v)), .d (Dy.nI n)] (.d (Dy.nI (cellA a v n))) := ok14 a.nm a.k a.mn a.mx v.num v.str n
end Go.Proofs.YtddhlmejaobcgaaDoor.Dy
