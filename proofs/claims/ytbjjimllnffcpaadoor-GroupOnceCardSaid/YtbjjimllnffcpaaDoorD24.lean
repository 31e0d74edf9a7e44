import Derived.Test.YtbjjimllnffcpaaDoorD23
set_option maxRecDepth 100000
set_option linter.unusedVariables false
set_option linter.unusedSimpArgs false
namespace Go.Proofs.YtbjjimllnffcpaaDoor.Dy
open Go Go.Am Va
theorem ok30' (a : Att) (v : Val) (n : Int) : Go.Am.Pure Tryd.prog 30 [.d (.agg (atC a)), .d (.agg (vaC v)), .d (Dy.nI n)] (.d (Dy.nI (cellA a v n))) := ok30 a.nm a.k a.mn a.mx v.num v.str n
end Go.Proofs.YtbjjimllnffcpaaDoor.Dy
