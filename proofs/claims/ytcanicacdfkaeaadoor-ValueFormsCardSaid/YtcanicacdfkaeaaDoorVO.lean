import Derived.Test.YtcanicacdfkaeaaDoorVW
set_option maxRecDepth 100000
set_option linter.unusedVariables false
/- The order of ValueForms' drawn region, checked. -/
namespace Go.Proofs.YtcanicacdfkaeaaDoor.Va
open Go Go.Am
def od3 : Ords := [(5, [1000, 1, 2, 5, 3, 4, 1006, 7, 8, 9, 10, 11, 14, 15, 16, 17, 18, 12, 13, 1019, 20, 21, 22, 23, 24, 27, 28, 25, 26, 1029, 30, 31, 32, 33, 34, 36, 37, 35, 1038, 39, 40, 41, 42, 44, 43, 1045, 46, 47, 48, 49, 51, 50, 1052, 53, 54, 55])]
set_option maxHeartbeats 0 in
theorem code3 : codeB Tryd.f3.ntmps od3 (match Tryd.f3.body with | some c => c | none => .skip) = true := by kernel_rfl
end Go.Proofs.YtcanicacdfkaeaaDoor.Va
