/- Contracts of functions that the law reaches: YtegbenagmciegaaDoorTapeO. Written for this claim. -/
import Derived.Test.YtegbenagmciegaaDoorTape
import Derived.Test.YtegbenagmciegaaDoorSxTab
namespace Go.Proofs.YtegbenagmciegaaDoor
open Go Go.Sx Go.ChangeShapes Go.WideShapes Go.ChangeAt Go.RowKit
set_option linter.unusedVariables false
set_option linter.unusedSimpArgs false
set_option maxRecDepth 100000


theorem cellsWr0 : Tryd.prog.cellsOf 50 = 3 := by kernel_rfl
end Go.Proofs.YtegbenagmciegaaDoor
