/- Contracts of functions that the law reaches: YtohenbaodklohaaDoorTapeO. Written for this claim. -/
import Derived.Test.YtohenbaodklohaaDoorTape
import Derived.Test.YtohenbaodklohaaDoorSxTab
namespace Go.Proofs.YtohenbaodklohaaDoor
open Go Go.Sx Go.ChangeShapes Go.WideShapes Go.ChangeAt Go.RowKit
set_option linter.unusedVariables false
set_option linter.unusedSimpArgs false
set_option maxRecDepth 100000


theorem cellsWr0 : Tryd.prog.cellsOf 42 = 3 := by kernel_rfl
end Go.Proofs.YtohenbaodklohaaDoor
