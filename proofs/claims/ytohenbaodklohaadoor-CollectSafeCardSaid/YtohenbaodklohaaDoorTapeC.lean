/- Contracts of functions that the law reaches: YtohenbaodklohaaDoorTapeC. Written for this claim. -/
import Derived.Test.YtohenbaodklohaaDoorTape
import Derived.Test.YtohenbaodklohaaDoorSxTab
namespace Go.Proofs.YtohenbaodklohaaDoor
open Go Go.Sx Go.ChangeShapes Go.WideShapes Go.ChangeAt Go.RowKit
set_option linter.unusedVariables false
set_option linter.unusedSimpArgs false
set_option maxRecDepth 100000
end Go.Proofs.YtohenbaodklohaaDoor
