/- Contracts of functions that the law reaches: YtngdpchhogfhfaaGreatDoorStepsL. Written for this claim. -/
import Derived.Test.YtngdpchhogfhfaaGreatDoorNtx
import Derived.Test.YtngdpchhogfhfaaGreatDoorLay
namespace Go.Proofs.YtngdpchhogfhfaaGreatDoor
open Go Go.Sx Go.ChangeShapes Go.WideShapes Go.ChangeAt Go.WideMaps Go.WideElems Go.RowKit
set_option linter.unusedVariables false
set_option linter.unusedSimpArgs false
set_option maxRecDepth 100000
end Go.Proofs.YtngdpchhogfhfaaGreatDoor
