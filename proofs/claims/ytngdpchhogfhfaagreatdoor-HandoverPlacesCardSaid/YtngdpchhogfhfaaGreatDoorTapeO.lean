/- Contracts of functions that the law reaches: YtngdpchhogfhfaaGreatDoorTapeO. Written for this claim. -/
import Derived.Test.YtngdpchhogfhfaaGreatDoorTape
import Derived.Test.YtngdpchhogfhfaaGreatDoorSxTab
namespace Go.Proofs.YtngdpchhogfhfaaGreatDoor
open Go Go.Sx Go.ChangeShapes Go.WideShapes Go.ChangeAt Go.RowKit
set_option linter.unusedVariables false
set_option linter.unusedSimpArgs false
set_option maxRecDepth 100000
end Go.Proofs.YtngdpchhogfhfaaGreatDoor
