/- Contracts of functions that the law reaches: YtngdpchhogfhfaaGreatDoorGrpC. Written for this claim. -/
import Derived.Test.YtngdpchhogfhfaaGreatDoorGrpR
import Derived.Test.YtngdpchhogfhfaaGreatDoorSxGrp
namespace Go.Proofs.YtngdpchhogfhfaaGreatDoor
open Go Go.Sx Go.ChangeShapes Go.WideShapes Go.ChangeAt Go.RowKit
set_option linter.unusedVariables false
set_option linter.unusedSimpArgs false
set_option maxRecDepth 100000
/-! who is behind; what is sound -/
end Go.Proofs.YtngdpchhogfhfaaGreatDoor
