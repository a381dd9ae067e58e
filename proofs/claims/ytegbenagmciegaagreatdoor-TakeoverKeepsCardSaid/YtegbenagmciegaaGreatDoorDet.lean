/- Contracts of functions that the law reaches: YtegbenagmciegaaGreatDoorDet. Written for this claim. -/
import Derived.Test.YtegbenagmciegaaGreatDoorApp
import Derived.Test.YtegbenagmciegaaGreatDoorSxTab
namespace Go.Proofs.YtegbenagmciegaaGreatDoor
open Go Go.Sx Go.ChangeShapes Go.WideShapes Go.ChangeAt Go.RowKit
set_option linter.unusedVariables false
set_option linter.unusedSimpArgs false
set_option maxRecDepth 100000
end Go.Proofs.YtegbenagmciegaaGreatDoor
