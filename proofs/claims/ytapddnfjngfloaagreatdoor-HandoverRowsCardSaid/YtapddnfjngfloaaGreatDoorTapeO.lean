/- Contracts of functions that the law reaches: YtapddnfjngfloaaGreatDoorTapeO. Written for this claim. -/
import Derived.Test.YtapddnfjngfloaaGreatDoorTape
import Derived.Test.YtapddnfjngfloaaGreatDoorSxTab
namespace Go.Proofs.YtapddnfjngfloaaGreatDoor
open Go Go.Sx Go.ChangeShapes Go.WideShapes Go.ChangeAt Go.RowKit
set_option linter.unusedVariables false
set_option linter.unusedSimpArgs false
set_option maxRecDepth 100000
end Go.Proofs.YtapddnfjngfloaaGreatDoor
