/- Contracts of functions that the law reaches: YtigmgeglnbjfeaaDoorK11. Written for this claim. -/
import Derived.Test.YtigmgeglnbjfeaaDoorK10
import Derived.Test.YtigmgeglnbjfeaaDoorSxCmp
namespace Go.Proofs.YtigmgeglnbjfeaaDoor
open Go Go.Sx Go.ChangeShapes Go.WideShapes Go.ChangeAt Go.RowKit
set_option linter.unusedVariables false
set_option linter.unusedSimpArgs false
set_option maxRecDepth 100000
end Go.Proofs.YtigmgeglnbjfeaaDoor
