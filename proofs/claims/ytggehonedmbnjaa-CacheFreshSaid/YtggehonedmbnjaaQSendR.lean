/- Contracts of functions that the law reaches: YtggehonedmbnjaaQSendR. Written for this claim. -/
import Derived.Test.YtggehonedmbnjaaQSend
namespace Go.Proofs.Ytggehonedmbnjaa
open Go Go.Sx Go.ChangeShapes Go.WideShapes Go.ChangeAt Go.RowKit
set_option linter.unusedVariables false
set_option linter.unusedSimpArgs false
set_option maxRecDepth 100000
end Go.Proofs.Ytggehonedmbnjaa
