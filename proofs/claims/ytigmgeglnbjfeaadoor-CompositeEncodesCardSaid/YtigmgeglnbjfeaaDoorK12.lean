/- Contracts of functions that the law reaches: YtigmgeglnbjfeaaDoorK12. Written for this claim. -/
import Derived.Test.YtigmgeglnbjfeaaDoorK11
import Derived.Test.YtigmgeglnbjfeaaDoorSxCmp
namespace Go.Proofs.YtigmgeglnbjfeaaDoor
open Go Go.Sx Go.ChangeShapes Go.WideShapes Go.ChangeAt Go.RowKit
set_option linter.unusedVariables false
set_option linter.unusedSimpArgs false
set_option maxRecDepth 100000
theorem row_zeros {r : List UInt8} {d : Bool} {n : Nat} {g : Nat → Nat → D} (hg : ∀ i, i < n → g i 0 = .int .u8 0) (hn : n = r.length) : RowLe n 1 g (cellOf encB (copyB d r 0)) := .of_eq fun i j hi hj => by
  have : j = 0 := by omega
  subst this
  have h2 : i < r.length := by omega
  rw [hg i hi, copyB_zero]
  simp [cellOf, encB, List.getD, h2]
end Go.Proofs.YtigmgeglnbjfeaaDoor
