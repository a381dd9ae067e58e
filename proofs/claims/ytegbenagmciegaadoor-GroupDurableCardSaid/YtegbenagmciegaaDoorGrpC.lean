/- Contracts of functions that the law reaches: YtegbenagmciegaaDoorGrpC. Written for this claim. -/
import Derived.Test.YtegbenagmciegaaDoorGrpR
import Derived.Test.YtegbenagmciegaaDoorSxGrp
namespace Go.Proofs.YtegbenagmciegaaDoor
open Go Go.Sx Go.ChangeShapes Go.WideShapes Go.ChangeAt Go.RowKit
set_option linter.unusedVariables false
set_option linter.unusedSimpArgs false
set_option maxRecDepth 100000
/-! who is behind; what is sound -/
theorem commitp_step (c : CopyT) (k : Nat) : (validC c = true ∧ k < c.pend.length ∧ c.sv + k < 1099511627776 ∧ SmallC c) → Sx.Spec Tryd.prog GG 42 [.agg (copyL (stepC c k))] [] (.tup [.agg (copyL (stepC c (k + 1))), .d (.int .i64 0)]) [] := by
  rintro ⟨h1, h2, h3, h4⟩
  have := commitp_spec (stepC c k) (smallC_of h4 (step_valid h1 (by omega) (by omega)).1 rfl rfl)
  rw [step_commit h1 h2 h3] at this
  exact this
theorem numr_true {n : Int} : numOk n = true → Sx.Spec Tryd.prog GG 53 [.d (.int .i64 n)] [] (.d (.bool true)) [] := fun h => by
  have := numberr_spec n; rw [h] at this; exact this
theorem nump_true {n : Int} : numOk n = true → Sx.Spec Tryd.prog GG 43 [.d (.int .i64 n)] [] (.d (.bool true)) [] := fun h => by
  have := numberedp_spec n; rw [h] at this; exact this
theorem validr_true {c : CopyT} : (validC c = true ∧ SmallC c) → Sx.Spec Tryd.prog GG 54 [.agg (copyL c)] [] (.d (.bool true)) [] := fun ⟨h, hs⟩ => by
  have := validr_spec c hs; rw [h] at this; exact this
theorem validp_true {c : CopyT} : (validC c = true ∧ SmallC c) → Sx.Spec Tryd.prog GG 59 [.agg (copyL c)] [] (.d (.bool true)) [] := fun ⟨h, hs⟩ => by
  have := validp_spec c hs; rw [h] at this; exact this
end Go.Proofs.YtegbenagmciegaaDoor
