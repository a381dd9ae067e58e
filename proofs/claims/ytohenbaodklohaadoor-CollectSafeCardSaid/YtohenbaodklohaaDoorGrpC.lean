/- Contracts of functions that the law reaches: YtohenbaodklohaaDoorGrpC. Written for this claim. -/
import Derived.Test.YtohenbaodklohaaDoorGrpR
import Derived.Test.YtohenbaodklohaaDoorSxGrp
namespace Go.Proofs.YtohenbaodklohaaDoor
open Go Go.Sx Go.ChangeShapes Go.WideShapes Go.ChangeAt Go.RowKit
set_option linter.unusedVariables false
set_option linter.unusedSimpArgs false
set_option maxRecDepth 100000
/-! who is behind; what is sound -/
theorem commitr_step (c : CopyT) (k : Nat) : (validC c = true ∧ k < c.pend.length ∧ c.sv + k < 1099511627776 ∧ SmallC c) → Sx.Spec Tryd.prog GG 44 [.agg (copyL (stepC c k))] [] (.tup [.agg (copyL (stepC c (k + 1))), .d (.int .i64 0)]) [] := by
  rintro ⟨h1, h2, h3, h4⟩
  have := commitr_spec (stepC c k) (smallC_of h4 (step_valid h1 (by omega) (by omega)).1 rfl rfl)
  rw [step_commit h1 h2 h3] at this
  exact this
theorem sameWr_cut (a : List Wr) {n : Nat} {gf : Nat → Nat → D} : ((n = a.length ∧ RowLe n 3 gf (cellOf encWr a)) ∧ a.length ≤ 1000) → Sx.Spec Tryd.prog GG 80 [.d (encL encWr 3 a), .d (.list n 3 gf)] [] (.d (.bool true)) [] := by
  rintro ⟨⟨rfl, hr⟩, hl⟩
  have := (sameWr_spec a a ⟨by omega, by omega⟩).arg (LeL.cons (LeS.refl _) (LeL.cons (LeS.d (DLe.rows rfl hr)) LeL.nil))
  rw [same_refl] at this
  exact this
theorem numr_true {n : Int} : numOk n = true → Sx.Spec Tryd.prog GG 46 [.d (.int .i64 n)] [] (.d (.bool true)) [] := fun h => by
  have := numberr_spec n; rw [h] at this; exact this
theorem validr_true {c : CopyT} : (validC c = true ∧ SmallC c) → Sx.Spec Tryd.prog GG 62 [.agg (copyL c)] [] (.d (.bool true)) [] := fun ⟨h, hs⟩ => by
  have := validr_spec c hs; rw [h] at this; exact this
end Go.Proofs.YtohenbaodklohaaDoor
