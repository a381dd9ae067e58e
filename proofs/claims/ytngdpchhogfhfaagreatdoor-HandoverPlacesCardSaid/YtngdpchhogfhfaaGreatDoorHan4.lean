/- Contracts of functions that the law reaches: YtngdpchhogfhfaaGreatDoorHan4. Written for this claim. -/
import Derived.Test.YtngdpchhogfhfaaGreatDoorHan
import Derived.Test.YtngdpchhogfhfaaGreatDoorSxHan
namespace Go.Proofs.YtngdpchhogfhfaaGreatDoor
open Go Go.Sx Go.ChangeShapes Go.WideShapes Go.ChangeAt Go.RowKit
set_option linter.unusedVariables false
set_option linter.unusedSimpArgs false
set_option maxRecDepth 100000
end Go.Proofs.YtngdpchhogfhfaaGreatDoor

namespace Go.Proofs.YtngdpchhogfhfaaGreatDoor
open Go Go.Sx Go.ChangeShapes Go.WideShapes Go.ChangeAt Go.RowKit
set_option linter.unusedVariables false
set_option linter.unusedSimpArgs false
set_option maxRecDepth 100000
end Go.Proofs.YtngdpchhogfhfaaGreatDoor

namespace Go.Proofs.YtngdpchhogfhfaaGreatDoor
open Go Go.Sx Go.ChangeShapes Go.WideShapes Go.ChangeAt Go.RowKit
set_option linter.unusedVariables false
set_option linter.unusedSimpArgs false
set_option maxRecDepth 100000
/-- the groups behind i phases -/
structure RunA where
  f : GrpT
  t : GrpT
def stepR (bk : List UInt8) (bt : Bool) (side ser : Int) (x : RunA) : Nat → GrpT × Int
  | 0 => freezeG x.f bk bt side ser x.t.num
  | 1 => deliverG x.f x.t
  | 2 => installG x.t
  | 3 => releaseG x.f x.t
  | _ => forgetG x.t x.f
def putR (i : Nat) (x : RunA) (g : GrpT) : RunA := if i = 0 ∨ i = 3 then ⟨g, x.t⟩ else ⟨x.f, g⟩
def runR (bk : List UInt8) (bt : Bool) (side ser : Int) : Nat → Nat → RunA → (GrpT × GrpT) × Int
  | 0, _, x => ((x.f, x.t), 0)
  | n + 1, i, x => if (phaseG (stepR bk bt side ser x i)).2 = 0 then runR bk bt side ser n (i + 1) (putR i x (phaseG (stepR bk bt side ser x i)).1) else ((noGrp, noGrp), (phaseG (stepR bk bt side ser x i)).2)
theorem run_eq {f t : GrpT} {bk : List UInt8} {bt : Bool} {side ser : Int} : runG f t bk bt side ser = runR bk bt side ser 5 0 ⟨f, t⟩ := by
  simp only [runG, runR, stepR, putR, ite_not]
  rfl
theorem step_b {bk : List UInt8} {bt : Bool} {side ser : Int} {x : RunA} (h : GrpB 1000 x.f ∧ GrpB 1000 x.t) : ∀ i, GrpB 1000 (stepR bk bt side ser x i).1
  | 0 => freeze_b h.1
  | 1 => deliver_b h.1 h.2
  | 2 => install_b h.2
  | 3 => release_b h.1
  | _ + 4 => forget_b h.2
theorem put_b {i : Nat} {x : RunA} {g : GrpT} (h : GrpB 1000 x.f ∧ GrpB 1000 x.t) (hg : GrpB 1000 g) : GrpB 1000 (putR i x g).f ∧ GrpB 1000 (putR i x g).t := by
  unfold putR
  split
  · exact ⟨hg, h.2⟩
  · exact ⟨h.1, hg⟩
theorem run_go {bk : List UInt8} {bt : Bool} {side ser : Int} {n i : Nat} {x : RunA} (h1 : (stepR bk bt side ser x i).2 = 0) (h2 : (recoverG (stepR bk bt side ser x i).1).2 = 0) : runR bk bt side ser (n + 1) i x = runR bk bt side ser n (i + 1) (putR i x (recoverG (stepR bk bt side ser x i).1).1.1) := by
  have e : phaseG (stepR bk bt side ser x i) = ((recoverG (stepR bk bt side ser x i).1).1.1, (recoverG (stepR bk bt side ser x i).1).2) := by rw [phaseG, if_pos h1]
  rw [runR, e, if_pos h2]
theorem run_no1 {bk : List UInt8} {bt : Bool} {side ser : Int} {n i : Nat} {x : RunA} (h1 : ¬ (stepR bk bt side ser x i).2 = 0) : runR bk bt side ser (n + 1) i x = ((noGrp, noGrp), (stepR bk bt side ser x i).2) := by
  have e : phaseG (stepR bk bt side ser x i) = stepR bk bt side ser x i := by rw [phaseG, if_neg h1]
  rw [runR, e, if_neg h1]
theorem run_no2 {bk : List UInt8} {bt : Bool} {side ser : Int} {n i : Nat} {x : RunA} (h1 : (stepR bk bt side ser x i).2 = 0) (h2 : ¬ (recoverG (stepR bk bt side ser x i).1).2 = 0) : runR bk bt side ser (n + 1) i x = ((noGrp, noGrp), (recoverG (stepR bk bt side ser x i).1).2) := by
  have e : phaseG (stepR bk bt side ser x i) = ((recoverG (stepR bk bt side ser x i).1).1.1, (recoverG (stepR bk bt side ser x i).1).2) := by rw [phaseG, if_pos h1]
  rw [runR, e, if_neg h2]
end Go.Proofs.YtngdpchhogfhfaaGreatDoor
