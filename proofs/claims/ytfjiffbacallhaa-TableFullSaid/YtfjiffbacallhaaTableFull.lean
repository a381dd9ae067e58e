/- The law TableFull: the walk through its code and the claim. -/
import Derived.Test.YtfjiffbacallhaaFullL
import Derived.Test.YtfjiffbacallhaaSxArg
import Derived.ProofKit
import Derived.OpenShut
namespace Go.Proofs.Ytfjiffbacallhaa
open Go Go.Sx Go.ChangeShapes Go.WideShapes Go.ChangeAt Go.RowKit
set_option linter.unusedVariables false
set_option linter.unusedSimpArgs false
set_option maxRecDepth 100000
theorem own : ownKnob Try.prog.godebug = none := by kernel_rfl
theorem laidOut : laidOutB Try.prog = true := by kernel_rfl
theorem gok {I : Nat → Prop} {w : World} : GOk GG I w := fun g sz get h => by cases h
theorem tableFull_lifted (os : Os) (started : os.Started) (H : Type) (enc : TypeId × Value → H) :
    ReturnsInHanded {} Try.checked os 3 .any (Rows.tableFullSpec.pre6 enc Try.prog Try.f3 Rows.tableFullRow.domain false) (Rows.tableFullSpec.post enc Try.prog Try.f3 false true false false) := by
  refine returnsInHanded_of_change_sized (C := Try.checked) own started (by kernel_rfl) Try.func3
    (ChangeSpec.witness6 (enc := enc) (C := Try.checked) false ⟨#[], #[.int .i64 0, .int .i64 0, .int .u8 0], []⟩ 8 (by kernel_rfl) (by kernel_rfl) (by kernel_rfl) (by kernel_rfl)) ?_
  intro W base args ds gs before hval hW hcnd hsz _
  refine law_contract (P := Try.prog) (ts := [3, 3, 5]) (bt := 4) (G := GG) laidOut (by rw [Try.params3]) (by kernel_rfl) Try.underlying4 (by kernel_rfl) rfl ?_ tableFull_all hval hW hsz gok
  intro ds h
  match ds, h with
  | [_, _, _], _ => rfl
theorem tableFull_over : Rows.tableFullRow.holds Try.pinned (OpenSpec.ofChange Rows.tableFullSpec) :=
  OpenClaim.holds_of_wide 3 Try.f3 rfl rfl rfl rfl rfl rfl rfl ⟨rfl, rfl, rfl, rfl, rfl⟩ rfl rfl rfl rfl rfl (by kernel_rfl) Try.func3 (by kernel_rfl)
    (of_decide_eq_true (by kernel_rfl)) (by unfold Func.isWrapper; first | (rw [if_pos (by decide +kernel)]; kernel_rfl) | (rw [if_neg (by decide +kernel)]; exact ⟨rfl, rfl⟩))
    (fun os started H enc _ => tableFull_lifted os started H enc)
theorem tableFull_proved : Rows.TableFullSaid := tableFull_over
#print axioms tableFull_proved
end Go.Proofs.Ytfjiffbacallhaa
