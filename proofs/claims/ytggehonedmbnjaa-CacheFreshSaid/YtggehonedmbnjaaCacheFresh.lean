/- The law CacheFresh: the walk through its code and the claim. -/
import Derived.Test.YtggehonedmbnjaaQFr
import Derived.Test.YtggehonedmbnjaaSxFrame
import Derived.ProofKit
import Derived.OpenShut
namespace Go.Proofs.Ytggehonedmbnjaa
open Go Go.Sx Go.ChangeShapes Go.WideShapes Go.ChangeAt Go.RowKit
set_option linter.unusedVariables false
set_option linter.unusedSimpArgs false
set_option maxRecDepth 100000
theorem own : ownKnob Try.prog.godebug = none := by kernel_rfl
theorem laidOut : laidOutB Try.prog = true := by kernel_rfl
theorem gok {I : Nat → Prop} {w : World} : GOk GG I w := fun g sz get h => by cases h
theorem cacheFresh_lifted (os : Os) (started : os.Started) (H : Type) (enc : TypeId × Value → H) :
    ReturnsInHanded {} Try.checked os 4 .any (Rows.cacheFreshSpec.pre6 enc Try.prog Try.f4 Rows.cacheFreshRow.domain false) (Rows.cacheFreshSpec.post enc Try.prog Try.f4 false true false false) := by
  refine returnsInHanded_of_change_sized (C := Try.checked) own started (by kernel_rfl) Try.func4
    (ChangeSpec.witness6 (enc := enc) (C := Try.checked) false ⟨#[], #[.slice none 0 0], []⟩ 8 (by kernel_rfl) (by kernel_rfl) (by kernel_rfl) (by kernel_rfl)) ?_
  intro W base args ds gs before hval hW hcnd hsz _
  refine law_contract (P := Try.prog) (ts := [33]) (bt := 4) (G := GG) laidOut (by rw [Try.params4]) (by kernel_rfl) Try.underlying4 (by kernel_rfl) rfl ?_ cacheFresh_all hval hW hsz gok
  intro ds h
  match ds, h with
  | [_], _ => rfl
theorem cacheFresh_over : Rows.cacheFreshRow.holds Try.pinned (OpenSpec.ofChange Rows.cacheFreshSpec) :=
  OpenClaim.holds_of_wide 4 Try.f4 rfl rfl rfl rfl rfl rfl rfl ⟨rfl, rfl, rfl, rfl, rfl⟩ rfl rfl rfl rfl rfl (by kernel_rfl) Try.func4 (by kernel_rfl)
    (of_decide_eq_true (by kernel_rfl)) (by unfold Func.isWrapper; first | (rw [if_pos (by decide +kernel)]; kernel_rfl) | (rw [if_neg (by decide +kernel)]; exact ⟨rfl, rfl⟩))
    (fun os started H enc _ => cacheFresh_lifted os started H enc)
theorem cacheFresh_proved : Rows.CacheFreshSaid := cacheFresh_over
#print axioms cacheFresh_proved
end Go.Proofs.Ytggehonedmbnjaa
