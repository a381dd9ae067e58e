/- The law HandoverRows: the walk through its code and the claim. -/
import Derived.Test.YtapddnfjngfloaaGreatDoorRowsL
namespace Go.Proofs.YtapddnfjngfloaaGreatDoor
open Go Go.Sx Go.ChangeShapes Go.WideShapes Go.ChangeAt Go.WideMaps Go.WideElems Go.RowKit
set_option linter.unusedVariables false
set_option linter.unusedSimpArgs false
set_option maxRecDepth 100000
theorem handoverRows_lifted (os : Os) (started : os.Started) (H : Type) (enc : TypeId × Value → H) :
    ReturnsInHanded {} Tryz.checked os 8 .any (fun w args => (Rows.handoverRowsSpec.pre enc Tryz.prog Tryz.f8 [] false w args ∧ laidMetH Tryz.prog laidL w) ∧ sizedMet enc Tryz.prog Tryz.f8 (OpenSpec.ofChange Rows.handoverRowsSpec) false w args)
      (Rows.handoverRowsSpec.post enc Tryz.prog Tryz.f8 false true false false) := by
  refine returnsInHanded_of_change_and (C := Tryz.checked) (X := fun w _ => laidMetH Tryz.prog laidL w) (fun _ _ _ hh h => h.of_heap hh) own started (by kernel_rfl) Tryz.func8
    (ChangeSpec.witness_shaped (enc := enc) (C := Tryz.checked) (os := os) (X := fun w _ => laidMetH Tryz.prog laidL w) false (World.doorLaid Tryz.prog 400 os) #[.slice none 0 0] 8 rfl (World.shaped_of_RefB (by kernel_rfl) (by kernel_rfl)) (by kernel_rfl) (by kernel_rfl) (by kernel_rfl) (door_met os _)) ?_
  intro W base args ds gs before hval hW hcnd hsz hL _
  refine law_contract (P := Tryz.prog) (ts := [22]) (bt := 4) (G := GG) laidOut (by rw [Tryz.params8]) (by kernel_rfl) Tryz.underlying4 (by kernel_rfl) rfl ?_ handoverRows_all hval hW hsz (gok hL)
  intro ds h
  match ds, h with
  | [_], _ => rfl
theorem handoverRows_over : Rows.handoverRowsRow.holds Tryz.pinned (OpenSpec.ofChange Rows.handoverRowsSpec) :=
  OpenClaim.holds_of_wide 8 Tryz.f8 rfl rfl rfl rfl rfl rfl rfl ⟨rfl, rfl, rfl, rfl, rfl⟩ rfl rfl rfl rfl rfl (by kernel_rfl) Tryz.func8 (by kernel_rfl)
    (of_decide_eq_true (by kernel_rfl)) (by unfold Func.isWrapper; first | (rw [if_pos (by decide +kernel)]; kernel_rfl) | (rw [if_neg (by decide +kernel)]; exact ⟨rfl, rfl⟩))
    (fun os started H enc _ => handoverRows_lifted os started H enc)
theorem handoverRows_plain : ∀ t ∈ [22], Tryz.prog.wantsStandIn t = false := by
  intro t ht
  simp only [List.mem_cons, List.not_mem_nil, or_false] at ht
  rcases ht with rfl <;> kernel_rfl
theorem handoverRows_proved : Rows.HandoverRowsCardSaid :=
  Claim7.holds_tied_plain_at .later [] [.data] true (true, "cc23f5f6e7033233ec7a3d9f6085bb1cd45d467f0402e6542d17a976746fe788") false
    handoverRows_over (fun _ h => by cases h) (by kernel_rfl) (fun _ h => by cases h) handoverRows_row_tie rfl ⟨rfl, rfl⟩ (by kernel_rfl) rfl
    (fun f fn hf hfn => by
      obtain rfl : f = 8 := Option.some.inj ((show Tryz.prog.funcNamed Rows.handoverRowsRow.func = some 8 by kernel_rfl).symm.trans hf) |>.symm
      obtain rfl : fn = Tryz.f8 := (Option.some.inj (Tryz.func8.symm.trans hfn)).symm
      exact ⟨by kernel_rfl, fun j t ht => handoverRows_plain t (by
        rw [Tryz.params8] at ht
        exact List.mem_of_getElem? (by simpa using ht))⟩)
    (by kernel_rfl)
#print axioms handoverRows_proved
end Go.Proofs.YtapddnfjngfloaaGreatDoor
