/- The law TakeoverKeeps: the walk through its code and the claim. -/
import Derived.Test.YtegbenagmciegaaGreatDoorKeepsL
namespace Go.Proofs.YtegbenagmciegaaGreatDoor
open Go Go.Sx Go.ChangeShapes Go.WideShapes Go.ChangeAt Go.WideMaps Go.WideElems Go.RowKit
set_option linter.unusedVariables false
set_option linter.unusedSimpArgs false
set_option maxRecDepth 100000
theorem takeoverKeeps_lifted (os : Os) (started : os.Started) (H : Type) (enc : TypeId × Value → H) :
    ReturnsInHanded {} Tryz.checked os 4 .any (fun w args => (Rows.takeoverKeepsSpec.pre enc Tryz.prog Tryz.f4 [] false w args ∧ laidMetH Tryz.prog laidL w) ∧ sizedMet enc Tryz.prog Tryz.f4 (OpenSpec.ofChange Rows.takeoverKeepsSpec) false w args)
      (Rows.takeoverKeepsSpec.post enc Tryz.prog Tryz.f4 false true false false) := by
  refine returnsInHanded_of_change_and (C := Tryz.checked) (X := fun w _ => laidMetH Tryz.prog laidL w) (fun _ _ _ hh h => h.of_heap hh) own started (by kernel_rfl) Tryz.func4
    (ChangeSpec.witness_shaped (enc := enc) (C := Tryz.checked) (os := os) (X := fun w _ => laidMetH Tryz.prog laidL w) false (World.doorLaid Tryz.prog 400 os) #[.slice none 0 0] 8 rfl (World.shaped_of_RefB (by kernel_rfl) (by kernel_rfl)) (by kernel_rfl) (by kernel_rfl) (by kernel_rfl) (door_met os _)) ?_
  intro W base args ds gs before hval hW hcnd hsz hL _
  refine law_contract (P := Tryz.prog) (ts := [22]) (bt := 4) (G := GG) laidOut (by rw [Tryz.params4]) (by kernel_rfl) Tryz.underlying4 (by kernel_rfl) rfl ?_ takeoverKeeps_all hval hW hsz (gok hL)
  intro ds h
  match ds, h with
  | [_], _ => rfl
theorem takeoverKeeps_over : Rows.takeoverKeepsRow.holds Tryz.pinned (OpenSpec.ofChange Rows.takeoverKeepsSpec) :=
  OpenClaim.holds_of_wide 4 Tryz.f4 rfl rfl rfl rfl rfl rfl rfl ⟨rfl, rfl, rfl, rfl, rfl⟩ rfl rfl rfl rfl rfl (by kernel_rfl) Tryz.func4 (by kernel_rfl)
    (of_decide_eq_true (by kernel_rfl)) (by unfold Func.isWrapper; first | (rw [if_pos (by decide +kernel)]; kernel_rfl) | (rw [if_neg (by decide +kernel)]; exact ⟨rfl, rfl⟩))
    (fun os started H enc _ => takeoverKeeps_lifted os started H enc)
theorem takeoverKeeps_plain : ∀ t ∈ [22], Tryz.prog.wantsStandIn t = false := by
  intro t ht
  simp only [List.mem_cons, List.not_mem_nil, or_false] at ht
  rcases ht with rfl <;> kernel_rfl
theorem takeoverKeeps_proved : Rows.TakeoverKeepsCardSaid :=
  Claim7.holds_tied_plain_at .later [] [.data] true (true, "b01a978d79b23bb570124d2eddeea5731d9cb684bc1d25a1536c8487172713c4") false
    takeoverKeeps_over (fun _ h => by cases h) (by kernel_rfl) (fun _ h => by cases h) takeoverKeeps_row_tie rfl ⟨rfl, rfl⟩ (by kernel_rfl) rfl
    (fun f fn hf hfn => by
      obtain rfl : f = 4 := Option.some.inj ((show Tryz.prog.funcNamed Rows.takeoverKeepsRow.func = some 4 by kernel_rfl).symm.trans hf) |>.symm
      obtain rfl : fn = Tryz.f4 := (Option.some.inj (Tryz.func4.symm.trans hfn)).symm
      exact ⟨by kernel_rfl, fun j t ht => takeoverKeeps_plain t (by
        rw [Tryz.params4] at ht
        exact List.mem_of_getElem? (by simpa using ht))⟩)
    (by kernel_rfl)
#print axioms takeoverKeeps_proved
end Go.Proofs.YtegbenagmciegaaGreatDoor
