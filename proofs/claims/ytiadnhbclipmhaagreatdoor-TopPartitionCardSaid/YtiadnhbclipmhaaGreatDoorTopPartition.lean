/- The law TopPartition: the walk through its code and the claim. -/
import Derived.Test.YtiadnhbclipmhaaGreatDoorTP35
namespace Go.Proofs.YtiadnhbclipmhaaGreatDoor
open Go Go.Sx Go.ChangeShapes Go.WideShapes Go.ChangeAt Go.WideMaps Go.WideElems Go.RowKit
set_option linter.unusedVariables false
set_option linter.unusedSimpArgs false
set_option maxRecDepth 100000
theorem topPartition_lifted (os : Os) (started : os.Started) (H : Type) (enc : TypeId × Value → H) :
    ReturnsInHanded {} Tryz.checked os 3 .any (fun w args => (Rows.topPartitionSpec.pre enc Tryz.prog Tryz.f3 [] false w args ∧ laidMetH Tryz.prog laidL w) ∧ sizedMet enc Tryz.prog Tryz.f3 (OpenSpec.ofChange Rows.topPartitionSpec) false w args)
      (Rows.topPartitionSpec.post enc Tryz.prog Tryz.f3 false true false false) := by
  refine returnsInHanded_of_change_and (C := Tryz.checked) (X := fun w _ => laidMetH Tryz.prog laidL w) (fun _ _ _ hh h => h.of_heap hh) own started (by kernel_rfl) Tryz.func3
    (ChangeSpec.witness_shaped (enc := enc) (C := Tryz.checked) (os := os) (X := fun w _ => laidMetH Tryz.prog laidL w) false (World.doorLaid Tryz.prog 400 os) #[.slice none 0 0] 8 rfl (World.shaped_of_RefB (by kernel_rfl) (by kernel_rfl)) (by kernel_rfl) (by kernel_rfl) (by kernel_rfl) (door_met os _)) ?_
  intro W base args ds gs before hval hW hcnd hsz hL _
  refine law_contract (P := Tryz.prog) (ts := [22]) (bt := 4) (G := GG) laidOut (by rw [Tryz.params3]) (by kernel_rfl) Tryz.underlying4 (by kernel_rfl) rfl ?_ topPartition_all hval hW hsz (gok hL)
  intro ds h
  match ds, h with
  | [_], _ => rfl
theorem topPartition_over : Rows.topPartitionRow.holds Tryz.pinned (OpenSpec.ofChange Rows.topPartitionSpec) :=
  OpenClaim.holds_of_wide 3 Tryz.f3 rfl rfl rfl rfl rfl rfl rfl ⟨rfl, rfl, rfl, rfl, rfl⟩ rfl rfl rfl rfl rfl (by kernel_rfl) Tryz.func3 (by kernel_rfl)
    (of_decide_eq_true (by kernel_rfl)) (by unfold Func.isWrapper; first | (rw [if_pos (by decide +kernel)]; kernel_rfl) | (rw [if_neg (by decide +kernel)]; exact ⟨rfl, rfl⟩))
    (fun os started H enc _ => topPartition_lifted os started H enc)
theorem topPartition_plain : ∀ t ∈ [22], Tryz.prog.wantsStandIn t = false := by
  intro t ht
  simp only [List.mem_cons, List.not_mem_nil, or_false] at ht
  rcases ht with rfl <;> kernel_rfl
theorem topPartition_proved : Rows.TopPartitionCardSaid :=
  Claim7.holds_tied_plain_at .later [] [.data, .data] true (true, "35c5629f0196eaee72006835843c7488909b98f0ffa5f1f6c9daeec3957c7944") false
    topPartition_over (fun _ h => by cases h) (by kernel_rfl) (fun _ h => by cases h) topPartition_row_tie rfl ⟨rfl, rfl⟩ (by kernel_rfl) rfl
    (fun f fn hf hfn => by
      obtain rfl : f = 3 := Option.some.inj ((show Tryz.prog.funcNamed Rows.topPartitionRow.func = some 3 by kernel_rfl).symm.trans hf) |>.symm
      obtain rfl : fn = Tryz.f3 := (Option.some.inj (Tryz.func3.symm.trans hfn)).symm
      exact ⟨by kernel_rfl, fun j t ht => topPartition_plain t (by
        rw [Tryz.params3] at ht
        exact List.mem_of_getElem? (by simpa using ht))⟩)
    (by kernel_rfl)
#print axioms topPartition_proved
end Go.Proofs.YtiadnhbclipmhaaGreatDoor
