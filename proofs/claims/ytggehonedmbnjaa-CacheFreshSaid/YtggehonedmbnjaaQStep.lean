/- Contracts of functions that the law reaches: YtggehonedmbnjaaQStep. Written for this claim. -/
import Derived.Test.YtggehonedmbnjaaQTap
namespace Go.Proofs.Ytggehonedmbnjaa
open Go Go.Sx Go.ChangeShapes Go.WideShapes Go.ChangeAt Go.RowKit
set_option linter.unusedVariables false
set_option linter.unusedSimpArgs false
set_option maxRecDepth 100000
/-! one drawn step; what is read -/
theorem lsB_nil : LsB [] := ⟨by simp, by simp, by simp⟩
theorem four_ex (k : List UInt8) {i : Nat} (h : i < 4) : ∃ q : List UInt8, [D.str [97], D.str [98], D.str [], D.str k].getD (i * Try.prog.cellsOf 9 + 0) default = .str q := by
  rw [show Try.prog.cellsOf 9 = 1 by kernel_rfl]
  match i, h with
  | 0, _ => exact ⟨_, rfl⟩
  | 1, _ => exact ⟨_, rfl⟩
  | 2, _ => exact ⟨_, rfl⟩
  | 3, _ => exact ⟨_, rfl⟩
theorem send_b {l : List LseT} {node : Int} {k v : List UInt8} {has : Bool} (h : LsB l) : LsB (sendL l node k v has).1 := by
  by_cases he : (sendL l node k v has).2 = 0
  · exact (StepL.send he).b h
  · have : (sendL l node k v has).1 = [] := by
      revert he; unfold sendL; simp only
      repeat' split
      all_goals simp
    rw [this]; exact lsB_nil
theorem arrive_b {l : List LseT} {node : Int} {k : List UInt8} (h : LsB l) : LsB (arriveL l node k).1 := by
  by_cases he : (arriveL l node k).2 = 0
  · exact (StepL.arrive he).b h
  · have : (arriveL l node k).1 = [] := by
      revert he; unfold arriveL; simp only
      repeat' split
      all_goals simp
    rw [this]; exact lsB_nil
theorem begin_b {l : List LseT} {w : Wr} (h : LsB l) : LsB (beginL l w).1 := by
  by_cases he : (beginL l w).2 = 0
  · exact (StepL.begin he).b h
  · have : (beginL l w).1 = [] := by
      revert he; unfold beginL; simp only
      repeat' split
      all_goals simp
    rw [this]; exact lsB_nil
theorem drop_b {l : List LseT} {node : Int} {k : List UInt8} (h : LsB l) : LsB (dropL l node k).1 := by
  by_cases he : (dropL l node k).2 = 0
  · exact (StepL.drop he).b h
  · have : (dropL l node k).1 = [] := by
      revert he; unfold dropL; simp only
      repeat' split
      all_goals simp
    rw [this]; exact lsB_nil
theorem finish_b {l : List LseT} {k : List UInt8} (h : LsB l) : LsB (finishL l k).1.1 := by
  by_cases he : (finishL l k).2 = 0
  · exact (StepL.finish he).b h
  · have : (finishL l k).1.1 = [] := by
      revert he; unfold finishL; simp only
      repeat' split
      all_goals simp
    rw [this]; exact lsB_nil
end Go.Proofs.Ytggehonedmbnjaa
