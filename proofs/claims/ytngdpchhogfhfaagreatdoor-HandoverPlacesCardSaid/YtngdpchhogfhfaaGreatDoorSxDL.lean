/- Part of a symbolic executor over the model, proved sound, with plain laws: SxDL. Written for these claims. -/
import Derived.Test.YtngdpchhogfhfaaGreatDoorSxArg
set_option linter.unusedVariables false
set_option linter.unusedSimpArgs false
namespace Go.Sx
open Go
/-- data, cell by cell, that says no more -/
structure DL (xs ys : List D) : Prop where
  len : xs.length = ys.length
  le : ∀ j, j < xs.length → DLe (xs.getD j default) (ys.getD j default)
theorem DL.nil : DL [] [] := ⟨rfl, fun j h => absurd h (Nat.not_lt_zero _)⟩
theorem DL.cons {x y : D} {xs ys : List D} (h : DLe x y) (hs : DL xs ys) : DL (x :: xs) (y :: ys) := by
  refine ⟨by simp [hs.len], fun j hj => ?_⟩
  cases j with
  | zero => exact h
  | succ j =>
    have := hs.le j (by simpa using hj)
    simpa [List.getD] using this
theorem DL.refl : ∀ (xs : List D), DL xs xs := fun xs => ⟨rfl, fun _ _ => DLe.refl _⟩
theorem DL.app {a b c d : List D} (h : DL a c) (k : DL b d) : DL (a ++ b) (c ++ d) := by
  refine ⟨by simp [h.len, k.len], fun j hj => ?_⟩
  simp only [List.getD]
  by_cases hl : j < a.length
  · rw [List.getElem?_append_left hl, List.getElem?_append_left (by rw [← h.len]; exact hl)]
    exact h.le j hl
  · rw [List.getElem?_append_right (by omega), List.getElem?_append_right (by rw [← h.len]; omega), ← h.len]
    simp only [List.length_append] at hj
    exact k.le _ (by omega)
theorem DL.one {x y : D} (h : LeL [.d x] [.d y]) : DL [x] [y] :=
  DL.cons ⟨fun I w v hv => by
    have := h.le I (fun _ => ⟨0, 0, 0, 0, 0⟩) w [v] (by simp only [RepL]; exact ⟨v, [], rfl, by simpa only [RepS] using hv, rfl⟩)
    simp only [RepL] at this
    obtain ⟨u, r, e, h1, rfl⟩ := this
    simp only [List.cons.injEq, and_true] at e
    subst e
    simpa only [RepS] using h1⟩ DL.nil
end Go.Sx
