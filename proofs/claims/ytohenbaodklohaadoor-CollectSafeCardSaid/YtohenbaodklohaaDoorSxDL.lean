/- Part of a symbolic executor over the model, proved sound, with plain laws: SxDL. Written for these claims. -/
import Derived.Test.YtohenbaodklohaaDoorSxArg
import Derived.Test.YtohenbaodklohaaDoorSxTool
namespace Go.Sx
open Go
set_option linter.unusedVariables false
set_option linter.unusedSimpArgs false

/-! arguments whose lists hold lists -/
/-- data, cell by cell, that says no more -/
structure DL (xs ys : List D) : Prop where
  len : xs.length = ys.length
  le : ∀ j, j < xs.length → DLe (xs.getD j default) (ys.getD j default)
theorem DL.nil : DL [] [] := ⟨rfl, fun j h => absurd h (Nat.not_lt_zero _)⟩
theorem DL.cons {x y : D} {xs ys : List D} (h : DLe x y) (hs : DL xs ys) : DL (x :: xs) (y :: ys) := by
  refine ⟨by simp [hs.len], fun j hj => ?_⟩
  cases j with
  | zero => exact h
  | succ j =>
    have := hs.le j (by simpa using hj)
    simpa [List.getD] using this
theorem DL.refl : ∀ (xs : List D), DL xs xs := fun xs => ⟨rfl, fun _ _ => DLe.refl _⟩
theorem DL.app {a b c d : List D} (h : DL a c) (k : DL b d) : DL (a ++ b) (c ++ d) := by
  refine ⟨by simp [h.len, k.len], fun j hj => ?_⟩
  simp only [List.getD]
  by_cases hl : j < a.length
  · rw [List.getElem?_append_left hl, List.getElem?_append_left (by rw [← h.len]; exact hl)]
    exact h.le j hl
  · rw [List.getElem?_append_right (by omega), List.getElem?_append_right (by rw [← h.len]; omega), ← h.len]
    simp only [List.length_append] at hj
    exact k.le _ (by omega)
theorem DL.one {x y : D} (h : LeL [.d x] [.d y]) : DL [x] [y] :=
  DL.cons ⟨fun I w v hv => by
    have := h.le I (fun _ => ⟨0, 0, 0, 0, 0⟩) w [v] (by simp only [RepL]; exact ⟨v, [], rfl, by simpa only [RepS] using hv, rfl⟩)
    simp only [RepL] at this
    obtain ⟨u, r, e, h1, rfl⟩ := this
    simp only [List.cons.injEq, and_true] at e
    subst e
    simpa only [RepS] using h1⟩ DL.nil
theorem list_ofD {α : Type} [Inhabited α] {enc : α → List D} {Q : α → Prop} {k : Nat} (hk : ∀ x, (enc x).length = k) {len : Nat} {get : Nat → Nat → D} (h : ∀ i, i < len → ∃ x, Q x ∧ DL ((List.range k).map (get i)) (enc x)) :
    ∃ xs : List α, xs.length = len ∧ (∀ x ∈ xs, Q x) ∧ DLe (.list len k get) (encL enc k xs) := by
  let f : Nat → α := fun i => if hi : i < len then Classical.choose (h i hi) else default
  refine ⟨(List.range len).map f, by simp, ?_, DLe.rows (by simp) ⟨fun i j hi hj => ?_⟩⟩
  · intro x hx
    obtain ⟨i, hi, rfl⟩ := List.mem_map.1 hx
    have hi : i < len := List.mem_range.1 hi
    simp only [f, dif_pos hi]
    exact (Classical.choose_spec (h i hi)).1
  · have hi : i < len := by simpa using hi
    have e := (Classical.choose_spec (h i hi)).2
    have : ((List.range len).map f).getD i default = f i := by simp [List.getD, hi]
    simp only [cellOf, this, f, dif_pos hi]
    have h1 := e.le j (by simpa using hj)
    have h2 : ((List.range k).map (get i)).getD j default = get i j := by simp [List.getD, hj]
    rw [h2] at h1
    exact h1
end Go.Sx
