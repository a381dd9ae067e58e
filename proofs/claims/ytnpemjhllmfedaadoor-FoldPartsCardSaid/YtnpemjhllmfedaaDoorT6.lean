/- Contracts of functions that the law reaches: YtnpemjhllmfedaaDoorT6. Written for this claim. -/
import Derived.Test.YtnpemjhllmfedaaDoorBase
namespace Go.Proofs.YtnpemjhllmfedaaDoor
open Go Go.Sx Go.ChangeShapes Go.WideShapes Go.ChangeAt Go.RowKit
set_option linter.unusedVariables false
set_option linter.unusedSimpArgs false
set_option maxRecDepth 100000
/-! lists of ranges, of bounds -/
theorem ranges_of {n : Nat} {g : Nat → Nat → D} (h : ∀ i, i < n → ∃ a b c d, g i 0 = .str a ∧ g i 1 = .bool b ∧ g i 2 = .str c ∧ g i 3 = .bool d) : ∃ xs : List Rng, xs.length = n ∧ LeS (.d (.list n 4 g)) (.d (encL encRng 4 xs)) := by
  obtain ⟨xs, h1, _, h2⟩ := list_of (α := Rng) (enc := encRng) (Q := fun _ => True) (k := 4) (fun _ => rfl) (len := n) (get := g) (fun i hi => by
    obtain ⟨a, b, c, d, e1, e2, e3, e4⟩ := h i hi
    exact ⟨(a, b, c, d), trivial, by simp [List.range_succ, encRng, e1, e2, e3, e4]⟩)
  exact ⟨xs, h1, LeS.d h2⟩
theorem ranges0 {l : List Int} {a : Nat} {n : Int} : (TapeOk l a ∧ 0 ≤ n ∧ n ≤ 100) → ∃ x : List Rng × Nat, ((x.1.length : Int) ≤ n ∧ TapeOk l x.2) ∧
    Sx.Spec Tryd.prog GG 21 [.ptr 1000 0, .d (.int .i64 n)] [(1000, tapeB l a)] (.d (encL encRng 4 x.1)) [(1000, tapeB l x.2)] := by
  rintro ⟨h, hn⟩
  have wn : IntKind.i64.wrap (n + 1) = n + 1 := wrap_of (by omega) (by omega)
  have cR : Tryd.prog.cellsOf 53 = 4 := by kernel_rfl
  have bR : Tryd.prog.bytesOf 53 = 48 := by kernel_rfl
  refine spec_some (E := EE) (fn := Tryd.f21) _ _ _ false eok (by kernel_rfl) (by kernel_rfl) Tryd.call21 (by kernel_rfl) (fun _ => by kernel_rfl) (fun _ => by kernel_rfl) ?_
  conv => whnf
  repeat' first
    | (refine call_some_if (next_ex _) (fun _ => by first | exact .inl rfl | exact .inr ⟨rfl, rfl⟩) (need_intro ?_ ?_); rintro ⟨v, b⟩ ⟨⟨h1, h2⟩, h3⟩; (conv => whnf))
    | (refine bc_true (by assumption) ?_; (conv => whnf))
    | (refine bc_false (by assumption) ?_; (conv => whnf))
    | (refine bc_intro (fun _ => ?_) (fun _ => ?_) <;> (conv => whnf))
    | (refine need_intro ?_ ?_; (conv => whnf))
    | (refine wk_refl ?_; (conv => whnf))
    | (refine draw_intro (by kernel_rfl) ?_; (conv => whnf))
    | (refine ord_intro (by kernel_rfl) ?_; (conv => whnf))
  · rw [wn] at h2
    refine loop_auto [0] [] (fun x : Int × List Rng × Nat => [(6, .d (.int .i64 x.1)), (5, .osl 500 4 0 x.2.1.length)]) (fun x => [(1000, tapeB l x.2.2), (500, .row 53 4 x.2.1.length (cellOf encRng x.2.1))]) (fun x => (0 ≤ x.1 ∧ x.1 ≤ n) ∧ ((x.2.1.length : Int) ≤ n - x.1) ∧ TapeOk l x.2.2) (fun x => x.1.toNat) (v, [], b) ?_ (fun x hx => ?_) ⟨by simp only; omega, by simp; omega, h3⟩
    · conv => whnf
      repeat' first
        | (refine bc_true (by assumption) ?_; (conv => whnf))
        | (refine bc_false (by assumption) ?_; (conv => whnf))
        | (refine bc_intro (fun _ => ?_) (fun _ => ?_) <;> (conv => whnf))
        | (refine need_intro ?_ ?_; (conv => whnf))
        | (refine wk_refl ?_; (conv => whnf))
        | (refine draw_intro (by kernel_rfl) ?_; (conv => whnf))
        | (refine ord_intro (by kernel_rfl) ?_; (conv => whnf))
      all_goals first | exact ⟨rfl, rfl⟩ | exact ⟨rfl, rfl, rfl⟩ | exact DLe.refl _ | exact RowLe.refl _ _ _ | exact trivial
    · obtain ⟨i, o, c⟩ := x
      obtain ⟨hi, ho, hc⟩ := hx
      simp only at hi ho hc
      have hs : 0 < i → IntKind.i64.wrap (i - 1) = i - 1 := fun _ => wrap_of (by omega) (by omega)
      conv => whnf
      repeat' first
        | (refine call_some_if (proper_ex _) (fun _ => by first | exact .inl rfl | exact .inr ⟨rfl, rfl⟩) (need_intro ?_ ?_); rintro ⟨k, t, k2, t2, b⟩ ⟨⟨h1, h2, h4⟩, h3⟩; (conv => whnf))
        | (refine call_some_if (bool_ex _) (fun _ => by first | exact .inl rfl | exact .inr ⟨rfl, rfl⟩) (need_intro ?_ ?_); rintro ⟨v, b⟩ h1; (conv => whnf))
        | (refine call_some_if (range_ex _) (fun _ => by first | exact .inl rfl | exact .inr ⟨rfl, rfl⟩) (need_intro ?_ ?_); rintro ⟨k, t, k2, t2, b⟩ ⟨h1, h2, h3⟩; (conv => whnf))
        | (refine NextVC.mk (i - 1, o ++ [(k, t, k2, t2)], b) ?_ ?_ ?_; (conv => whnf))
        | (refine bc_true (by assumption) ?_; (conv => whnf))
        | (refine bc_false (by assumption) ?_; (conv => whnf))
        | (refine bc_intro (fun _ => ?_) (fun _ => ?_) <;> (conv => whnf))
        | (refine need_intro ?_ ?_; (conv => whnf))
        | (refine wk_refl ?_; (conv => whnf))
        | (refine draw_intro (by kernel_rfl) ?_; (conv => whnf))
        | (refine ord_intro (by kernel_rfl) ?_; (conv => whnf))
      all_goals try simp only [decide_eq_true_eq, decide_eq_false_iff_not, beq_iff_eq, beq_eq_false_iff_ne, letterS_len] at *
      all_goals try first
        | assumption
        | exact ⟨by assumption, by omega, by omega⟩
        | exact ⟨by omega, by omega, by omega⟩
        | exact ⟨by omega, by omega⟩
      all_goals try simp only [cR, bR, true_and, and_true] at *
      all_goals first
        | exact trivial
        | omega
        | exact DLe.refl _
        | exact DLe.of_eq (by rw [hs (by omega)])
        | exact ⟨by omega, by omega⟩
        | (simp only [List.length_append, List.length_singleton]; done)
        | (simp only [List.length_append, List.length_singleton]; exact row_snocA rfl (RowLe.refl _ _ _) (by repeat' first | exact trivial | exact DLe.of_eq rfl | apply And.intro))
        | exact ⟨⟨by omega, by omega⟩, by simp only [List.length_append, List.length_singleton]; omega, by assumption⟩
        | (have e : i = 0 := by omega
           subst e
           rw [Int.sub_zero] at ho
           exact ⟨(_, _), ⟨ho, by assumption⟩, les_own rfl, LeL.refl _, trivial⟩)
        | trace_state
  · exact ⟨h, by rw [wn]; omega, by rw [wn]; omega⟩
theorem ranges_ex (m : Nat) {l : List Int} {a : Nat} {n : Int} : (TapeOk l a ∧ 0 ≤ n ∧ n ≤ 100) → ∃ x : List Rng × Nat, ((x.1.length : Int) ≤ n ∧ TapeOk l x.2) ∧
    Sx.Spec Tryd.prog GG 21 [.ptr m 0, .d (.int .i64 n)] [(m, tapeB l a)] (.d (encL encRng 4 x.1)) [(m, tapeB l x.2)] := fun h => by
  obtain ⟨x, hx, hs⟩ := ranges0 h
  exact ⟨x, hx, hs.at m⟩

