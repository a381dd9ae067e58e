/- Contracts of functions that the law reaches: YtngdpchhogfhfaaGreatDoorT7. Written for this claim. -/
import Derived.Test.YtngdpchhogfhfaaGreatDoorBase
namespace Go.Proofs.YtngdpchhogfhfaaGreatDoor
open Go Go.Sx Go.ChangeShapes Go.WideShapes Go.ChangeAt Go.RowKit
set_option linter.unusedVariables false
set_option linter.unusedSimpArgs false
set_option maxRecDepth 100000
theorem cut_row {o : List Bnd} {k n : Nat} (hk : k ≤ o.length) {bk : List UInt8} {bt : Bool} {g : Nat → Nat → D}
    (h : ∀ i j, j < 2 → g i j = if i < k + 1 then (if i < k then cellOf encBnd o i j else (encBnd (bk, bt)).getD j default) else cellOf encBnd o (k + (i - (k + 1))) j) : RowLe n 2 g (cellOf encBnd (o.take k ++ [(bk, bt)] ++ o.drop k)) := by
  refine .of_eq fun i j _ hj => ?_
  rw [h i j hj]
  have hl : (o.take k).length = k := by simp; omega
  unfold cellOf
  by_cases h1 : i < k + 1
  · rw [if_pos h1, getD_append_left (by simp; omega)]
    by_cases h2 : i < k
    · rw [if_pos h2, getD_append_left (by omega)]
      simp [List.getD, List.getElem?_take, h2]
    · rw [if_neg h2, getD_append_right (by omega)]
      have : i - (o.take k).length = 0 := by omega
      rw [this]; rfl
  · rw [if_neg h1, getD_append_right (by simp; omega)]
    simp only [List.length_append, hl, List.length_singleton]
    simp [List.getD]
theorem cut_len {o : List Bnd} {k : Nat} (hk : k ≤ o.length) {b : Bnd} : (o.take k ++ [b] ++ o.drop k).length = o.length + 1 := by
  simp; omega
set_option maxHeartbeats 4000000 in
theorem cuts0 {l : List Int} {a : Nat} {n : Int} : (TapeOk l a ∧ 0 ≤ n ∧ n ≤ 100) → ∃ x : List Bnd × Nat, ((x.1.length : Int) ≤ n ∧ TapeOk l x.2) ∧
    Sx.Spec Tryz.prog GG 48 [.ptr 1000 0, .d (.int .i64 n)] [(1000, tapeB l a)] (.d (encL encBnd 2 x.1)) [(1000, tapeB l x.2)] := by
  rintro ⟨h, hn⟩
  have wn : IntKind.i64.wrap (n + 1) = n + 1 := wrap_of (by omega) (by omega)
  have cB : Tryz.prog.cellsOf 47 = 2 := by kernel_rfl
  have bB : Tryz.prog.bytesOf 47 = 24 := by kernel_rfl
  refine spec_some (E := EE) (fn := Tryz.f48) _ _ _ false eok (by kernel_rfl) (by kernel_rfl) Tryz.call48 (by kernel_rfl) (fun _ => by kernel_rfl) (fun _ => by kernel_rfl) ?_
  conv => whnf
  repeat' first
    | (refine call_some_if (next_ex _) (fun _ => by first | exact .inl rfl | exact .inr ⟨rfl, rfl⟩) (need_intro ?_ ?_); rintro ⟨v, b⟩ ⟨⟨h1, h2⟩, h3⟩; (conv => whnf))
    | (refine bc_true (by assumption) ?_; (conv => whnf))
    | (refine bc_false (by assumption) ?_; (conv => whnf))
    | (refine bc_intro (fun _ => ?_) (fun _ => ?_) <;> (conv => whnf))
    | (refine need_intro ?_ ?_; (conv => whnf))
    | (refine wk_refl ?_; (conv => whnf))
    | (refine draw_intro (by kernel_rfl) ?_; (conv => whnf))
    | (refine ord_intro (by kernel_rfl) ?_; (conv => whnf))
  · rw [wn] at h2
    refine loop_auto [0] [] (fun x : Int × List Bnd × Nat => [(6, .d (.int .i64 x.1)), (5, .osl 500 2 0 x.2.1.length)]) (fun x => [(1000, tapeB l x.2.2), (500, .row 47 2 x.2.1.length (cellOf encBnd x.2.1))]) (fun x => (0 ≤ x.1 ∧ x.1 ≤ n) ∧ ((x.2.1.length : Int) ≤ n - x.1) ∧ TapeOk l x.2.2) (fun x => x.1.toNat) (v, [], b) ?_ (fun x hx => ?_) ⟨by simp only; omega, by simp; omega, h3⟩
    · conv => whnf
      repeat' first
        | (refine bc_true (by assumption) ?_; (conv => whnf))
        | (refine bc_false (by assumption) ?_; (conv => whnf))
        | (refine bc_intro (fun _ => ?_) (fun _ => ?_) <;> (conv => whnf))
        | (refine need_intro ?_ ?_; (conv => whnf))
        | (refine wk_refl ?_; (conv => whnf))
        | (refine draw_intro (by kernel_rfl) ?_; (conv => whnf))
        | (refine ord_intro (by kernel_rfl) ?_; (conv => whnf))
      all_goals first | exact ⟨rfl, rfl⟩ | exact ⟨rfl, rfl, rfl⟩ | exact DLe.refl _ | exact RowLe.refl _ _ _ | exact trivial
    · obtain ⟨i, o, c⟩ := x
      obtain ⟨hi, ho, hc⟩ := hx
      simp only at hi ho hc
      have hs : 0 < i → IntKind.i64.wrap (i - 1) = i - 1 := fun _ => wrap_of (by omega) (by omega)
      conv => whnf
      repeat' first
        | (refine call_some_if (bound_ex _) (fun _ => by first | exact .inl rfl | exact .inr ⟨rfl, rfl⟩) (need_intro ?_ ?_); rintro ⟨bk, bt, b⟩ ⟨h1, h2⟩; (conv => whnf))
        | (refine bc_true (by assumption) ?_; (conv => whnf))
        | (refine bc_false (by assumption) ?_; (conv => whnf))
        | (refine bc_intro (fun _ => ?_) (fun _ => ?_) <;> (conv => whnf))
        | (refine need_intro ?_ ?_; (conv => whnf))
        | (refine wk_refl ?_; (conv => whnf))
        | (refine draw_intro (by kernel_rfl) ?_; (conv => whnf))
        | (refine ord_intro (by kernel_rfl) ?_; (conv => whnf))
      · have hi1 : i > 0 := by simpa using ‹decide _ = true›
        refine loop_auto [0, 5, 6, 7] [500, 7] (fun x : Nat × Nat => [(8, .d (.int .i64 x.1))]) (fun x => [(1000, tapeB l x.2)]) (fun x => x.1 ≤ o.length ∧ TapeOk l x.2) (fun x => x.1) (o.length, _) ?_ (fun x hx => ?_) ⟨Nat.le_refl _, by assumption⟩
        · conv => whnf
          repeat' first
            | (refine bc_true (by assumption) ?_; (conv => whnf))
            | (refine bc_false (by assumption) ?_; (conv => whnf))
            | (refine bc_intro (fun _ => ?_) (fun _ => ?_) <;> (conv => whnf))
            | (refine need_intro ?_ ?_; (conv => whnf))
            | (refine wk_refl ?_; (conv => whnf))
            | (refine draw_intro (by kernel_rfl) ?_; (conv => whnf))
            | (refine ord_intro (by kernel_rfl) ?_; (conv => whnf))
          all_goals first | exact ⟨rfl, rfl⟩ | exact ⟨rfl, rfl, rfl⟩ | exact DLe.refl _ | exact RowLe.refl _ _ _ | exact trivial
        · obtain ⟨k, d⟩ := x
          obtain ⟨hk, hd⟩ := hx
          simp only at hk hd
          have hks : 0 < k → IntKind.i64.wrap ((k : Int) - 1) = ((k - 1 : Nat) : Int) := fun _ => by rw [wrap_of (by omega) (by omega)]; omega
          conv => whnf
          repeat' first
            | (refine call_intro (comparer_spec _ _ _ _) ?_ (by first | exact .inl rfl | exact .inr ⟨rfl, rfl⟩); (conv => whnf))
            | (refine call_intro (validBoundr_spec _ _) ?_ (by first | exact .inl rfl | exact .inr ⟨rfl, rfl⟩); (conv => whnf))
            | (refine call_some_if (bool_ex _) (fun _ => by first | exact .inl rfl | exact .inr ⟨rfl, rfl⟩) (need_intro ?_ ?_); rintro ⟨v, b⟩ h1; (conv => whnf))
            | (refine NextVC.mk (k - 1, b) ?_ ?_ ?_; (conv => whnf))
            | (refine bc_true (by assumption) ?_; (conv => whnf))
            | (refine bc_false (by assumption) ?_; (conv => whnf))
            | (refine bc_intro (fun _ => ?_) (fun _ => ?_) <;> (conv => whnf))
            | (refine need_intro ?_ ?_; (conv => whnf))
            | (refine wk_refl ?_; (conv => whnf))
            | (refine draw_intro (by kernel_rfl) ?_; (conv => whnf))
            | (refine ord_intro (by kernel_rfl) ?_; (conv => whnf))
          all_goals try simp only [decide_eq_true_eq, decide_eq_false_iff_not] at *
          all_goals try first
            | exact trivial
            | omega
            | exact DLe.refl _
            | exact RowLe.refl _ _ _
            | exact ⟨by assumption, by omega, by omega⟩
            | exact ⟨rfl, rfl, rfl⟩
            | exact ⟨trivial, trivial, trivial⟩
            | exact DLe.of_eq (by rw [hks (by omega)])
            | exact ⟨by omega, by assumption⟩
            | (rw [hks (by omega)]; omega)
            | (rw [hks (by omega)]; exact ⟨by omega, by omega⟩)
            | (refine NextVC.mk (i - 1, o, b) ?_ ?_ ?_
               (conv => whnf)
               repeat' (refine need_intro ?_ ?_; (conv => whnf))
               all_goals try simp only [cB, true_and, and_true, cut_len hk, Int.toNat_natCast] at *
               all_goals first
                 | exact trivial
                 | omega
                 | exact DLe.refl _
                 | exact RowLe.refl _ _ _
                 | exact DLe.of_eq (by rw [hs (by omega)])
                 | exact ⟨⟨by omega, by omega⟩, by omega, by assumption⟩
                 | exact ⟨⟨by omega, by omega⟩, by rw [cut_len hk]; omega, by assumption⟩
                 | (refine ⟨by simp, ?_⟩; simp; omega)
                 | (simp; omega)
                 | (exact cut_row hk (fun i j hj => by
                      simp only [Option.getD_none, Option.getD_some, Int.sub_zero, Int.toNat_natCast, Int.toNat_zero, Nat.zero_add, Nat.add_zero]
                      split
                      · split
                        · rfl
                        · rename_i h1 h2
                          have : i - k = 0 := by omega
                          rw [this]
                          exact jlt2 (p := fun j => _ = _) rfl rfl j hj
                      · rfl))
               done)
            | (refine NextVC.mk (i - 1, o.take k ++ [(bk, bt)] ++ o.drop k, b) ?_ ?_ ?_
               (conv => whnf)
               repeat' (refine need_intro ?_ ?_; (conv => whnf))
               all_goals try simp only [cB, true_and, and_true, cut_len hk, Int.toNat_natCast] at *
               all_goals first
                 | exact trivial
                 | omega
                 | exact DLe.refl _
                 | exact RowLe.refl _ _ _
                 | exact DLe.of_eq (by rw [hs (by omega)])
                 | exact ⟨⟨by omega, by omega⟩, by omega, by assumption⟩
                 | exact ⟨⟨by omega, by omega⟩, by rw [cut_len hk]; omega, by assumption⟩
                 | (refine ⟨by simp, ?_⟩; simp; omega)
                 | (simp; omega)
                 | (exact cut_row hk (fun i j hj => by
                      simp only [Option.getD_none, Option.getD_some, Int.sub_zero, Int.toNat_natCast, Int.toNat_zero, Nat.zero_add, Nat.add_zero]
                      split
                      · split
                        · rfl
                        · rename_i h1 h2
                          have : i - k = 0 := by omega
                          rw [this]
                          exact jlt2 (p := fun j => _ = _) rfl rfl j hj
                      · rfl))
               done)
            | (refine NextVC.mk (i - 1, o.take k ++ [(bk, bt)] ++ o.drop k, d) ?_ ?_ ?_
               (conv => whnf)
               repeat' (refine need_intro ?_ ?_; (conv => whnf))
               all_goals try simp only [cB, true_and, and_true, cut_len hk, Int.toNat_natCast] at *
               all_goals first
                 | exact trivial
                 | omega
                 | exact DLe.refl _
                 | exact RowLe.refl _ _ _
                 | exact DLe.of_eq (by rw [hs (by omega)])
                 | exact ⟨⟨by omega, by omega⟩, by omega, by assumption⟩
                 | exact ⟨⟨by omega, by omega⟩, by rw [cut_len hk]; omega, by assumption⟩
                 | (refine ⟨by simp, ?_⟩; simp; omega)
                 | (simp; omega)
                 | (exact cut_row hk (fun i j hj => by
                      simp only [Option.getD_none, Option.getD_some, Int.sub_zero, Int.toNat_natCast, Int.toNat_zero, Nat.zero_add, Nat.add_zero]
                      split
                      · split
                        · rfl
                        · rename_i h1 h2
                          have : i - k = 0 := by omega
                          rw [this]
                          exact jlt2 (p := fun j => _ = _) rfl rfl j hj
                      · rfl))
               done)
          all_goals simp only [Option.getD_none, Option.getD_some, cB, bB, true_and]
          all_goals first
            | omega
            | exact ⟨by omega, by omega⟩
            | exact ⟨by omega, by omega, by omega⟩
      · exact hc
      · have e : i = 0 := by simp at *; omega
        subst e
        rw [Int.sub_zero] at ho
        exact ⟨(_, _), ⟨ho, by assumption⟩, les_own rfl, LeL.refl _, trivial⟩
  · exact ⟨h, by rw [wn]; omega, by rw [wn]; omega⟩
set_option maxHeartbeats 2000000 in
theorem cuts_ex (m : Nat) {l : List Int} {a : Nat} {n : Int} : (TapeOk l a ∧ 0 ≤ n ∧ n ≤ 100) → ∃ x : List Bnd × Nat, ((x.1.length : Int) ≤ n ∧ TapeOk l x.2) ∧
    Sx.Spec Tryz.prog GG 48 [.ptr m 0, .d (.int .i64 n)] [(m, tapeB l a)] (.d (encL encBnd 2 x.1)) [(m, tapeB l x.2)] := fun h => by
  obtain ⟨x, hx, hs⟩ := cuts0 h
  exact ⟨x, hx, hs.at m⟩
end Go.Proofs.YtngdpchhogfhfaaGreatDoor
