/- Contracts of functions that the law reaches: YtegbenagmciegaaGreatDoorTapeC. Written for this claim. -/
import Derived.Test.YtegbenagmciegaaGreatDoorTape
import Derived.Test.YtegbenagmciegaaGreatDoorSxTab
namespace Go.Proofs.YtegbenagmciegaaGreatDoor
open Go Go.Sx Go.ChangeShapes Go.WideShapes Go.ChangeAt Go.RowKit
set_option linter.unusedVariables false
set_option linter.unusedSimpArgs false
set_option maxRecDepth 100000



set_option maxHeartbeats 4000000 in
theorem copy0 {l : List Int} {a : Nat} : TapeOk l a → ∃ x : CopyT × Nat, (CopyB 10 x.1 ∧ TapeOk l x.2) ∧ Sx.Spec Tryz.prog GG 13 [.ptr 1000 0] [(1000, tapeB l a)] (.agg (copyL x.1)) [(1000, tapeB l x.2)] := by
  intro h
  refine spec_some (E := EE) (fn := Tryz.f13) _ _ _ false eok (by kernel_rfl) (by kernel_rfl) Tryz.call13 (by kernel_rfl) (fun _ => by kernel_rfl) (fun _ => by kernel_rfl) ?_
  conv => whnf
  repeat' first
    | (refine call_some_if (proper_ex _) (fun _ => by first | exact .inl rfl | exact .inr ⟨rfl, rfl⟩) (need_intro ?_ ?_); rintro ⟨k, t, k2, t2, b⟩ ⟨⟨h1, h2, h4⟩, h3⟩; (conv => whnf))
    | (refine call_some_if (bool_ex _) (fun _ => by first | exact .inl rfl | exact .inr ⟨rfl, rfl⟩) (need_intro ?_ ?_); rintro ⟨v, b⟩ h1; (conv => whnf))
    | (refine bc_true (by assumption) ?_; (conv => whnf))
    | (refine bc_false (by assumption) ?_; (conv => whnf))
    | (refine need_intro ?_ ?_; (conv => whnf))
    | (refine wk_refl ?_; (conv => whnf))
    | (refine draw_intro (by kernel_rfl) ?_; (conv => whnf))
    | (refine ord_intro (by kernel_rfl) ?_; (conv => whnf))
  all_goals try first
    | assumption
    | exact ⟨by assumption, by omega, by omega⟩
  refine join_auto [0, 2, 3] [2] (fun x : Rng × Nat => []) (fun x => [(3, .box (rngL x.1)), (1000, tapeB l x.2)]) (fun x => ((x.1.1.length : Int) ≤ 65 ∧ (x.1.2.2.1.length : Int) ≤ 65) ∧ TapeOk l x.2) (fun _ => ?_) (fun _ => ?_) ?_
  · conv => whnf
    repeat' first
      | (refine JoinVC.mk ((k, t, k, t), b) ?_ ?_; (conv => whnf))
      | (refine bc_true (by assumption) ?_; (conv => whnf))
      | (refine bc_false (by assumption) ?_; (conv => whnf))
      | (refine need_intro ?_ ?_; (conv => whnf))
      | (refine wk_refl ?_; (conv => whnf))
      | (refine draw_intro (by kernel_rfl) ?_; (conv => whnf))
      | (refine ord_intro (by kernel_rfl) ?_; (conv => whnf))
    all_goals first | exact trivial | exact DLe.refl _ | assumption | exact ⟨⟨by assumption, by assumption⟩, by assumption⟩
  · conv => whnf
    repeat' first
      | (refine JoinVC.mk ((k, t, k2, t2), b) ?_ ?_; (conv => whnf))
      | (refine bc_true (by assumption) ?_; (conv => whnf))
      | (refine bc_false (by assumption) ?_; (conv => whnf))
      | (refine need_intro ?_ ?_; (conv => whnf))
      | (refine wk_refl ?_; (conv => whnf))
      | (refine draw_intro (by kernel_rfl) ?_; (conv => whnf))
      | (refine ord_intro (by kernel_rfl) ?_; (conv => whnf))
    all_goals first | exact trivial | exact DLe.refl _ | assumption | exact ⟨⟨by assumption, by assumption⟩, by assumption⟩
  rintro ⟨⟨k, t, k2, t2⟩, b⟩ ⟨⟨hk, hk'⟩, hb⟩
  have hk : (k.length : Int) ≤ 65 := hk
  have hk' : (k2.length : Int) ≤ 65 := hk'
  conv => whnf
  repeat' first
    | (refine call_some_if (stamp_ex _) (fun _ => by first | exact .inl rfl | exact .inr ⟨rfl, rfl⟩) (need_intro ?_ ?_); rintro ⟨e, v, b⟩ ⟨⟨h1, h5, h6⟩, h2⟩; (conv => whnf))
    | (refine call_some_if (rowsIn_ex _) (fun _ => by first | exact .inl rfl | exact .inr ⟨rfl, rfl⟩) (need_intro ?_ ?_); rintro ⟨rows, b⟩ ⟨hr, h3⟩; (conv => whnf))
    | (refine call_intro (emptyRr_spec _ _ _ _) ?_ (by first | exact .inl rfl | exact .inr ⟨rfl, rfl⟩); (conv => whnf))
    | (refine bc_true (by assumption) ?_; (conv => whnf))
    | (refine bc_false (by assumption) ?_; (conv => whnf))
    | (refine need_intro ?_ ?_; (conv => whnf))
    | (refine wk_refl ?_; (conv => whnf))
    | (refine draw_intro (by kernel_rfl) ?_; (conv => whnf))
    | (refine ord_intro (by kernel_rfl) ?_; (conv => whnf))
  all_goals try first
    | assumption
    | exact ⟨by assumption, by omega, by omega⟩
  have c1 : (rows.length : Int) ≤ 4 := hr.len
  have hc0 : CopyB 10 ⟨k, t, k2, t2, e, v, rows, [], noPart, noPart, 0, 0⟩ := ⟨by simp only; omega, by simp, noPart_b, noPart_b, i64_zero, i64_zero, h5, h6, by simp only; omega, by simp only; omega⟩
  refine join_auto [0, 2, 3, 4] [2, 3] (fun x : CopyT × Nat => []) (fun x => [(4, .box (copyP 500 x.1)), (500, .row 58 3 x.1.pend.length (cellOf encWr x.1.pend)), (1000, tapeB l x.2)]) (fun x => (CopyB 10 x.1 ∧ x.1.pend.length ≤ 3) ∧ TapeOk l x.2) (fun hne => ?_) (fun _ => ?_) ?_
  · simp only [Bool.not_eq_true', Bool.not_eq_false'] at hne
    conv => whnf
    repeat' first
      | (refine call_some_if (next_ex _) (fun _ => by first | exact .inl rfl | exact .inr ⟨rfl, rfl⟩) (need_intro ?_ ?_); rintro ⟨n, b⟩ ⟨⟨h1, h2⟩, h3⟩; (conv => whnf))
      | (refine bc_true (by assumption) ?_; (conv => whnf))
      | (refine bc_false (by assumption) ?_; (conv => whnf))
      | (refine need_intro ?_ ?_; (conv => whnf))
      | (refine wk_refl ?_; (conv => whnf))
      | (refine draw_intro (by kernel_rfl) ?_; (conv => whnf))
      | (refine ord_intro (by kernel_rfl) ?_; (conv => whnf))
    · refine loop_auto [0, 2, 3, 4] [2, 3] (fun x : Int × CopyT × Nat => [(5, .d (.int .i64 x.1))]) (fun x => [(4, .box (copyP 500 x.2.1)), (500, .row 58 3 x.2.1.pend.length (cellOf encWr x.2.1.pend)), (1000, tapeB l x.2.2)]) (fun x => (0 ≤ x.1 ∧ x.1 ≤ 3) ∧ (CopyB 10 x.2.1 ∧ (x.2.1.pend.length : Int) ≤ 3 - x.1) ∧ TapeOk l x.2.2) (fun x => x.1.toNat) (n, ⟨k, t, k2, t2, e, v, rows, [], noPart, noPart, 0, 0⟩, b) ?_ (fun x hx => ?_) ?_
      · conv => whnf
        repeat' first
          | (refine bc_true (by assumption) ?_; (conv => whnf))
          | (refine bc_false (by assumption) ?_; (conv => whnf))
          | (refine bc_intro (fun _ => ?_) (fun _ => ?_) <;> (conv => whnf))
          | (refine need_intro ?_ ?_; (conv => whnf))
          | (refine wk_refl ?_; (conv => whnf))
          | (refine draw_intro (by kernel_rfl) ?_; (conv => whnf))
          | (refine ord_intro (by kernel_rfl) ?_; (conv => whnf))
        all_goals first | exact trivial | exact DLe.refl _ | exact DLe.nil | exact ⟨rfl, rfl⟩ | exact ⟨rfl, rfl, rfl⟩ | exact RowLe.refl _ _ _ | trace_state
      · obtain ⟨i, c, b⟩ := x
        obtain ⟨hi, ⟨hc, hcp⟩, hb⟩ := hx
        simp only at hi hc hcp hb
        have hs : 0 < i → IntKind.i64.wrap (i - 1) = i - 1 := fun _ => wrap_of (by omega) (by omega)
        conv => whnf
        repeat' first
          | (refine call_some_if (writeIn_ex _) (fun _ => by first | exact .inl rfl | exact .inr ⟨rfl, rfl⟩) (need_intro ?_ ?_); rintro ⟨w, b⟩ ⟨⟨h1, h2⟩, h3⟩; (conv => whnf))
          | (refine NextVC.mk (i - 1, { c with pend := c.pend ++ [w] }, b) ?_ ?_ ?_; (conv => whnf))
          | (refine JoinVC.mk (c, b) ?_ ?_; (conv => whnf))
          | (refine bc_true (by assumption) ?_; (conv => whnf))
          | (refine bc_false (by assumption) ?_; (conv => whnf))
          | (refine bc_intro (fun _ => ?_) (fun _ => ?_) <;> (conv => whnf))
          | (refine need_intro ?_ ?_; (conv => whnf))
          | (refine wk_refl ?_; (conv => whnf))
          | (refine draw_intro (by kernel_rfl) ?_; (conv => whnf))
          | (refine ord_intro (by kernel_rfl) ?_; (conv => whnf))
        all_goals try simp only [cellsWr, bytesWr, true_and, and_true, decide_eq_true_eq, decide_eq_false_iff_not] at *
        all_goals try first
          | exact trivial
          | exact DLe.refl _
          | exact DLe.nil
          | exact RowLe.refl _ _ _
          | omega
          | assumption
          | exact ⟨by omega, by omega⟩
          | exact ⟨by assumption, by assumption⟩
          | exact ⟨by assumption, by omega, by omega⟩
          | exact DLe.of_eq (by rw [hs (by omega)])
          | exact row_snoc rfl (RowLe.refl _ _ _) (jlt3 (DLe.of_eq rfl) (DLe.of_eq rfl) (DLe.of_eq rfl))
          | (simp only [List.length_append, List.length_singleton]; done)
          | exact ⟨by assumption, by omega, by have := subR_len (a := ([], false, [], true)) (b := (k, t, k2, t2)); omega⟩
        all_goals first
          | (simp only [List.length_append, List.length_singleton]; exact row_snoc rfl (RowLe.refl _ _ _) (jlt3 (DLe.of_eq rfl) (DLe.of_eq rfl) (DLe.of_eq rfl)))
          | exact ⟨⟨by omega, by omega⟩, ⟨⟨hc.rows, by simp only [List.length_append, List.length_singleton]; omega, hc.out, hc.inn, hc.took, hc.src, hc.se, hc.sv, hc.lk, hc.hk⟩, by simp only [List.length_append, List.length_singleton]; omega⟩, by assumption⟩
          | exact ⟨⟨hc, by omega⟩, by assumption⟩
          | trace_state
      · exact ⟨⟨h1, by simp only at h2 ⊢; omega⟩, ⟨hc0, by simp only at h1 h2 ⊢; simp only [List.length_nil]; omega⟩, h3⟩
    · exact ⟨by assumption, by omega, by omega⟩
  · conv => whnf
    repeat' first
      | (refine JoinVC.mk (⟨k, t, k2, t2, e, v, rows, [], noPart, noPart, 0, 0⟩, b) ?_ ?_; (conv => whnf))
      | (refine bc_true (by assumption) ?_; (conv => whnf))
      | (refine bc_false (by assumption) ?_; (conv => whnf))
      | (refine need_intro ?_ ?_; (conv => whnf))
      | (refine wk_refl ?_; (conv => whnf))
      | (refine draw_intro (by kernel_rfl) ?_; (conv => whnf))
      | (refine ord_intro (by kernel_rfl) ?_; (conv => whnf))
    all_goals try simp only [cellsWr, bytesWr, true_and, and_true, decide_eq_true_eq, decide_eq_false_iff_not] at *
    all_goals try first
      | exact trivial
      | exact DLe.refl _
      | exact DLe.nil
      | exact RowLe.refl _ _ _
      | omega
      | assumption
      | exact ⟨by omega, by omega⟩
      | exact ⟨by assumption, by assumption⟩
      | exact ⟨by assumption, by omega, by omega⟩
      | exact DLe.of_eq (by rw [hs (by omega)])
      | exact row_snoc rfl (RowLe.refl _ _ _) (jlt3 (DLe.of_eq rfl) (DLe.of_eq rfl) (DLe.of_eq rfl))
      | (simp only [List.length_append, List.length_singleton]; done)
      | exact ⟨by assumption, by omega, by have := subR_len (a := ([], false, [], true)) (b := (k, t, k2, t2)); omega⟩
    all_goals first
      | exact rfl
      | exact ⟨⟨hc0, by simp⟩, by assumption⟩
      | trace_state
  rintro ⟨c, b⟩ ⟨⟨hc, hp⟩, hb⟩
  conv => whnf
  repeat' first
    | (refine call_some_if (bool_ex _) (fun _ => by first | exact .inl rfl | exact .inr ⟨rfl, rfl⟩) (need_intro ?_ ?_); rintro ⟨v, b⟩ h1; (conv => whnf))
    | (refine bc_true (by assumption) ?_; (conv => whnf))
    | (refine bc_false (by assumption) ?_; (conv => whnf))
    | (refine need_intro ?_ ?_; (conv => whnf))
    | (refine wk_refl ?_; (conv => whnf))
    | (refine draw_intro (by kernel_rfl) ?_; (conv => whnf))
    | (refine ord_intro (by kernel_rfl) ?_; (conv => whnf))
  all_goals try simp only [cellsWr, bytesWr, true_and, and_true, decide_eq_true_eq, decide_eq_false_iff_not] at *
  all_goals try first
    | exact trivial
    | exact DLe.refl _
    | exact DLe.nil
    | exact RowLe.refl _ _ _
    | omega
    | assumption
    | exact ⟨by omega, by omega⟩
    | exact ⟨by assumption, by assumption⟩
    | exact ⟨by assumption, by omega, by omega⟩
    | exact DLe.of_eq (by rw [hs (by omega)])
    | exact row_snoc rfl (RowLe.refl _ _ _) (jlt3 (DLe.of_eq rfl) (DLe.of_eq rfl) (DLe.of_eq rfl))
    | (simp only [List.length_append, List.length_singleton]; done)
    | exact ⟨by assumption, by omega, by have := subR_len (a := ([], false, [], true)) (b := (k, t, k2, t2)); omega⟩
  refine join_auto [0, 2, 3, 4] [2, 3] (fun x : CopyT × Nat => []) (fun x => [(4, .box (copyP 500 x.1)), (500, .row 58 3 x.1.pend.length (cellOf encWr x.1.pend)), (1000, tapeB l x.2)]) (fun x => (CopyB 10 x.1 ∧ x.1.pend.length ≤ 3) ∧ TapeOk l x.2) (fun _ => ?_) (fun _ => ?_) ?_
  · conv => whnf
    repeat' first
      | (refine JoinVC.mk ({ c with pend := [] }, b) ?_ ?_; (conv => whnf))
      | (refine bc_true (by assumption) ?_; (conv => whnf))
      | (refine bc_false (by assumption) ?_; (conv => whnf))
      | (refine need_intro ?_ ?_; (conv => whnf))
      | (refine wk_refl ?_; (conv => whnf))
      | (refine draw_intro (by kernel_rfl) ?_; (conv => whnf))
      | (refine ord_intro (by kernel_rfl) ?_; (conv => whnf))
    all_goals try simp only [cellsWr, bytesWr, true_and, and_true, decide_eq_true_eq, decide_eq_false_iff_not] at *
    all_goals try first
      | exact trivial
      | exact DLe.refl _
      | exact DLe.nil
      | exact RowLe.refl _ _ _
      | omega
      | assumption
      | exact ⟨by omega, by omega⟩
      | exact ⟨by assumption, by assumption⟩
      | exact ⟨by assumption, by omega, by omega⟩
      | exact DLe.of_eq (by rw [hs (by omega)])
      | exact row_snoc rfl (RowLe.refl _ _ _) (jlt3 (DLe.of_eq rfl) (DLe.of_eq rfl) (DLe.of_eq rfl))
      | (simp only [List.length_append, List.length_singleton]; done)
      | exact ⟨by assumption, by omega, by have := subR_len (a := ([], false, [], true)) (b := (k, t, k2, t2)); omega⟩
    all_goals first
      | exact rfl
      | exact ⟨⟨⟨hc.rows, by simp, hc.out, hc.inn, hc.took, hc.src, hc.se, hc.sv, hc.lk, hc.hk⟩, by simp⟩, by assumption⟩
      | trace_state
  · conv => whnf
    repeat' first
      | (refine JoinVC.mk (c, b) ?_ ?_; (conv => whnf))
      | (refine bc_true (by assumption) ?_; (conv => whnf))
      | (refine bc_false (by assumption) ?_; (conv => whnf))
      | (refine need_intro ?_ ?_; (conv => whnf))
      | (refine wk_refl ?_; (conv => whnf))
      | (refine draw_intro (by kernel_rfl) ?_; (conv => whnf))
      | (refine ord_intro (by kernel_rfl) ?_; (conv => whnf))
    all_goals try simp only [cellsWr, bytesWr, true_and, and_true, decide_eq_true_eq, decide_eq_false_iff_not] at *
    all_goals try first
      | exact trivial
      | exact DLe.refl _
      | exact DLe.nil
      | exact RowLe.refl _ _ _
      | omega
      | assumption
      | exact ⟨by omega, by omega⟩
      | exact ⟨by assumption, by assumption⟩
      | exact ⟨by assumption, by omega, by omega⟩
      | exact DLe.of_eq (by rw [hs (by omega)])
      | exact row_snoc rfl (RowLe.refl _ _ _) (jlt3 (DLe.of_eq rfl) (DLe.of_eq rfl) (DLe.of_eq rfl))
      | (simp only [List.length_append, List.length_singleton]; done)
      | exact ⟨by assumption, by omega, by have := subR_len (a := ([], false, [], true)) (b := (k, t, k2, t2)); omega⟩
    all_goals first
      | exact ⟨⟨hc, hp⟩, by assumption⟩
      | trace_state
  rintro ⟨c, b⟩ ⟨⟨hc, hp⟩, hb⟩
  conv => whnf
  repeat' first
    | (refine call_intro (all_spec) ?_ (by first | exact .inl rfl | exact .inr ⟨rfl, rfl⟩); (conv => whnf))
    | (refine call_intro (subtract_spec _ _ _ _ _ _ _ _) ?_ (by first | exact .inl rfl | exact .inr ⟨rfl, rfl⟩); (conv => whnf))
    | (refine call_some_if (bool_ex _) (fun _ => by first | exact .inl rfl | exact .inr ⟨rfl, rfl⟩) (need_intro ?_ ?_); rintro ⟨v, b⟩ h1; (conv => whnf))
    | (refine call_some_if (next_ex _) (fun _ => by first | exact .inl rfl | exact .inr ⟨rfl, rfl⟩) (need_intro ?_ ?_); rintro ⟨v, b⟩ ⟨⟨h1, h2⟩, h3⟩; (conv => whnf))
    | (refine call_some_if (part_ex _) (fun _ => by first | exact .inl rfl | exact .inr ⟨rfl, rfl⟩) (need_intro ?_ ?_); rintro ⟨p, b⟩ ⟨hp, h3⟩; (conv => whnf))
    | (refine bc_true (by assumption) ?_; (conv => whnf))
    | (refine bc_false (by assumption) ?_; (conv => whnf))
    | (refine bc_intro (fun _ => ?_) (fun _ => ?_) <;> (conv => whnf))
    | (refine need_intro ?_ ?_; (conv => whnf))
    | (refine wk_refl ?_; (conv => whnf))
    | (refine draw_intro (by kernel_rfl) ?_; (conv => whnf))
    | (refine ord_intro (by kernel_rfl) ?_; (conv => whnf))
  all_goals try simp only [cellsWr, bytesWr, true_and, and_true, decide_eq_true_eq, decide_eq_false_iff_not] at *
  all_goals try first
    | exact trivial
    | exact DLe.refl _
    | exact DLe.nil
    | exact RowLe.refl _ _ _
    | omega
    | assumption
    | exact ⟨by omega, by omega⟩
    | exact ⟨by assumption, by assumption⟩
    | exact ⟨by assumption, by omega, by omega⟩
    | exact DLe.of_eq (by rw [hs (by omega)])
    | exact row_snoc rfl (RowLe.refl _ _ _) (jlt3 (DLe.of_eq rfl) (DLe.of_eq rfl) (DLe.of_eq rfl))
    | (simp only [List.length_append, List.length_singleton]; done)
    | exact ⟨by assumption, by omega, by have := subR_len (a := ([], false, [], true)) (b := (k, t, k2, t2)); omega⟩
  all_goals
    apply Exists.intro (w := (CopyT.mk _ _ _ _ _ _ _ _ (PartT.mk _ _ _ _ _ _ _ _ _ _) (PartT.mk _ _ _ _ _ _ _ _ _ _) _ _, _))
    refine And.intro ?cb ⟨LeS.agg ?le, LeL.refl _, trivial⟩
    case le =>
      dsimp only [copyL]
      repeat' first
        | exact LeL.nil
        | refine LeL.cons ?_ ?_
      all_goals first
        | exact les_own rfl
        | exact les_nil rfl
        | exact LeS.refl _
    case cb =>
      refine ⟨⟨hc.rows, hc.pend, ?_, ?_, ?_, ?_, hc.se, hc.sv, hc.lk, hc.hk⟩, by assumption⟩
      · first
          | exact hc.out
          | (refine PartB.mono (n := 3) (by omega) ?_; assumption)
      · first
          | exact hc.inn
          | (refine PartB.mono (n := 3) (by omega) ?_; assumption)
      · first
          | exact hc.took
          | exact i64_wrap _
      · first
          | exact hc.src
          | exact i64_wrap _
theorem copy_ex (m : Nat) {l : List Int} {a : Nat} : TapeOk l a → ∃ x : CopyT × Nat, (CopyB 10 x.1 ∧ TapeOk l x.2) ∧ Sx.Spec Tryz.prog GG 13 [.ptr m 0] [(m, tapeB l a)] (.agg (copyL x.1)) [(m, tapeB l x.2)] := fun h => by
  obtain ⟨x, hx, hs⟩ := copy0 h
  exact ⟨x, hx, hs.at m⟩
end Go.Proofs.YtegbenagmciegaaGreatDoor
