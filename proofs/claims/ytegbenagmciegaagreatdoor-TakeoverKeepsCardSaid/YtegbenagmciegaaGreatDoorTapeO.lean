/- Contracts of functions that the law reaches: YtegbenagmciegaaGreatDoorTapeO. Written for this claim. -/
import Derived.Test.YtegbenagmciegaaGreatDoorTape
import Derived.Test.YtegbenagmciegaaGreatDoorSxTab
namespace Go.Proofs.YtegbenagmciegaaGreatDoor
open Go Go.Sx Go.ChangeShapes Go.WideShapes Go.ChangeAt Go.RowKit
set_option linter.unusedVariables false
set_option linter.unusedSimpArgs false
set_option maxRecDepth 100000


theorem cellsWr0 : Tryz.prog.cellsOf 58 = 3 := by kernel_rfl
set_option maxHeartbeats 4000000 in
theorem oddCopy0 {l : List Int} {a : Nat} {n : Nat} (c : CopyT) : (TapeOk l a ∧ CopyB n c ∧ 70 ≤ n ∧ n ≤ 1900) → ∃ x : CopyT × Nat, (CopyB (n + 1) x.1 ∧ TapeOk l x.2) ∧ Sx.Spec Tryz.prog GG 15 [.ptr 1000 0, .agg (copyL c)] [(1000, tapeB l a)] (.agg (copyL x.1)) [(1000, tapeB l x.2)] := by
  rintro ⟨h, hc, hn⟩
  have hc' := hc.mono (Nat.le_succ n)
  have q1 := hc'.rows
  have q2 := hc'.pend
  have q3 := hc'.out
  have q4 := hc'.inn
  have q5 := hc'.took
  have q6 := hc'.src
  have q7 := hc'.se
  have q8 := hc'.sv
  have q9 := hc'.lk
  have q10 := hc'.hk
  have r1 := hc.rows
  have r2 := hc.pend
  refine spec_some (E := EE) (fn := Tryz.f15) _ _ _ false eok (by kernel_rfl) (by kernel_rfl) Tryz.call15 (by kernel_rfl) (fun _ => by kernel_rfl) (fun _ => by kernel_rfl) ?_
  conv => whnf
  repeat' first
    | (refine call_some_if (next_ex _) (fun _ => by first | exact .inl rfl | exact .inr ⟨rfl, rfl⟩) (need_intro ?_ ?_); rintro ⟨v, b⟩ ⟨⟨h1, h2⟩, h3⟩; (conv => whnf))
    | (refine call_some_if (range_ex _) (fun _ => by first | exact .inl rfl | exact .inr ⟨rfl, rfl⟩) (need_intro ?_ ?_); rintro ⟨k, t, k2, t2, b⟩ ⟨h1, h2, h3⟩; (conv => whnf))
    | (refine call_some_if (oddStamp_ex _) (fun _ => by first | exact .inl rfl | exact .inr ⟨rfl, rfl⟩) (need_intro ?_ ?_); rintro ⟨e, v, b⟩ ⟨⟨h1, h2⟩, h3⟩; (conv => whnf))
    | (refine call_some_if (oddRows_ex _) (fun _ => by first | exact .inl rfl | exact .inr ⟨rfl, rfl⟩) (need_intro ?_ ?_); rintro ⟨rows, b⟩ ⟨h1, h2⟩; (conv => whnf))
    | (refine call_some_if (write_ex _) (fun _ => by first | exact .inl rfl | exact .inr ⟨rfl, rfl⟩) (need_intro ?_ ?_); rintro ⟨w, b⟩ ⟨⟨h1, h2⟩, h3⟩; (conv => whnf))
    | (refine call_some_if (part_ex _) (fun _ => by first | exact .inl rfl | exact .inr ⟨rfl, rfl⟩) (need_intro ?_ ?_); rintro ⟨p, b⟩ ⟨hp, h3⟩; (conv => whnf))
    | (refine call_some_if (pickQ_ex _ I64) (fun _ => by first | exact .inl rfl | exact .inr ⟨rfl, rfl⟩) (need_intro ?_ ?_); rintro ⟨v, b⟩ ⟨h1, h2⟩; (conv => whnf))
    | (refine bc_true (by assumption) ?_; (conv => whnf))
    | (refine bc_false (by assumption) ?_; (conv => whnf))
    | (refine bc_intro (fun _ => ?_) (fun _ => ?_) <;> (conv => whnf))
    | (refine need_intro ?_ ?_; (conv => whnf))
    | (refine wk_refl ?_; (conv => whnf))
    | (refine draw_intro (by kernel_rfl) ?_; (conv => whnf))
    | (refine ord_intro (by kernel_rfl) ?_; (conv => whnf))
  all_goals try simp only [cellsWr, bytesWr, true_and, and_true, ne_eq, beq_iff_eq] at *
  all_goals try first
    | assumption
    | omega
    | exact ⟨by assumption, by omega, by omega⟩
    | exact ⟨by assumption, by omega⟩
    | exact ⟨by omega, by omega⟩
  all_goals try have hpq := ‹PartB 3 _›
  all_goals try have hps := hpq.src
  all_goals try first
    | (refine ⟨by assumption, ⟨by omega, by omega⟩, ?_⟩
       repeat' first
         | exact trivial
         | (refine ⟨_, rfl, ?_⟩
            first
              | assumption
              | (unfold I64; omega)
              | omega
              | (refine ⟨?_, ?_⟩ <;> omega))
         | apply And.intro
       done)
  all_goals try
    (apply Exists.intro (w := (CopyT.mk _ _ _ _ _ _ _ _ (PartT.mk _ _ _ _ _ _ _ _ _ _) (PartT.mk _ _ _ _ _ _ _ _ _ _) _ _, _))
     refine And.intro ?cb ⟨LeS.agg ?le, LeL.refl _, trivial⟩
     case le =>
       dsimp only [copyL]
       repeat' first
         | exact LeL.nil
         | refine LeL.cons ?_ ?_
       all_goals first
         | exact les_own rfl
         | exact les_row (ys := _ ++ [_]) (by simp only [List.length_append, List.length_singleton]) (row_snoc rfl (RowLe.refl _ _ _) (jlt3 (DLe.of_eq rfl) (DLe.of_eq rfl) (DLe.of_eq rfl)))
         | exact les_nil rfl
         | exact LeS.refl _
     case cb =>
       refine ⟨⟨?_, ?_, ?_, ?_, ?_, ?_, ?_, ?_, ?_, ?_⟩, by assumption⟩
       all_goals first
         | assumption
         | exact i64_wrap _
         | omega
         | (dsimp only; omega)
         | (simp only [List.length_append, List.length_singleton]; omega)
         | exact ⟨Nat.le_trans hpq.rows (by omega), hpq.serial, hpq.src, by assumption, hpq.se, hpq.sv⟩
         | (refine PartB.mono (n := 3) (by omega) ?_; assumption)
         | (have hq : PartB 3 _ := by assumption
            exact ⟨Nat.le_trans hq.rows (by omega), hq.serial, hq.src, by assumption, hq.se, hq.sv⟩)
         | trace_state
     done)
  all_goals try
    (refine loop_auto [0, 3, 4] [4] (fun x : Bool × CopyT × Nat => []) (fun x => match x.1 with
       | true => [(3, .box (copyL x.2.1)), (1000, tapeB l x.2.2)]
       | false => [(3, .box (copyP 500 x.2.1)), (500, .row 58 3 x.2.1.pend.length (cellOf encWr x.2.1.pend)), (1000, tapeB l x.2.2)])
       (fun x => CopyB (n + 1) x.2.1 ∧ TapeOk l x.2.2) (fun x => 66 - x.2.1.pend.length) (true, c, _) ?ent (fun x hx => ?step) ⟨hc', by assumption⟩
     case ent =>
       conv => whnf
       repeat' first
         | (refine bc_true (by assumption) ?_; (conv => whnf))
         | (refine bc_false (by assumption) ?_; (conv => whnf))
         | (refine bc_intro (fun _ => ?_) (fun _ => ?_) <;> (conv => whnf))
         | (refine need_intro ?_ ?_; (conv => whnf))
         | (refine wk_refl ?_; (conv => whnf))
         | (refine draw_intro (by kernel_rfl) ?_; (conv => whnf))
         | (refine ord_intro (by kernel_rfl) ?_; (conv => whnf))
       all_goals first | exact trivial | exact DLe.refl _ | trace_state
     case step =>
       obtain ⟨fl, y, b⟩ := x
       obtain ⟨hy, hb⟩ := hx
       simp only at hy hb
       have y1 := hy.rows
       have y2 := hy.pend
       have w64 : ∀ v : Int, 0 ≤ v → (v < 2 ∨ v = 0) → IntKind.i64.wrap (64 + v) = 64 + v := fun v h1 h2 => wrap_of (by omega) (by omega)
       cases fl
       · conv => whnf
         repeat' first
           | (refine call_some_if (next_ex _) (fun _ => by first | exact .inl rfl | exact .inr ⟨rfl, rfl⟩) (need_intro ?_ ?_); rintro ⟨v, b⟩ ⟨⟨h1, h2⟩, h3⟩; (conv => whnf))
           | (refine call_intro (emptyRr_spec _ _ _ _) ?_ (by first | exact .inl rfl | exact .inr ⟨rfl, rfl⟩); (conv => whnf))
           | (refine NextVC.mk (false, { y with pend := y.pend ++ [(y.lk, [], false)] }, b) ?_ ?_ ?_; (conv => whnf))
           | (refine bc_true (by assumption) ?_; (conv => whnf))
           | (refine bc_false (by assumption) ?_; (conv => whnf))
           | (refine bc_intro (fun _ => ?_) (fun _ => ?_) <;> (conv => whnf))
           | (refine need_intro ?_ ?_; (conv => whnf))
           | (refine wk_refl ?_; (conv => whnf))
           | (refine draw_intro (by kernel_rfl) ?_; (conv => whnf))
           | (refine ord_intro (by kernel_rfl) ?_; (conv => whnf))
         all_goals try simp only [cellsWr, bytesWr, true_and, and_true, ne_eq, beq_iff_eq, decide_eq_true_eq, decide_eq_false_iff_not] at *
         all_goals first
           | exact trivial
           | exact DLe.refl _
           | omega
           | assumption
           | exact ⟨by omega, by omega⟩
           | exact ⟨by assumption, by omega, by omega⟩
           | (simp only [List.length_append, List.length_singleton]; done)
           | (simp only [List.length_append, List.length_singleton]; exact row_snoc rfl (RowLe.refl _ _ _) (jlt3 (DLe.of_eq rfl) (DLe.of_eq rfl) (DLe.of_eq rfl)))
           | (simp only [List.length_append, List.length_singleton]; exact row_snoc rfl row_zero (jlt3 (DLe.of_eq rfl) (DLe.of_eq rfl) (DLe.of_eq rfl)))
           | (have hw := w64 _ h1 h2
              refine ⟨⟨hy.rows, ?_, hy.out, hy.inn, hy.took, hy.src, hy.se, hy.sv, hy.lk, hy.hk⟩, by assumption⟩
              simp only [hw, List.length_append, List.length_singleton] at *
              omega)
           | (have hw := w64 _ h1 h2
              simp only [hw, List.length_append, List.length_singleton] at *
              omega)
           | skip
         all_goals try
           (apply Exists.intro (w := (CopyT.mk _ _ _ _ _ _ _ _ (PartT.mk _ _ _ _ _ _ _ _ _ _) (PartT.mk _ _ _ _ _ _ _ _ _ _) _ _, _))
            refine And.intro ?cb ⟨LeS.agg ?le, LeL.refl _, trivial⟩
            case le =>
              dsimp only [copyL]
              repeat' first
                | exact LeL.nil
                | refine LeL.cons ?_ ?_
              all_goals first
                | exact les_own rfl
                | exact les_row (ys := _ ++ [_]) (by simp only [List.length_append, List.length_singleton]) (row_snoc rfl (RowLe.refl _ _ _) (jlt3 (DLe.of_eq rfl) (DLe.of_eq rfl) (DLe.of_eq rfl)))
                | exact les_nil rfl
                | exact LeS.refl _
            case cb =>
              exact ⟨⟨y1, y2, hy.out, hy.inn, hy.took, hy.src, hy.se, hy.sv, hy.lk, hy.hk⟩, by assumption⟩
            done)
         all_goals trace_state
       · conv => whnf
         repeat' first
           | (refine call_some_if (next_ex _) (fun _ => by first | exact .inl rfl | exact .inr ⟨rfl, rfl⟩) (need_intro ?_ ?_); rintro ⟨v, b⟩ ⟨⟨h1, h2⟩, h3⟩; (conv => whnf))
           | (refine call_intro (emptyRr_spec _ _ _ _) ?_ (by first | exact .inl rfl | exact .inr ⟨rfl, rfl⟩); (conv => whnf))
           | (refine NextVC.mk (false, { y with pend := y.pend ++ [(y.lk, [], false)] }, b) ?_ ?_ ?_; (conv => whnf))
           | (refine bc_true (by assumption) ?_; (conv => whnf))
           | (refine bc_false (by assumption) ?_; (conv => whnf))
           | (refine bc_intro (fun _ => ?_) (fun _ => ?_) <;> (conv => whnf))
           | (refine need_intro ?_ ?_; (conv => whnf))
           | (refine wk_refl ?_; (conv => whnf))
           | (refine draw_intro (by kernel_rfl) ?_; (conv => whnf))
           | (refine ord_intro (by kernel_rfl) ?_; (conv => whnf))
         all_goals try simp only [cellsWr, bytesWr, true_and, and_true, ne_eq, beq_iff_eq, decide_eq_true_eq, decide_eq_false_iff_not] at *
         all_goals first
           | exact trivial
           | exact DLe.refl _
           | omega
           | assumption
           | exact ⟨by omega, by omega⟩
           | exact ⟨by assumption, by omega, by omega⟩
           | (simp only [List.length_append, List.length_singleton]; done)
           | (simp only [List.length_append, List.length_singleton]; exact row_snoc rfl (RowLe.refl _ _ _) (jlt3 (DLe.of_eq rfl) (DLe.of_eq rfl) (DLe.of_eq rfl)))
           | (simp only [List.length_append, List.length_singleton]; exact row_snoc rfl row_zero (jlt3 (DLe.of_eq rfl) (DLe.of_eq rfl) (DLe.of_eq rfl)))
           | (have hw := w64 _ h1 h2
              refine ⟨⟨hy.rows, ?_, hy.out, hy.inn, hy.took, hy.src, hy.se, hy.sv, hy.lk, hy.hk⟩, by assumption⟩
              simp only [hw, List.length_append, List.length_singleton] at *
              omega)
           | (have hw := w64 _ h1 h2
              simp only [hw, List.length_append, List.length_singleton] at *
              omega)
           | skip
         all_goals try
           (apply Exists.intro (w := (CopyT.mk _ _ _ _ _ _ _ _ (PartT.mk _ _ _ _ _ _ _ _ _ _) (PartT.mk _ _ _ _ _ _ _ _ _ _) _ _, _))
            refine And.intro ?cb ⟨LeS.agg ?le, LeL.refl _, trivial⟩
            case le =>
              dsimp only [copyL]
              repeat' first
                | exact LeL.nil
                | refine LeL.cons ?_ ?_
              all_goals first
                | exact les_own rfl
                | exact les_row (ys := _ ++ [_]) (by simp only [List.length_append, List.length_singleton]) (row_snoc rfl (RowLe.refl _ _ _) (jlt3 (DLe.of_eq rfl) (DLe.of_eq rfl) (DLe.of_eq rfl)))
                | exact les_nil rfl
                | exact LeS.refl _
            case cb =>
              exact ⟨⟨y1, y2, hy.out, hy.inn, hy.took, hy.src, hy.se, hy.sv, hy.lk, hy.hk⟩, by assumption⟩
            done)
         all_goals trace_state
     done)
  all_goals trace_state
theorem oddCopy_ex (m : Nat) {l : List Int} {a : Nat} {n : Nat} (c : CopyT) : (TapeOk l a ∧ CopyB n c ∧ 70 ≤ n ∧ n ≤ 1900) → ∃ x : CopyT × Nat, (CopyB (n + 1) x.1 ∧ TapeOk l x.2) ∧ Sx.Spec Tryz.prog GG 15 [.ptr m 0, .agg (copyL c)] [(m, tapeB l a)] (.agg (copyL x.1)) [(m, tapeB l x.2)] := fun h => by
  obtain ⟨x, hx, hs⟩ := oddCopy0 c h
  exact ⟨x, hx, hs.at m⟩
end Go.Proofs.YtegbenagmciegaaGreatDoor
