/- Contracts of functions that the law reaches: YtngdpchhogfhfaaGreatDoorApp. Written for this claim. -/
import Derived.Test.YtngdpchhogfhfaaGreatDoorCom
import Derived.Test.YtngdpchhogfhfaaGreatDoorSxTab
namespace Go.Proofs.YtngdpchhogfhfaaGreatDoor
open Go Go.Sx Go.ChangeShapes Go.WideShapes Go.ChangeAt Go.RowKit
set_option linter.unusedVariables false
set_option linter.unusedSimpArgs false
set_option maxRecDepth 100000
theorem appendr_spec (c : CopyT) (k v : List UInt8) (d : Bool) : Small c → Sx.Spec Tryz.prog GG 67 [.agg (copyL c), .agg [.d (.str k), .d (.str v), .d (.bool d)]] [] (.tup [.agg (copyL (appendC c (k, v, d)).1), .d (.int .i64 (appendC c (k, v, d)).2)]) [] := by
  rintro ⟨h1, h2, h3, h4⟩
  have w1 : IntKind.i64.wrap ((c.rows.length : Int) + (c.pend.length : Int)) = ((c.rows.length + c.pend.length : Nat) : Int) := by rw [wrap_of (by omega) (by omega)]; omega
  refine spec_intro (E := EE) (fn := Tryz.f67) eok (by kernel_rfl) (by kernel_rfl) Tryz.call67 (by kernel_rfl) (by kernel_rfl) ?_
  conv => whnf
  repeat' first
    | (refine call_if (validr_spec c) (by first | exact .inl rfl | exact .inr ⟨rfl, rfl⟩) (need_intro ?_ ?_); (conv => whnf))
    | (refine call_intro (validWr_spec _ _ _) ?_ (by first | exact .inl rfl | exact .inr ⟨rfl, rfl⟩); (conv => whnf))
    | (refine call_intro (containsRr_spec _ _ _ _ _) ?_ (by first | exact .inl rfl | exact .inr ⟨rfl, rfl⟩); (conv => whnf))
    | (refine bc_true (by assumption) ?_; (conv => whnf))
    | (refine bc_false (by assumption) ?_; (conv => whnf))
    | (refine bc_intro (fun _ => ?_) (fun _ => ?_) <;> (conv => whnf))
    | (refine need_intro ?_ ?_; (conv => whnf))
    | (refine wk_refl ?_; (conv => whnf))
    | (refine draw_intro (by kernel_rfl) ?_; (conv => whnf))
    | (refine ord_intro (by kernel_rfl) ?_; (conv => whnf))
  all_goals try simp only [w1] at *
  all_goals try simp only [Bool.not_eq_true', Bool.not_eq_false', beq_iff_eq, beq_eq_false_iff_ne, bne_iff_ne, bne_eq_false_iff_eq, ne_eq, decide_eq_true_eq, decide_eq_false_iff_not, Option.getD_none, Option.getD_some, cellsWr, bytesWr, cellsRow', bytesRow, true_and, and_true] at *
  all_goals first
    | omega
    | exact ⟨by omega, by omega⟩
    | exact ⟨by omega, by omega, by omega⟩
    | exact ⟨by omega, by omega, by omega, by omega⟩
    | (have e : appendC c (k, v, d) = (noCopy, 1) := by simp [appendC, *]
       rw [e]
       (refine ⟨LeS.tup (LeL.cons (LeS.agg ?_) (LeL.cons (LeS.refl _) LeL.nil)), trivial⟩
        repeat' first
          | exact LeL.nil
          | refine LeL.cons ?_ ?_
        all_goals first
          | exact LeS.refl _
          | exact les_own rfl
          | exact les_nil rfl
          | exact LeS.d (DLe.rows (by simp only [List.length_drop]; omega) row_drop)
          | exact les_row (by simp only [List.length_drop]; omega) row_drop
          | exact les_row (by simp only [List.length_append]) (row_append rfl (RowLe.refl _ _ _) (RowLe.refl _ _ _))
          | exact les_row (by simp only [List.length_append]) (row_append (by omega) row_zero row_zero)
          | exact les_row (by simp only [List.length_append, List.length_singleton]) (row_snoc rfl (RowLe.refl _ _ _) (jlt3 (DLe.of_eq rfl) (DLe.of_eq rfl) (DLe.of_eq rfl)))
        done)
       done)
    | (have e : appendC c (k, v, d) = (noCopy, 12) := by simp [appendC, hasR, CopyT.rng, *]
       rw [e]
       (refine ⟨LeS.tup (LeL.cons (LeS.agg ?_) (LeL.cons (LeS.refl _) LeL.nil)), trivial⟩
        repeat' first
          | exact LeL.nil
          | refine LeL.cons ?_ ?_
        all_goals first
          | exact LeS.refl _
          | exact les_own rfl
          | exact les_nil rfl
          | exact LeS.d (DLe.rows (by simp only [List.length_drop]; omega) row_drop)
          | exact les_row (by simp only [List.length_drop]; omega) row_drop
          | exact les_row (by simp only [List.length_append]) (row_append rfl (RowLe.refl _ _ _) (RowLe.refl _ _ _))
          | exact les_row (by simp only [List.length_append]) (row_append (by omega) row_zero row_zero)
          | exact les_row (by simp only [List.length_append, List.length_singleton]) (row_snoc rfl (RowLe.refl _ _ _) (jlt3 (DLe.of_eq rfl) (DLe.of_eq rfl) (DLe.of_eq rfl)))
        done)
       done)
    | (have hh := valid_head (c := c) (by assumption)
       have e : appendC c (k, v, d) = (noCopy, 16) := by
         have hf : c.pend.length = 64 ∨ c.rows.length + c.pend.length = 1024 := by omega
         simp [appendC, hasR, CopyT.rng, hf, *]
       rw [e]
       (refine ⟨LeS.tup (LeL.cons (LeS.agg ?_) (LeL.cons (LeS.refl _) LeL.nil)), trivial⟩
        repeat' first
          | exact LeL.nil
          | refine LeL.cons ?_ ?_
        all_goals first
          | exact LeS.refl _
          | exact les_own rfl
          | exact les_nil rfl
          | exact LeS.d (DLe.rows (by simp only [List.length_drop]; omega) row_drop)
          | exact les_row (by simp only [List.length_drop]; omega) row_drop
          | exact les_row (by simp only [List.length_append]) (row_append rfl (RowLe.refl _ _ _) (RowLe.refl _ _ _))
          | exact les_row (by simp only [List.length_append]) (row_append (by omega) row_zero row_zero)
          | exact les_row (by simp only [List.length_append, List.length_singleton]) (row_snoc rfl (RowLe.refl _ _ _) (jlt3 (DLe.of_eq rfl) (DLe.of_eq rfl) (DLe.of_eq rfl)))
        done)
       done)
    | (have hh := valid_head (c := c) (by assumption)
       have e : appendC c (k, v, d) = ({ c with pend := c.pend ++ [(k, v, d)] }, 0) := by
         have hf : ¬ (c.pend.length = 64 ∨ c.rows.length + c.pend.length = 1024) := by omega
         unfold appendC
         rw [if_neg (by simp [*]), if_neg (by simp [hasR, CopyT.rng, *]), if_neg hf]
       rw [e]
       (refine ⟨LeS.tup (LeL.cons (LeS.agg ?_) (LeL.cons (LeS.refl _) LeL.nil)), trivial⟩
        repeat' first
          | exact LeL.nil
          | refine LeL.cons ?_ ?_
        all_goals first
          | exact LeS.refl _
          | exact les_own rfl
          | exact les_nil rfl
          | exact LeS.d (DLe.rows (by simp only [List.length_drop]; omega) row_drop)
          | exact les_row (by simp only [List.length_drop]; omega) row_drop
          | exact les_row (by simp only [List.length_append]) (row_append rfl (RowLe.refl _ _ _) (RowLe.refl _ _ _))
          | exact les_row (by simp only [List.length_append]) (row_append (by omega) row_zero row_zero)
          | exact les_row (by simp only [List.length_append, List.length_singleton]) (row_snoc rfl (RowLe.refl _ _ _) (jlt3 (DLe.of_eq rfl) (DLe.of_eq rfl) (DLe.of_eq rfl)))
        done)
       done)
    | trace_state
theorem commit_next {x : CopyT} (h : validC x = true) (hp : ¬ x.pend.length = 0) (h0 : (commitC x).2 = 0) : validC (commitC x).1 = true ∧ (commitC x).1.out = x.out ∧ (commitC x).1.inn = x.inn ∧ (commitC x).1.pend.length + 1 = x.pend.length := by
  by_cases hv : x.sv = 1099511627776
  · rw [commit_full h hp hv] at h0; cases h0
  · rw [commit_ok h hp hv]
    exact ⟨(commit_valid h hp hv).2, rfl, rfl, by simp only [List.length_drop]; omega⟩
theorem settle_step {x : CopyT} (hp : ¬ x.pend.length = 0) : settleC x.pend.length x = if (commitC x).2 = 0 then settleC (x.pend.length - 1) (commitC x).1 else (noCopy, (commitC x).2) := by
  cases hn : x.pend.length with
  | zero => exact absurd hn hp
  | succ n => simp only [settleC, hn, Nat.add_one_ne_zero, if_false, Nat.add_sub_cancel]
theorem settle_end {x : CopyT} (hp : x.pend.length = 0) : settleC x.pend.length x = (x, 0) := by rw [hp]; rfl
theorem small_of {c x : CopyT} (hs : Small c) (h : validC x = true) (ho : x.out = c.out) (hi : x.inn = c.inn) : Small x := by
  obtain ⟨h1, h2, h3, h4⟩ := hs
  obtain ⟨_, _, _, _, h5, h6⟩ := valid_head h
  exact ⟨by omega, by omega, by rw [ho]; exact h3, by rw [hi]; exact h4⟩
theorem settlep_spec (c : CopyT) : Small c → Sx.Spec Tryz.prog GG 111 [.agg (copyL c)] [] (.tup [.agg (copyL (settleF c).1), .d (.int .i64 (settleF c).2)]) [] := by
  intro hsm
  have hsm' := hsm
  obtain ⟨h1, h2, h3, h4⟩ := hsm
  refine spec_intro (E := EE) (fn := Tryz.f111) eok (by kernel_rfl) (by kernel_rfl) Tryz.call111 (by kernel_rfl) (by kernel_rfl) ?_
  conv => whnf
  repeat' first
    | (refine call_if (validp_spec c) (by first | exact .inl rfl | exact .inr ⟨rfl, rfl⟩) (need_intro ?_ ?_); (conv => whnf))
    | (refine call_if (cloneC_spec c) (by first | exact .inl rfl | exact .inr ⟨rfl, rfl⟩) (need_intro ?_ ?_); (conv => whnf))
    | (refine bc_true (by assumption) ?_; (conv => whnf))
    | (refine bc_false (by assumption) ?_; (conv => whnf))
    | (refine bc_intro (fun _ => ?_) (fun _ => ?_) <;> (conv => whnf))
    | (refine need_intro ?_ ?_; (conv => whnf))
    | (refine wk_refl ?_; (conv => whnf))
    | (refine draw_intro (by kernel_rfl) ?_; (conv => whnf))
    | (refine ord_intro (by kernel_rfl) ?_; (conv => whnf))
  all_goals try simp only [Bool.not_eq_true', Bool.not_eq_false', beq_iff_eq, beq_eq_false_iff_ne, bne_iff_ne, bne_eq_false_iff_eq, ne_eq, decide_eq_true_eq, decide_eq_false_iff_not, Option.getD_none, Option.getD_some, cellsWr, bytesWr, cellsRow', bytesRow, true_and, and_true] at *
  all_goals try first
    | omega
    | exact ⟨by omega, by omega, by omega, by omega⟩
    | (have e : settleF c = (noCopy, 1) := by simp [settleF, *]
       rw [e]
       (refine ⟨LeS.tup (LeL.cons (LeS.agg ?_) (LeL.cons (LeS.refl _) LeL.nil)), trivial⟩
        repeat' first
          | exact LeL.nil
          | refine LeL.cons ?_ ?_
        all_goals first
          | exact LeS.refl _
          | exact les_own rfl
          | exact les_nil rfl
          | exact LeS.d (DLe.rows (by simp only [List.length_drop]; omega) row_drop)
          | exact les_row (by simp only [List.length_drop]; omega) row_drop
          | exact les_row (by simp only [List.length_append]) (row_append rfl (RowLe.refl _ _ _) (RowLe.refl _ _ _))
          | exact les_row (by simp only [List.length_append]) (row_append (by omega) row_zero row_zero)
          | exact les_row (by simp only [List.length_append, List.length_singleton]) (row_snoc rfl (RowLe.refl _ _ _) (jlt3 (DLe.of_eq rfl) (DLe.of_eq rfl) (DLe.of_eq rfl)))
        done)
       done)
  have hv : validC c = true := by assumption
  have e : settleF c = settleC c.pend.length c := by simp [settleF, hv]
  rw [e]
  refine loop_auto [1, 2, 3] [2] (fun x : CopyT => []) (fun x => [(1, .box (copyL x))]) (fun x => validC x = true ∧ (x.out = c.out ∧ x.inn = c.inn) ∧ settleC x.pend.length x = settleC c.pend.length c) (fun x => x.pend.length) c ?_ (fun x hx => ?_) ⟨hv, ⟨rfl, rfl⟩, rfl⟩
  · conv => whnf
    repeat' first
      | (refine bc_true (by assumption) ?_; (conv => whnf))
      | (refine bc_false (by assumption) ?_; (conv => whnf))
      | (refine bc_intro (fun _ => ?_) (fun _ => ?_) <;> (conv => whnf))
      | (refine need_intro ?_ ?_; (conv => whnf))
      | (refine wk_refl ?_; (conv => whnf))
      | (refine draw_intro (by kernel_rfl) ?_; (conv => whnf))
      | (refine ord_intro (by kernel_rfl) ?_; (conv => whnf))
    all_goals first | exact ⟨rfl, rfl⟩ | exact ⟨rfl, rfl, rfl⟩ | exact DLe.refl _ | exact RowLe.refl _ _ _ | exact trivial
  · obtain ⟨hx, ⟨ho, hi⟩, he⟩ := hx
    have hxs := small_of hsm' hx ho hi
    conv => whnf
    repeat' first
      | (refine call_if (commitp_spec x) (by first | exact .inl rfl | exact .inr ⟨rfl, rfl⟩) (need_intro ?_ ?_); (conv => whnf))
      | (refine NextVC.mk (commitC x).1 ?_ ?_ ?_; (conv => whnf))
      | (refine bc_true (by assumption) ?_; (conv => whnf))
      | (refine bc_false (by assumption) ?_; (conv => whnf))
      | (refine bc_intro (fun _ => ?_) (fun _ => ?_) <;> (conv => whnf))
      | (refine need_intro ?_ ?_; (conv => whnf))
      | (refine wk_refl ?_; (conv => whnf))
      | (refine draw_intro (by kernel_rfl) ?_; (conv => whnf))
      | (refine ord_intro (by kernel_rfl) ?_; (conv => whnf))
    all_goals try simp only [Bool.not_eq_true', Bool.not_eq_false', beq_iff_eq, beq_eq_false_iff_ne, bne_iff_ne, bne_eq_false_iff_eq, ne_eq, decide_eq_true_eq, decide_eq_false_iff_not, Option.getD_none, Option.getD_some, cellsWr, bytesWr, cellsRow', bytesRow, true_and, and_true] at *
    all_goals first
      | exact trivial
      | omega
      | assumption
      | exact DLe.refl _
      | (have hn := commit_next (x := x) hx (by omega) (by assumption); omega)
      | (have hc0 : (commitC x).2 = 0 := by assumption
         have hn := commit_next (x := x) hx (by omega) hc0
         refine ⟨hn.1, ⟨hn.2.1.trans ho, hn.2.2.1.trans hi⟩, ?_⟩
         rw [← he, settle_step (x := x) (by omega), if_pos hc0, show x.pend.length - 1 = (commitC x).1.pend.length by omega])
      | (rw [← he, settle_end (x := x) (by omega)]
         (refine ⟨LeS.tup (LeL.cons (LeS.agg ?_) (LeL.cons (LeS.refl _) LeL.nil)), trivial⟩
          repeat' first
            | exact LeL.nil
            | refine LeL.cons ?_ ?_
          all_goals first
            | exact LeS.refl _
            | exact les_own rfl
            | exact les_nil rfl
            | exact LeS.d (DLe.rows (by simp only [List.length_drop]; omega) row_drop)
            | exact les_row (by simp only [List.length_drop]; omega) row_drop
            | exact les_row (by simp only [List.length_append]) (row_append rfl (RowLe.refl _ _ _) (RowLe.refl _ _ _))
            | exact les_row (by simp only [List.length_append]) (row_append (by omega) row_zero row_zero)
            | exact les_row (by simp only [List.length_append, List.length_singleton]) (row_snoc rfl (RowLe.refl _ _ _) (jlt3 (DLe.of_eq rfl) (DLe.of_eq rfl) (DLe.of_eq rfl)))
          done)
         done)
      | (rw [← he, settle_step (x := x) (by omega), if_neg (by assumption)]
         (refine ⟨LeS.tup (LeL.cons (LeS.agg ?_) (LeL.cons (LeS.refl _) LeL.nil)), trivial⟩
          repeat' first
            | exact LeL.nil
            | refine LeL.cons ?_ ?_
          all_goals first
            | exact LeS.refl _
            | exact les_own rfl
            | exact les_nil rfl
            | exact LeS.d (DLe.rows (by simp only [List.length_drop]; omega) row_drop)
            | exact les_row (by simp only [List.length_drop]; omega) row_drop
            | exact les_row (by simp only [List.length_append]) (row_append rfl (RowLe.refl _ _ _) (RowLe.refl _ _ _))
            | exact les_row (by simp only [List.length_append]) (row_append (by omega) row_zero row_zero)
            | exact les_row (by simp only [List.length_append, List.length_singleton]) (row_snoc rfl (RowLe.refl _ _ _) (jlt3 (DLe.of_eq rfl) (DLe.of_eq rfl) (DLe.of_eq rfl)))
          done)
         done)
      | trace_state
theorem settler_spec (c : CopyT) : Small c → Sx.Spec Tryz.prog GG 99 [.agg (copyL c)] [] (.tup [.agg (copyL (settleF c).1), .d (.int .i64 (settleF c).2)]) [] := by
  intro hsm
  have hsm' := hsm
  obtain ⟨h1, h2, h3, h4⟩ := hsm
  refine spec_intro (E := EE) (fn := Tryz.f99) eok (by kernel_rfl) (by kernel_rfl) Tryz.call99 (by kernel_rfl) (by kernel_rfl) ?_
  conv => whnf
  repeat' first
    | (refine call_if (validr_spec c) (by first | exact .inl rfl | exact .inr ⟨rfl, rfl⟩) (need_intro ?_ ?_); (conv => whnf))
    | (refine bc_true (by assumption) ?_; (conv => whnf))
    | (refine bc_false (by assumption) ?_; (conv => whnf))
    | (refine bc_intro (fun _ => ?_) (fun _ => ?_) <;> (conv => whnf))
    | (refine need_intro ?_ ?_; (conv => whnf))
    | (refine wk_refl ?_; (conv => whnf))
    | (refine draw_intro (by kernel_rfl) ?_; (conv => whnf))
    | (refine ord_intro (by kernel_rfl) ?_; (conv => whnf))
  all_goals try simp only [Bool.not_eq_true', Bool.not_eq_false', beq_iff_eq, beq_eq_false_iff_ne, bne_iff_ne, bne_eq_false_iff_eq, ne_eq, decide_eq_true_eq, decide_eq_false_iff_not, Option.getD_none, Option.getD_some, cellsWr, bytesWr, cellsRow', bytesRow, true_and, and_true] at *
  all_goals try first
    | omega
    | exact ⟨by omega, by omega, by omega, by omega⟩
    | (have e : settleF c = (noCopy, 1) := by simp [settleF, *]
       rw [e]
       (refine ⟨LeS.tup (LeL.cons (LeS.agg ?_) (LeL.cons (LeS.refl _) LeL.nil)), trivial⟩
        repeat' first
          | exact LeL.nil
          | refine LeL.cons ?_ ?_
        all_goals first
          | exact LeS.refl _
          | exact les_own rfl
          | exact les_nil rfl
          | exact LeS.d (DLe.rows (by simp only [List.length_drop]; omega) row_drop)
          | exact les_row (by simp only [List.length_drop]; omega) row_drop
          | exact les_row (by simp only [List.length_append]) (row_append rfl (RowLe.refl _ _ _) (RowLe.refl _ _ _))
          | exact les_row (by simp only [List.length_append]) (row_append (by omega) row_zero row_zero)
          | exact les_row (by simp only [List.length_append, List.length_singleton]) (row_snoc rfl (RowLe.refl _ _ _) (jlt3 (DLe.of_eq rfl) (DLe.of_eq rfl) (DLe.of_eq rfl)))
        done)
       done)
  have hv : validC c = true := by assumption
  have e : settleF c = settleC c.pend.length c := by simp [settleF, hv]
  rw [e]
  refine loop_auto [1, 2, 3] [2] (fun x : CopyT => []) (fun x => [(1, .box (copyL x))]) (fun x => validC x = true ∧ (x.out = c.out ∧ x.inn = c.inn) ∧ settleC x.pend.length x = settleC c.pend.length c) (fun x => x.pend.length) c ?_ (fun x hx => ?_) ⟨hv, ⟨rfl, rfl⟩, rfl⟩
  · conv => whnf
    repeat' first
      | (refine bc_true (by assumption) ?_; (conv => whnf))
      | (refine bc_false (by assumption) ?_; (conv => whnf))
      | (refine bc_intro (fun _ => ?_) (fun _ => ?_) <;> (conv => whnf))
      | (refine need_intro ?_ ?_; (conv => whnf))
      | (refine wk_refl ?_; (conv => whnf))
      | (refine draw_intro (by kernel_rfl) ?_; (conv => whnf))
      | (refine ord_intro (by kernel_rfl) ?_; (conv => whnf))
    all_goals first | exact ⟨rfl, rfl⟩ | exact ⟨rfl, rfl, rfl⟩ | exact DLe.refl _ | exact RowLe.refl _ _ _ | exact trivial
  · obtain ⟨hx, ⟨ho, hi⟩, he⟩ := hx
    have hxs := small_of hsm' hx ho hi
    conv => whnf
    repeat' first
      | (refine call_if (commitr_spec x) (by first | exact .inl rfl | exact .inr ⟨rfl, rfl⟩) (need_intro ?_ ?_); (conv => whnf))
      | (refine NextVC.mk (commitC x).1 ?_ ?_ ?_; (conv => whnf))
      | (refine bc_true (by assumption) ?_; (conv => whnf))
      | (refine bc_false (by assumption) ?_; (conv => whnf))
      | (refine bc_intro (fun _ => ?_) (fun _ => ?_) <;> (conv => whnf))
      | (refine need_intro ?_ ?_; (conv => whnf))
      | (refine wk_refl ?_; (conv => whnf))
      | (refine draw_intro (by kernel_rfl) ?_; (conv => whnf))
      | (refine ord_intro (by kernel_rfl) ?_; (conv => whnf))
    all_goals try simp only [Bool.not_eq_true', Bool.not_eq_false', beq_iff_eq, beq_eq_false_iff_ne, bne_iff_ne, bne_eq_false_iff_eq, ne_eq, decide_eq_true_eq, decide_eq_false_iff_not, Option.getD_none, Option.getD_some, cellsWr, bytesWr, cellsRow', bytesRow, true_and, and_true] at *
    all_goals first
      | exact trivial
      | omega
      | assumption
      | exact DLe.refl _
      | (have hn := commit_next (x := x) hx (by omega) (by assumption); omega)
      | (have hc0 : (commitC x).2 = 0 := by assumption
         have hn := commit_next (x := x) hx (by omega) hc0
         refine ⟨hn.1, ⟨hn.2.1.trans ho, hn.2.2.1.trans hi⟩, ?_⟩
         rw [← he, settle_step (x := x) (by omega), if_pos hc0, show x.pend.length - 1 = (commitC x).1.pend.length by omega])
      | (rw [← he, settle_end (x := x) (by omega)]
         (refine ⟨LeS.tup (LeL.cons (LeS.agg ?_) (LeL.cons (LeS.refl _) LeL.nil)), trivial⟩
          repeat' first
            | exact LeL.nil
            | refine LeL.cons ?_ ?_
          all_goals first
            | exact LeS.refl _
            | exact les_own rfl
            | exact les_nil rfl
            | exact LeS.d (DLe.rows (by simp only [List.length_drop]; omega) row_drop)
            | exact les_row (by simp only [List.length_drop]; omega) row_drop
            | exact les_row (by simp only [List.length_append]) (row_append rfl (RowLe.refl _ _ _) (RowLe.refl _ _ _))
            | exact les_row (by simp only [List.length_append]) (row_append (by omega) row_zero row_zero)
            | exact les_row (by simp only [List.length_append, List.length_singleton]) (row_snoc rfl (RowLe.refl _ _ _) (jlt3 (DLe.of_eq rfl) (DLe.of_eq rfl) (DLe.of_eq rfl)))
          done)
         done)
      | (rw [← he, settle_step (x := x) (by omega), if_neg (by assumption)]
         (refine ⟨LeS.tup (LeL.cons (LeS.agg ?_) (LeL.cons (LeS.refl _) LeL.nil)), trivial⟩
          repeat' first
            | exact LeL.nil
            | refine LeL.cons ?_ ?_
          all_goals first
            | exact LeS.refl _
            | exact les_own rfl
            | exact les_nil rfl
            | exact LeS.d (DLe.rows (by simp only [List.length_drop]; omega) row_drop)
            | exact les_row (by simp only [List.length_drop]; omega) row_drop
            | exact les_row (by simp only [List.length_append]) (row_append rfl (RowLe.refl _ _ _) (RowLe.refl _ _ _))
            | exact les_row (by simp only [List.length_append]) (row_append (by omega) row_zero row_zero)
            | exact les_row (by simp only [List.length_append, List.length_singleton]) (row_snoc rfl (RowLe.refl _ _ _) (jlt3 (DLe.of_eq rfl) (DLe.of_eq rfl) (DLe.of_eq rfl)))
          done)
         done)
      | trace_state
end Go.Proofs.YtngdpchhogfhfaaGreatDoor
