/- Contracts of functions that the law reaches: YtngdpchhogfhfaaGreatDoorDet. Written for this claim. -/
import Derived.Test.YtngdpchhogfhfaaGreatDoorApp
import Derived.Test.YtngdpchhogfhfaaGreatDoorSxTab
namespace Go.Proofs.YtngdpchhogfhfaaGreatDoor
open Go Go.Sx Go.ChangeShapes Go.WideShapes Go.ChangeAt Go.RowKit
set_option linter.unusedVariables false
set_option linter.unusedSimpArgs false
set_option maxRecDepth 100000
theorem quiet_spec (c : CopyT) : Sx.Spec Tryz.prog GG 90 [.agg (copyL c)] [] (.d (.bool (quietC c))) [] := by
  refine spec_intro (E := EE) (fn := Tryz.f90) eok (by kernel_rfl) (by kernel_rfl) Tryz.call90 (by kernel_rfl) (by kernel_rfl) ?_
  conv => whnf
  repeat' first
    | (refine bc_true (by assumption) ?_; (conv => whnf))
    | (refine bc_false (by assumption) ?_; (conv => whnf))
    | (refine bc_intro (fun _ => ?_) (fun _ => ?_) <;> (conv => whnf))
    | (refine need_intro ?_ ?_; (conv => whnf))
    | (refine wk_refl ?_; (conv => whnf))
    | (refine draw_intro (by kernel_rfl) ?_; (conv => whnf))
    | (refine ord_intro (by kernel_rfl) ?_; (conv => whnf))
  all_goals try simp only [Bool.not_eq_true', Bool.not_eq_false', beq_iff_eq, beq_eq_false_iff_ne, bne_iff_ne, bne_eq_false_iff_eq, ne_eq, decide_eq_true_eq, decide_eq_false_iff_not, Option.getD_none, Option.getD_some, cellsWr, bytesWr, cellsRow', bytesRow, true_and, and_true] at *
  all_goals
    refine ⟨LeS.of_eq ?_, trivial⟩
    first
      | (simp_all [quietC]; done)
      | (simp_all [quietC]; omega)
theorem detachp_spec (c : CopyT) (bk : List UInt8) (bt : Bool) (side ser frm to_ : Int) : Small c → Sx.Spec Tryz.prog GG 54 [.agg (copyL c), .agg [.d (.str bk), .d (.bool bt)], .d (.int .i64 side), .d (.int .i64 ser), .d (.int .i64 frm), .d (.int .i64 to_)] []
    (.tup [.agg (copyL (detachC c bk bt side ser frm to_).1), .d (.int .i64 (detachC c bk bt side ser frm to_).2)]) [] := by
  rintro ⟨h1, h2, h3, h4⟩
  refine spec_intro (E := EE) (fn := Tryz.f54) eok (by kernel_rfl) (by kernel_rfl) Tryz.call54 (by kernel_rfl) (by kernel_rfl) ?_
  conv => whnf
  repeat' first
    | (refine call_if (validp_spec c) (by first | exact .inl rfl | exact .inr ⟨rfl, rfl⟩) (need_intro ?_ ?_); (conv => whnf))
    | (refine call_intro (validBoundp_spec _ _) ?_ (by first | exact .inl rfl | exact .inr ⟨rfl, rfl⟩); (conv => whnf))
    | (refine call_intro (comparep_spec _ _ _ _) ?_ (by first | exact .inl rfl | exact .inr ⟨rfl, rfl⟩); (conv => whnf))
    | (refine call_intro (emptyRp_spec _ _ _ _) ?_ (by first | exact .inl rfl | exact .inr ⟨rfl, rfl⟩); (conv => whnf))
    | (refine call_if (slicep_spec _ _ _ _ _) (by first | exact .inl rfl | exact .inr ⟨rfl, rfl⟩) (need_intro ?_ ?_); (conv => whnf))
    | (refine call_intro (numberedp_spec _) ?_ (by first | exact .inl rfl | exact .inr ⟨rfl, rfl⟩); (conv => whnf))
    | (refine call_intro (quiet_spec c) ?_ (by first | exact .inl rfl | exact .inr ⟨rfl, rfl⟩); (conv => whnf))
    | (refine call_if (cloneC_spec c) (by first | exact .inl rfl | exact .inr ⟨rfl, rfl⟩) (need_intro ?_ ?_); (conv => whnf))
    | (refine bc_true (by assumption) ?_; (conv => whnf))
    | (refine bc_false (by assumption) ?_; (conv => whnf))
    | (refine bc_intro (fun _ => ?_) (fun _ => ?_) <;> (conv => whnf))
    | (refine need_intro ?_ ?_; (conv => whnf))
    | (refine wk_refl ?_; (conv => whnf))
    | (refine draw_intro (by kernel_rfl) ?_; (conv => whnf))
    | (refine ord_intro (by kernel_rfl) ?_; (conv => whnf))
  all_goals try simp only [Bool.not_eq_true', Bool.not_eq_false', beq_iff_eq, beq_eq_false_iff_ne, bne_iff_ne, bne_eq_false_iff_eq, ne_eq, decide_eq_true_eq, decide_eq_false_iff_not, Option.getD_none, Option.getD_some, cellsWr, bytesWr, cellsRow', bytesRow, true_and, and_true] at *
  all_goals first
    | omega
    | exact ⟨by omega, by omega, by omega, by omega⟩
    | (have e : detachC c bk bt side ser frm to_ = (noCopy, 1) := by
         have e1 : detOk c bk bt side ser frm to_ = false := by
           first
             | (simp_all [detOk]; done)
             | (simp_all [detOk, serOk]; done)
             | (simp_all [detOk, serOk]; omega)
         unfold detachC
         rw [if_pos e1]
       rw [e]
       (refine ⟨LeS.tup (LeL.cons (LeS.agg ?_) (LeL.cons (LeS.refl _) LeL.nil)), trivial⟩
        repeat' first
          | exact LeL.nil
          | refine LeL.cons ?_ ?_
        all_goals first
          | exact LeS.refl _
          | exact les_own rfl
          | exact les_nil rfl
          | exact LeS.d (DLe.rows (by simp only [List.length_drop]; omega) row_drop)
          | exact les_row (by simp only [List.length_drop]; omega) row_drop
          | exact les_row (by simp only [List.length_append]) (row_append rfl (RowLe.refl _ _ _) (RowLe.refl _ _ _))
          | exact les_row (by simp only [List.length_append]) (row_append (by omega) row_zero row_zero)
          | exact les_row (by simp only [List.length_append, List.length_singleton]) (row_snoc rfl (RowLe.refl _ _ _) (jlt3 (DLe.of_eq rfl) (DLe.of_eq rfl) (DLe.of_eq rfl)))
        done)
       done)
    | (have e : detachC c bk bt side ser frm to_ = (noCopy, 7) := by
         have e1 : ¬ detOk c bk bt side ser frm to_ = false := by
           first
             | (simp_all [detOk, serOk]; done)
             | (simp_all [detOk, serOk]; omega)
         have e2 : quietC c = false := by
           first
             | (have hpl : ¬ c.pend.length = 0 := by omega
                simp only [quietC, hpl, decide_false, Bool.false_and]; done)
             | (simp_all [quietC]; done)
             | (simp_all [quietC]; omega)
         unfold detachC
         rw [if_neg e1, if_pos e2]
       rw [e]
       (refine ⟨LeS.tup (LeL.cons (LeS.agg ?_) (LeL.cons (LeS.refl _) LeL.nil)), trivial⟩
        repeat' first
          | exact LeL.nil
          | refine LeL.cons ?_ ?_
        all_goals first
          | exact LeS.refl _
          | exact les_own rfl
          | exact les_nil rfl
          | exact LeS.d (DLe.rows (by simp only [List.length_drop]; omega) row_drop)
          | exact les_row (by simp only [List.length_drop]; omega) row_drop
          | exact les_row (by simp only [List.length_append]) (row_append rfl (RowLe.refl _ _ _) (RowLe.refl _ _ _))
          | exact les_row (by simp only [List.length_append]) (row_append (by omega) row_zero row_zero)
          | exact les_row (by simp only [List.length_append, List.length_singleton]) (row_snoc rfl (RowLe.refl _ _ _) (jlt3 (DLe.of_eq rfl) (DLe.of_eq rfl) (DLe.of_eq rfl)))
        done)
       done)
    | (have e : detachC c bk bt side ser frm to_ = (noCopy, 2) := by
         have e1 : ¬ detOk c bk bt side ser frm to_ = false := by
           first
             | (simp_all [detOk, serOk]; done)
             | (simp_all [detOk, serOk]; omega)
         have e2 : ¬ quietC c = false := by
           first
             | (simp_all [quietC]; done)
             | (simp_all [quietC]; omega)
         have e3 : detBad c bk bt side = true := by
           first
             | (simp_all [detBad]; done)
             | (simp_all [detBad, emptyR', partR]; done)
         unfold detachC
         rw [if_neg e1, if_neg e2, if_pos e3]
       rw [e]
       (refine ⟨LeS.tup (LeL.cons (LeS.agg ?_) (LeL.cons (LeS.refl _) LeL.nil)), trivial⟩
        repeat' first
          | exact LeL.nil
          | refine LeL.cons ?_ ?_
        all_goals first
          | exact LeS.refl _
          | exact les_own rfl
          | exact les_nil rfl
          | exact LeS.d (DLe.rows (by simp only [List.length_drop]; omega) row_drop)
          | exact les_row (by simp only [List.length_drop]; omega) row_drop
          | exact les_row (by simp only [List.length_append]) (row_append rfl (RowLe.refl _ _ _) (RowLe.refl _ _ _))
          | exact les_row (by simp only [List.length_append]) (row_append (by omega) row_zero row_zero)
          | exact les_row (by simp only [List.length_append, List.length_singleton]) (row_snoc rfl (RowLe.refl _ _ _) (jlt3 (DLe.of_eq rfl) (DLe.of_eq rfl) (DLe.of_eq rfl)))
        done)
       done)
    | (have e : detachC c bk bt side ser frm to_ = (detNew c bk bt side ser frm to_, 0) := by
         have e1 : ¬ detOk c bk bt side ser frm to_ = false := by
           first
             | (simp_all [detOk, serOk]; done)
             | (simp_all [detOk, serOk]; omega)
         have e2 : ¬ quietC c = false := by
           first
             | (simp_all [quietC]; done)
             | (simp_all [quietC]; omega)
         have e3 : ¬ detBad c bk bt side = true := by
           first
             | (simp_all [detBad, emptyR', partR]; done)
             | (simp_all [detBad, emptyR', partR]; omega)
         unfold detachC
         rw [if_neg e1, if_neg e2, if_neg e3]
       rw [e]
       have hs : side = 0 ∨ ¬ side = 0 := Classical.em _
       rcases hs with hs | hs
       · first
           | (exact absurd hs (by assumption))
           | (simp only [detNew, partR, restR, hs, if_true, sliceR]
              (refine ⟨LeS.tup (LeL.cons (LeS.agg ?_) (LeL.cons (LeS.refl _) LeL.nil)), trivial⟩
               repeat' first
                 | exact LeL.nil
                 | refine LeL.cons ?_ ?_
               all_goals first
                 | exact LeS.refl _
                 | exact les_own rfl
                 | exact les_nil rfl
                 | exact LeS.d (DLe.rows (by simp only [List.length_drop]; omega) row_drop)
                 | exact les_row (by simp only [List.length_drop]; omega) row_drop
                 | exact les_row (by simp only [List.length_append]) (row_append rfl (RowLe.refl _ _ _) (RowLe.refl _ _ _))
                 | exact les_row (by simp only [List.length_append]) (row_append (by omega) row_zero row_zero)
                 | exact les_row (by simp only [List.length_append, List.length_singleton]) (row_snoc rfl (RowLe.refl _ _ _) (jlt3 (DLe.of_eq rfl) (DLe.of_eq rfl) (DLe.of_eq rfl)))
               done)
              done)
       · first
           | (exact absurd (by assumption) hs)
           | (simp only [detNew, partR, restR, if_neg hs, sliceR]
              (refine ⟨LeS.tup (LeL.cons (LeS.agg ?_) (LeL.cons (LeS.refl _) LeL.nil)), trivial⟩
               repeat' first
                 | exact LeL.nil
                 | refine LeL.cons ?_ ?_
               all_goals first
                 | exact LeS.refl _
                 | exact les_own rfl
                 | exact les_nil rfl
                 | exact LeS.d (DLe.rows (by simp only [List.length_drop]; omega) row_drop)
                 | exact les_row (by simp only [List.length_drop]; omega) row_drop
                 | exact les_row (by simp only [List.length_append]) (row_append rfl (RowLe.refl _ _ _) (RowLe.refl _ _ _))
                 | exact les_row (by simp only [List.length_append]) (row_append (by omega) row_zero row_zero)
                 | exact les_row (by simp only [List.length_append, List.length_singleton]) (row_snoc rfl (RowLe.refl _ _ _) (jlt3 (DLe.of_eq rfl) (DLe.of_eq rfl) (DLe.of_eq rfl)))
               done)
              done))
    | trace_state
end Go.Proofs.YtngdpchhogfhfaaGreatDoor
