/- Contracts of functions that the law reaches: YtngdpchhogfhfaaGreatDoorCom. Written for this claim. -/
import Derived.Test.YtngdpchhogfhfaaGreatDoorTab
import Derived.Test.YtngdpchhogfhfaaGreatDoorSxTab
namespace Go.Proofs.YtngdpchhogfhfaaGreatDoor
open Go Go.Sx Go.ChangeShapes Go.WideShapes Go.ChangeAt Go.RowKit
set_option linter.unusedVariables false
set_option linter.unusedSimpArgs false
set_option maxRecDepth 100000
def nextS (e v : Int) : (Int × Int) × Int := if !(stampOk e v) then ((0, 0), 1) else if v = 1099511627776 then ((0, 0), 16) else ((e, v + 1), 0)
theorem nextS_full {e v : Int} (h : stampOk e v = true) (hv : v = 1099511627776) : nextS e v = ((0, 0), 16) := by
  subst hv
  simp [nextS, h]
theorem nextS_ok {e v : Int} (h : stampOk e v = true) (hv : ¬ v = 1099511627776) : nextS e v = ((e, v + 1), 0) := by simp [nextS, h, hv]
theorem snextp_spec (e v : Int) : Sx.Spec Tryz.prog GG 144 [.agg [.d (.int .i64 e), .d (.int .i64 v)]] [] (.tup [.agg [.d (.int .i64 (nextS e v).1.1), .d (.int .i64 (nextS e v).1.2)], .d (.int .i64 (nextS e v).2)]) [] := by
  have hw : stampOk e v = true → IntKind.i64.wrap (v + 1) = v + 1 := fun h => by
    have := stamp_of.1 h
    exact wrap_of (by omega) (by omega)
  refine spec_intro (E := EE) (fn := Tryz.f144) eok (by kernel_rfl) (by kernel_rfl) Tryz.call144 (by kernel_rfl) (by kernel_rfl) ?_
  conv => whnf
  repeat' first
    | (refine call_intro (stampOkp_spec _ _) ?_ (by first | exact .inl rfl | exact .inr ⟨rfl, rfl⟩); (conv => whnf))
    | (refine bc_true (by assumption) ?_; (conv => whnf))
    | (refine bc_false (by assumption) ?_; (conv => whnf))
    | (refine bc_intro (fun _ => ?_) (fun _ => ?_) <;> (conv => whnf))
    | (refine need_intro ?_ ?_; (conv => whnf))
    | (refine wk_refl ?_; (conv => whnf))
    | (refine draw_intro (by kernel_rfl) ?_; (conv => whnf))
    | (refine ord_intro (by kernel_rfl) ?_; (conv => whnf))
  all_goals try simp only [Bool.not_eq_true', Bool.not_eq_false', beq_iff_eq, beq_eq_false_iff_ne, ne_eq] at *
  all_goals first
    | (have ee : nextS e v = ((0, 0), 1) := by simp [nextS, *]
       rw [ee]; exact ⟨LeS.refl _, trivial⟩)
    | (rw [nextS_full (by assumption) (by assumption)]; exact ⟨LeS.refl _, trivial⟩)
    | (rw [nextS_ok (by assumption) (by assumption), hw (by assumption)]; exact ⟨LeS.refl _, trivial⟩)
    | trace_state
theorem snextr_spec (e v : Int) : Sx.Spec Tryz.prog GG 102 [.agg [.d (.int .i64 e), .d (.int .i64 v)]] [] (.tup [.agg [.d (.int .i64 (nextS e v).1.1), .d (.int .i64 (nextS e v).1.2)], .d (.int .i64 (nextS e v).2)]) [] := by
  have hw : stampOk e v = true → IntKind.i64.wrap (v + 1) = v + 1 := fun h => by
    have := stamp_of.1 h
    exact wrap_of (by omega) (by omega)
  refine spec_intro (E := EE) (fn := Tryz.f102) eok (by kernel_rfl) (by kernel_rfl) Tryz.call102 (by kernel_rfl) (by kernel_rfl) ?_
  conv => whnf
  repeat' first
    | (refine call_intro (stampOkr_spec _ _) ?_ (by first | exact .inl rfl | exact .inr ⟨rfl, rfl⟩); (conv => whnf))
    | (refine bc_true (by assumption) ?_; (conv => whnf))
    | (refine bc_false (by assumption) ?_; (conv => whnf))
    | (refine bc_intro (fun _ => ?_) (fun _ => ?_) <;> (conv => whnf))
    | (refine need_intro ?_ ?_; (conv => whnf))
    | (refine wk_refl ?_; (conv => whnf))
    | (refine draw_intro (by kernel_rfl) ?_; (conv => whnf))
    | (refine ord_intro (by kernel_rfl) ?_; (conv => whnf))
  all_goals try simp only [Bool.not_eq_true', Bool.not_eq_false', beq_iff_eq, beq_eq_false_iff_ne, ne_eq] at *
  all_goals first
    | (have ee : nextS e v = ((0, 0), 1) := by simp [nextS, *]
       rw [ee]; exact ⟨LeS.refl _, trivial⟩)
    | (rw [nextS_full (by assumption) (by assumption)]; exact ⟨LeS.refl _, trivial⟩)
    | (rw [nextS_ok (by assumption) (by assumption), hw (by assumption)]; exact ⟨LeS.refl _, trivial⟩)
    | trace_state
/-- one write of a table that has room -/
theorem applyOne_at (c : CopyT) {n : Nat} {g : Nat → Nat → D} : ((n = 1 ∧ RowLe n 3 g (cellOf encWr [c.pend.getD 0 default])) ∧ validC c = true ∧ c.pend.length ≠ 0) →
    Sx.Spec Tryz.prog GG 145 [.d (encL encRow 2 c.rows), .d (.list n 3 g)] [] (.tup [.d (encL encRow 2 (doF c.rows (c.pend.getD 0 default)).1), .d (.int .i64 0)]) [] := by
  rintro ⟨⟨rfl, hg⟩, hv, hp⟩
  obtain ⟨h1, h2, h3, h4, h5, h6⟩ := valid_head hv
  have hm := getD_mem (l := c.pend) (i := 0) (by omega)
  have hr := (do_room h3 (valid_pend hv _ hm).1 (by omega)).1
  have := (applyp_spec c.rows [c.pend.getD 0 default] (by simp)).arg (LeL.cons (LeS.refl _) (LeL.cons (LeS.d (DLe.rows rfl hg)) LeL.nil))
  rw [apply_one (validT_iff.2 h3), if_pos hr] at this
  exact this
def Small (c : CopyT) : Prop := c.rows.length ≤ 1000000 ∧ c.pend.length ≤ 1000000 ∧ c.out.rows.length ≤ 4398046511104 ∧ c.inn.rows.length ≤ 4398046511104
theorem commit_bad {c : CopyT} (h : validC c = false) : commitC c = (noCopy, 1) := by simp [commitC, h]
theorem commit_none {c : CopyT} (h : validC c = true) (hp : c.pend.length = 0) : commitC c = (noCopy, 7) := by simp [commitC, h, hp]
theorem commit_full {c : CopyT} (h : validC c = true) (hp : ¬ c.pend.length = 0) (hv : c.sv = 1099511627776) : commitC c = (noCopy, 16) := by simp [commitC, h, hp, hv]
theorem commit_ok {c : CopyT} (h : validC c = true) (hp : ¬ c.pend.length = 0) (hv : ¬ c.sv = 1099511627776) : commitC c = ({ c with rows := (doF c.rows (c.pend.getD 0 default)).1, pend := c.pend.drop 1, sv := c.sv + 1 }, 0) := by simp [commitC, h, hp, hv]
theorem commitp_spec (c : CopyT) : Small c → Sx.Spec Tryz.prog GG 131 [.agg (copyL c)] [] (.tup [.agg (copyL (commitC c).1), .d (.int .i64 (commitC c).2)]) [] := by
  rintro ⟨h1, h2, h3, h4⟩
  refine spec_intro (E := EE) (fn := Tryz.f131) eok (by kernel_rfl) (by kernel_rfl) Tryz.call131 (by kernel_rfl) (by kernel_rfl) ?_
  conv => whnf
  repeat' first
    | (refine call_if (validp_spec c) (by first | exact .inl rfl | exact .inr ⟨rfl, rfl⟩) (need_intro ?_ ?_); (conv => whnf))
    | (refine call_intro (snextp_spec _ _) ?_ (by first | exact .inl rfl | exact .inr ⟨rfl, rfl⟩); (conv => whnf))
    | (refine call_if (cloneC_spec c) (by first | exact .inl rfl | exact .inr ⟨rfl, rfl⟩) (need_intro ?_ ?_); (conv => whnf))
    | (refine call_if (applyOne_at c) (by first | exact .inl rfl | exact .inr ⟨rfl, rfl⟩) (need_intro ?_ ?_); (conv => whnf))
    | (refine bc_true (by assumption) ?_; (conv => whnf))
    | (refine bc_false (by assumption) ?_; (conv => whnf))
    | (refine bc_intro (fun _ => ?_) (fun _ => ?_) <;> (conv => whnf))
    | (refine need_intro ?_ ?_; (conv => whnf))
    | (refine wk_refl ?_; (conv => whnf))
    | (refine draw_intro (by kernel_rfl) ?_; (conv => whnf))
    | (refine ord_intro (by kernel_rfl) ?_; (conv => whnf))
  all_goals try simp only [Bool.not_eq_true', Bool.not_eq_false', beq_iff_eq, beq_eq_false_iff_ne, bne_iff_ne, bne_eq_false_iff_eq, ne_eq, Option.getD_none, Option.getD_some] at *
  all_goals first
    | omega
    | exact ⟨by omega, by omega, by omega⟩
    | exact ⟨by omega, by omega, by omega, by omega⟩
    | (rw [commit_bad (by assumption)]
       (refine ⟨LeS.tup (LeL.cons (LeS.agg ?_) (LeL.cons (LeS.refl _) LeL.nil)), trivial⟩
        repeat' first
          | exact LeL.nil
          | refine LeL.cons ?_ ?_
        all_goals first
          | exact LeS.refl _
          | exact les_own rfl
          | exact les_nil rfl
          | exact LeS.d (DLe.rows (by simp only [List.length_drop]; omega) row_drop)
          | exact les_row (by simp only [List.length_drop]; omega) row_drop
          | exact les_row (by simp only [List.length_append, List.length_singleton]) (row_snoc rfl (RowLe.refl _ _ _) (jlt3 (DLe.of_eq rfl) (DLe.of_eq rfl) (DLe.of_eq rfl)))
        done)
       done)
    | (rw [commit_none (by assumption) (by omega)]
       (refine ⟨LeS.tup (LeL.cons (LeS.agg ?_) (LeL.cons (LeS.refl _) LeL.nil)), trivial⟩
        repeat' first
          | exact LeL.nil
          | refine LeL.cons ?_ ?_
        all_goals first
          | exact LeS.refl _
          | exact les_own rfl
          | exact les_nil rfl
          | exact LeS.d (DLe.rows (by simp only [List.length_drop]; omega) row_drop)
          | exact les_row (by simp only [List.length_drop]; omega) row_drop
          | exact les_row (by simp only [List.length_append, List.length_singleton]) (row_snoc rfl (RowLe.refl _ _ _) (jlt3 (DLe.of_eq rfl) (DLe.of_eq rfl) (DLe.of_eq rfl)))
        done)
       done)
    | (have hst := (valid_head (c := c) (by assumption)).2.1
       have hn : ¬ (nextS c.se c.sv).2 = 0 := by assumption
       by_cases hv : c.sv = 1099511627776
       · rw [nextS_full hst hv, commit_full (by assumption) (by omega) hv]
         (refine ⟨LeS.tup (LeL.cons (LeS.agg ?_) (LeL.cons (LeS.refl _) LeL.nil)), trivial⟩
          repeat' first
            | exact LeL.nil
            | refine LeL.cons ?_ ?_
          all_goals first
            | exact LeS.refl _
            | exact les_own rfl
            | exact les_nil rfl
            | exact LeS.d (DLe.rows (by simp only [List.length_drop]; omega) row_drop)
            | exact les_row (by simp only [List.length_drop]; omega) row_drop
            | exact les_row (by simp only [List.length_append, List.length_singleton]) (row_snoc rfl (RowLe.refl _ _ _) (jlt3 (DLe.of_eq rfl) (DLe.of_eq rfl) (DLe.of_eq rfl)))
          done)
       · rw [nextS_ok hst hv] at hn
         exact absurd rfl hn)
    | (have hst := (valid_head (c := c) (by assumption)).2.1
       have hn : (nextS c.se c.sv).2 = 0 := by assumption
       by_cases hv : c.sv = 1099511627776
       · rw [nextS_full hst hv] at hn
         exact absurd hn (by decide)
       · rw [nextS_ok hst hv, commit_ok (by assumption) (by omega) hv]
         (refine ⟨LeS.tup (LeL.cons (LeS.agg ?_) (LeL.cons (LeS.refl _) LeL.nil)), trivial⟩
          repeat' first
            | exact LeL.nil
            | refine LeL.cons ?_ ?_
          all_goals first
            | exact LeS.refl _
            | exact les_own rfl
            | exact les_nil rfl
            | exact LeS.d (DLe.rows (by simp only [List.length_drop]; omega) row_drop)
            | exact les_row (by simp only [List.length_drop]; omega) row_drop
            | exact les_row (by simp only [List.length_append, List.length_singleton]) (row_snoc rfl (RowLe.refl _ _ _) (jlt3 (DLe.of_eq rfl) (DLe.of_eq rfl) (DLe.of_eq rfl)))
          done)
       done)
    | (refine ⟨⟨by omega, ?_⟩, by assumption, by omega⟩
       exact .of_eq (fun i j hi hj => by rw [show i = 0 by omega]; rfl))
    | trace_state
theorem commitr_spec (c : CopyT) : Small c → Sx.Spec Tryz.prog GG 72 [.agg (copyL c)] [] (.tup [.agg (copyL (commitC c).1), .d (.int .i64 (commitC c).2)]) [] := by
  rintro ⟨h1, h2, h3, h4⟩
  refine spec_intro (E := EE) (fn := Tryz.f72) eok (by kernel_rfl) (by kernel_rfl) Tryz.call72 (by kernel_rfl) (by kernel_rfl) ?_
  conv => whnf
  repeat' first
    | (refine call_if (validr_spec c) (by first | exact .inl rfl | exact .inr ⟨rfl, rfl⟩) (need_intro ?_ ?_); (conv => whnf))
    | (refine call_intro (snextr_spec _ _) ?_ (by first | exact .inl rfl | exact .inr ⟨rfl, rfl⟩); (conv => whnf))
    | (refine call_if (do_spec c.rows (c.pend.getD 0 default).1 (c.pend.getD 0 default).2.1 (c.pend.getD 0 default).2.2) (by first | exact .inl rfl | exact .inr ⟨rfl, rfl⟩) (need_intro ?_ ?_); (conv => whnf))
    | (refine bc_true (by assumption) ?_; (conv => whnf))
    | (refine bc_false (by assumption) ?_; (conv => whnf))
    | (refine bc_intro (fun _ => ?_) (fun _ => ?_) <;> (conv => whnf))
    | (refine need_intro ?_ ?_; (conv => whnf))
    | (refine wk_refl ?_; (conv => whnf))
    | (refine draw_intro (by kernel_rfl) ?_; (conv => whnf))
    | (refine ord_intro (by kernel_rfl) ?_; (conv => whnf))
  all_goals try simp only [Bool.not_eq_true', Bool.not_eq_false', beq_iff_eq, beq_eq_false_iff_ne, bne_iff_ne, bne_eq_false_iff_eq, ne_eq, Option.getD_none, Option.getD_some, cellsWr, bytesWr, true_and, and_true] at *
  all_goals first
    | omega
    | exact ⟨by omega, by omega⟩
    | exact ⟨by omega, by omega, by omega⟩
    | exact ⟨by omega, by omega, by omega, by omega⟩
    | (rw [commit_bad (by assumption)]
       (refine ⟨LeS.tup (LeL.cons (LeS.agg ?_) (LeL.cons (LeS.refl _) LeL.nil)), trivial⟩
        repeat' first
          | exact LeL.nil
          | refine LeL.cons ?_ ?_
        all_goals first
          | exact LeS.refl _
          | exact les_own rfl
          | exact les_nil rfl
          | exact LeS.d (DLe.rows (by simp only [List.length_drop]; omega) row_drop)
          | exact les_row (by simp only [List.length_drop]; omega) row_drop
          | exact les_row (by simp only [List.length_append, List.length_singleton]) (row_snoc rfl (RowLe.refl _ _ _) (jlt3 (DLe.of_eq rfl) (DLe.of_eq rfl) (DLe.of_eq rfl)))
        done)
       done)
    | (rw [commit_none (by assumption) (by omega)]
       (refine ⟨LeS.tup (LeL.cons (LeS.agg ?_) (LeL.cons (LeS.refl _) LeL.nil)), trivial⟩
        repeat' first
          | exact LeL.nil
          | refine LeL.cons ?_ ?_
        all_goals first
          | exact LeS.refl _
          | exact les_own rfl
          | exact les_nil rfl
          | exact LeS.d (DLe.rows (by simp only [List.length_drop]; omega) row_drop)
          | exact les_row (by simp only [List.length_drop]; omega) row_drop
          | exact les_row (by simp only [List.length_append, List.length_singleton]) (row_snoc rfl (RowLe.refl _ _ _) (jlt3 (DLe.of_eq rfl) (DLe.of_eq rfl) (DLe.of_eq rfl)))
        done)
       done)
    | (have hst := (valid_head (c := c) (by assumption)).2.1
       have hn : ¬ (nextS c.se c.sv).2 = 0 := by assumption
       by_cases hv : c.sv = 1099511627776
       · rw [nextS_full hst hv, commit_full (by assumption) (by omega) hv]
         (refine ⟨LeS.tup (LeL.cons (LeS.agg ?_) (LeL.cons (LeS.refl _) LeL.nil)), trivial⟩
          repeat' first
            | exact LeL.nil
            | refine LeL.cons ?_ ?_
          all_goals first
            | exact LeS.refl _
            | exact les_own rfl
            | exact les_nil rfl
            | exact LeS.d (DLe.rows (by simp only [List.length_drop]; omega) row_drop)
            | exact les_row (by simp only [List.length_drop]; omega) row_drop
            | exact les_row (by simp only [List.length_append, List.length_singleton]) (row_snoc rfl (RowLe.refl _ _ _) (jlt3 (DLe.of_eq rfl) (DLe.of_eq rfl) (DLe.of_eq rfl)))
          done)
       · rw [nextS_ok hst hv] at hn
         exact absurd rfl hn)
    | (have hst := (valid_head (c := c) (by assumption)).2.1
       have hn : (nextS c.se c.sv).2 = 0 := by assumption
       by_cases hv : c.sv = 1099511627776
       · rw [nextS_full hst hv] at hn
         exact absurd hn (by decide)
       · rw [nextS_ok hst hv, commit_ok (by assumption) (by omega) hv]
         (refine ⟨LeS.tup (LeL.cons (LeS.agg ?_) (LeL.cons (LeS.refl _) LeL.nil)), trivial⟩
          repeat' first
            | exact LeL.nil
            | refine LeL.cons ?_ ?_
          all_goals first
            | exact LeS.refl _
            | exact les_own rfl
            | exact les_nil rfl
            | exact LeS.d (DLe.rows (by simp only [List.length_drop]; omega) row_drop)
            | exact les_row (by simp only [List.length_drop]; omega) row_drop
            | exact les_row (by simp only [List.length_append, List.length_singleton]) (row_snoc rfl (RowLe.refl _ _ _) (jlt3 (DLe.of_eq rfl) (DLe.of_eq rfl) (DLe.of_eq rfl)))
          done)
       done)
    | trace_state
end Go.Proofs.YtngdpchhogfhfaaGreatDoor
