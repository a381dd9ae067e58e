/- Contracts of functions that the law reaches: YtngdpchhogfhfaaGreatDoorJoin. Written for this claim. -/
import Derived.Test.YtngdpchhogfhfaaGreatDoorDet
import Derived.Test.YtngdpchhogfhfaaGreatDoorSxTab
namespace Go.Proofs.YtngdpchhogfhfaaGreatDoor
open Go Go.Sx Go.ChangeShapes Go.WideShapes Go.ChangeAt Go.RowKit
set_option linter.unusedVariables false
set_option linter.unusedSimpArgs false
set_option maxRecDepth 100000
theorem nextR_spec (lk : List UInt8) (lt : Bool) (hk : List UInt8) (ht : Bool) (pk : List UInt8) (pt : Bool) (qk : List UInt8) (qt : Bool) : Sx.Spec Tryz.prog GG 56 [.agg [.d (.str lk), .d (.bool lt), .d (.str hk), .d (.bool ht)], .agg [.d (.str pk), .d (.bool pt), .d (.str qk), .d (.bool qt)]] []
    (.tup [.agg (rngL (if cmpB qk qt lk lt = 0 then (pk, pt, hk, ht) else if cmpB pk pt hk ht = 0 then (lk, lt, qk, qt) else zeroR)), .d (.bool (decide (cmpB qk qt lk lt = 0) || decide (cmpB pk pt hk ht = 0)))]) [] := by
  refine spec_intro (E := EE) (fn := Tryz.f56) eok (by kernel_rfl) (by kernel_rfl) Tryz.call56 (by kernel_rfl) (by kernel_rfl) ?_
  conv => whnf
  repeat' first
    | (refine call_intro (comparep_spec _ _ _ _) ?_ (by first | exact .inl rfl | exact .inr ⟨rfl, rfl⟩); (conv => whnf))
    | (refine bc_true (by assumption) ?_; (conv => whnf))
    | (refine bc_false (by assumption) ?_; (conv => whnf))
    | (refine bc_intro (fun _ => ?_) (fun _ => ?_) <;> (conv => whnf))
    | (refine need_intro ?_ ?_; (conv => whnf))
    | (refine wk_refl ?_; (conv => whnf))
    | (refine draw_intro (by kernel_rfl) ?_; (conv => whnf))
    | (refine ord_intro (by kernel_rfl) ?_; (conv => whnf))
  all_goals try simp only [Bool.not_eq_true', Bool.not_eq_false', beq_iff_eq, beq_eq_false_iff_ne, bne_iff_ne, bne_eq_false_iff_eq, ne_eq, decide_eq_true_eq, decide_eq_false_iff_not, Option.getD_none, Option.getD_some, cellsWr, bytesWr, cellsRow', bytesRow, true_and, and_true] at *
  all_goals simp only [*, if_true, if_false, decide_true, decide_false, Bool.true_or, Bool.or_true, Bool.or_false]
  all_goals exact ⟨LeS.refl _, trivial⟩
theorem join_bad {c : CopyT} {p : PartT} (h : validC c = false) : joinC c p = (noCopy, 1) := by simp [joinC, h]
theorem join_state {c : CopyT} {p : PartT} (h : validC c = true) (h1 : p.serial = 0 ∨ c.pend.length > 0) : joinC c p = (noCopy, 7) := by
  unfold joinC
  rw [if_neg (by simp [h]), if_pos h1]
theorem join_full {c : CopyT} {p : PartT} (h : validC c = true) (h1 : ¬ (p.serial = 0 ∨ c.pend.length > 0)) (h2 : cmpB p.hk p.ht c.lk c.lt = 0 ∨ cmpB p.lk p.lt c.hk c.ht = 0) (h3 : c.rows.length + p.rows.length > 1024) : joinC c p = (noCopy, 16) := by
  unfold joinC
  rw [if_neg (by simp [h]), if_neg h1]
  by_cases hb : cmpB p.hk p.ht c.lk c.lt = 0
  · rw [if_pos hb, if_pos h3]
  · rw [if_neg hb, if_pos (h2.resolve_left hb), if_pos h3]
theorem join_gap {c : CopyT} {p : PartT} (h : validC c = true) (h1 : ¬ (p.serial = 0 ∨ c.pend.length > 0)) (h2 : ¬ cmpB p.hk p.ht c.lk c.lt = 0) (h3 : ¬ cmpB p.lk p.lt c.hk c.ht = 0) : joinC c p = (noCopy, 9) := by
  unfold joinC
  rw [if_neg (by simp [h]), if_neg h1, if_neg h2, if_neg h3]
theorem join_below {c : CopyT} {p : PartT} (h : validC c = true) (h1 : ¬ (p.serial = 0 ∨ c.pend.length > 0)) (h2 : cmpB p.hk p.ht c.lk c.lt = 0) (h3 : ¬ c.rows.length + p.rows.length > 1024) : joinC c p = ({ c with lk := p.lk, lt := p.lt, rows := p.rows ++ c.rows }, 0) := by
  unfold joinC
  rw [if_neg (by simp [h]), if_neg h1, if_pos h2, if_neg h3]
theorem join_above {c : CopyT} {p : PartT} (h : validC c = true) (h1 : ¬ (p.serial = 0 ∨ c.pend.length > 0)) (h2 : ¬ cmpB p.hk p.ht c.lk c.lt = 0) (hb : cmpB p.lk p.lt c.hk c.ht = 0) (h3 : ¬ c.rows.length + p.rows.length > 1024) : joinC c p = ({ c with hk := p.hk, ht := p.ht, rows := c.rows ++ p.rows }, 0) := by
  unfold joinC
  rw [if_neg (by simp [h]), if_neg h1, if_neg h2, if_pos hb, if_neg h3]
theorem joinp_spec (c : CopyT) (p : PartT) : (Small c ∧ p.rows.length ≤ 4398046511104 ∧ (p = c.out ∨ p = c.inn)) → Sx.Spec Tryz.prog GG 95 [.agg (copyL c), .agg (partL p)] [] (.tup [.agg (copyL (joinC c p).1), .d (.int .i64 (joinC c p).2)]) [] := by
  rintro ⟨⟨h1, h2, h3, h4⟩, hpl, hpc⟩
  have w1 : IntKind.i64.wrap ((c.rows.length : Int) + (p.rows.length : Int)) = ((c.rows.length + p.rows.length : Nat) : Int) := by rw [wrap_of (by omega) (by omega)]; omega
  refine spec_intro (E := EE) (fn := Tryz.f95) eok (by kernel_rfl) (by kernel_rfl) Tryz.call95 (by kernel_rfl) (by kernel_rfl) ?_
  conv => whnf
  repeat' first
    | (refine call_if (validp_spec c) (by first | exact .inl rfl | exact .inr ⟨rfl, rfl⟩) (need_intro ?_ ?_); (conv => whnf))
    | (refine call_intro (nextR_spec _ _ _ _ _ _ _ _) ?_ (by first | exact .inl rfl | exact .inr ⟨rfl, rfl⟩); (conv => whnf))
    | (refine call_if (cloneCR_at 600 c) (by first | exact .inl rfl | exact .inr ⟨rfl, rfl⟩) (need_intro ?_ ?_); (conv => whnf))
    | (refine call_if (cloneR_at 601 p.rows) (by first | exact .inl rfl | exact .inr ⟨rfl, rfl⟩) (need_intro ?_ ?_); (conv => whnf))
    | (refine call_intro (comparep_spec _ _ _ _) ?_ (by first | exact .inl rfl | exact .inr ⟨rfl, rfl⟩); (conv => whnf))
    | (refine bc_true (by assumption) ?_; (conv => whnf))
    | (refine bc_false (by assumption) ?_; (conv => whnf))
    | (refine bc_intro (fun _ => ?_) (fun _ => ?_) <;> (conv => whnf))
    | (refine need_intro ?_ ?_; (conv => whnf))
    | (refine wk_refl ?_; (conv => whnf))
    | (refine draw_intro (by kernel_rfl) ?_; (conv => whnf))
    | (refine ord_intro (by kernel_rfl) ?_; (conv => whnf))
  all_goals try simp only [w1] at *
  all_goals try simp only [Bool.not_eq_true', Bool.not_eq_false', beq_iff_eq, beq_eq_false_iff_ne, bne_iff_ne, bne_eq_false_iff_eq, ne_eq, decide_eq_true_eq, decide_eq_false_iff_not, Option.getD_none, Option.getD_some, cellsWr, bytesWr, cellsRow', bytesRow, true_and, and_true] at *
  all_goals try simp only [Bool.or_eq_true, Bool.or_eq_false_iff, decide_eq_true_eq, decide_eq_false_iff_not] at *
  all_goals first
    | omega
    | exact ⟨by omega, by omega⟩
    | exact ⟨by omega, by omega, by omega⟩
    | exact ⟨by omega, by omega, by omega, by omega⟩
    | (rw [join_bad (by assumption)]
       (refine ⟨LeS.tup (LeL.cons (LeS.agg ?_) (LeL.cons (LeS.refl _) LeL.nil)), trivial⟩
        repeat' first
          | exact LeL.nil
          | refine LeL.cons ?_ ?_
        all_goals first
          | exact LeS.refl _
          | exact les_own rfl
          | exact les_nil rfl
          | exact LeS.d (DLe.rows (by simp only [List.length_drop]; omega) row_drop)
          | exact les_row (by simp only [List.length_drop]; omega) row_drop
          | exact LeS.d (DLe.rows (by simp only [List.length_append]) row_app2)
          | exact LeS.d (DLe.rows (by simp only [List.length_append]) row_app3)
          | exact les_row (by simp only [List.length_append]) (row_append rfl (RowLe.refl _ _ _) (RowLe.refl _ _ _))
          | exact les_row (by simp only [List.length_append]) (row_append (by omega) row_zero row_zero)
          | exact les_row (by simp only [List.length_append, List.length_singleton]) (row_snoc rfl (RowLe.refl _ _ _) (jlt3 (DLe.of_eq rfl) (DLe.of_eq rfl) (DLe.of_eq rfl)))
        done)
       done)
    | (rw [join_state (by assumption) (by omega)]
       (refine ⟨LeS.tup (LeL.cons (LeS.agg ?_) (LeL.cons (LeS.refl _) LeL.nil)), trivial⟩
        repeat' first
          | exact LeL.nil
          | refine LeL.cons ?_ ?_
        all_goals first
          | exact LeS.refl _
          | exact les_own rfl
          | exact les_nil rfl
          | exact LeS.d (DLe.rows (by simp only [List.length_drop]; omega) row_drop)
          | exact les_row (by simp only [List.length_drop]; omega) row_drop
          | exact LeS.d (DLe.rows (by simp only [List.length_append]) row_app2)
          | exact LeS.d (DLe.rows (by simp only [List.length_append]) row_app3)
          | exact les_row (by simp only [List.length_append]) (row_append rfl (RowLe.refl _ _ _) (RowLe.refl _ _ _))
          | exact les_row (by simp only [List.length_append]) (row_append (by omega) row_zero row_zero)
          | exact les_row (by simp only [List.length_append, List.length_singleton]) (row_snoc rfl (RowLe.refl _ _ _) (jlt3 (DLe.of_eq rfl) (DLe.of_eq rfl) (DLe.of_eq rfl)))
        done)
       done)
    | (rename_i hg
       rw [join_gap (by assumption) (by omega) hg.1 hg.2]
       (refine ⟨LeS.tup (LeL.cons (LeS.agg ?_) (LeL.cons (LeS.refl _) LeL.nil)), trivial⟩
        repeat' first
          | exact LeL.nil
          | refine LeL.cons ?_ ?_
        all_goals first
          | exact LeS.refl _
          | exact les_own rfl
          | exact les_nil rfl
          | exact LeS.d (DLe.rows (by simp only [List.length_drop]; omega) row_drop)
          | exact les_row (by simp only [List.length_drop]; omega) row_drop
          | exact LeS.d (DLe.rows (by simp only [List.length_append]) row_app2)
          | exact LeS.d (DLe.rows (by simp only [List.length_append]) row_app3)
          | exact les_row (by simp only [List.length_append]) (row_append rfl (RowLe.refl _ _ _) (RowLe.refl _ _ _))
          | exact les_row (by simp only [List.length_append]) (row_append (by omega) row_zero row_zero)
          | exact les_row (by simp only [List.length_append, List.length_singleton]) (row_snoc rfl (RowLe.refl _ _ _) (jlt3 (DLe.of_eq rfl) (DLe.of_eq rfl) (DLe.of_eq rfl)))
        done)
       done)
    | (rw [join_full (by assumption) (by omega) (by assumption) (by omega)]
       (refine ⟨LeS.tup (LeL.cons (LeS.agg ?_) (LeL.cons (LeS.refl _) LeL.nil)), trivial⟩
        repeat' first
          | exact LeL.nil
          | refine LeL.cons ?_ ?_
        all_goals first
          | exact LeS.refl _
          | exact les_own rfl
          | exact les_nil rfl
          | exact LeS.d (DLe.rows (by simp only [List.length_drop]; omega) row_drop)
          | exact les_row (by simp only [List.length_drop]; omega) row_drop
          | exact LeS.d (DLe.rows (by simp only [List.length_append]) row_app2)
          | exact LeS.d (DLe.rows (by simp only [List.length_append]) row_app3)
          | exact les_row (by simp only [List.length_append]) (row_append rfl (RowLe.refl _ _ _) (RowLe.refl _ _ _))
          | exact les_row (by simp only [List.length_append]) (row_append (by omega) row_zero row_zero)
          | exact les_row (by simp only [List.length_append, List.length_singleton]) (row_snoc rfl (RowLe.refl _ _ _) (jlt3 (DLe.of_eq rfl) (DLe.of_eq rfl) (DLe.of_eq rfl)))
        done)
       done)
    | (rename_i hx _ _
       have hv : validC c = true := by assumption
       have hAB : cmpB p.hk p.ht c.lk c.lt = 0 ∨ cmpB p.lk p.lt c.hk c.ht = 0 := by assumption
       have hs : ¬ (p.serial = 0 ∨ c.pend.length > 0) := by omega
       have hf : ¬ c.rows.length + p.rows.length > 1024 := by omega
       have hvp := part_valid hv p hpc (by omega)
       by_cases hA : cmpB p.hk p.ht c.lk c.lt = 0
       · simp only [if_pos hA] at hx
         rw [join_below hv hs hA hf]
         simp only [if_pos hA]
         first
           | exact absurd cmp_self hx
           | skip
         all_goals
           (refine ⟨LeS.tup (LeL.cons (LeS.agg ?_) (LeL.cons (LeS.refl _) LeL.nil)), trivial⟩
            repeat' first
              | exact LeL.nil
              | refine LeL.cons ?_ ?_
            all_goals first
              | exact LeS.refl _
              | exact les_own rfl
              | exact les_nil rfl
              | exact LeS.d (DLe.rows (by simp only [List.length_drop]; omega) row_drop)
              | exact les_row (by simp only [List.length_drop]; omega) row_drop
              | exact LeS.d (DLe.rows (by simp only [List.length_append]) row_app2)
              | exact LeS.d (DLe.rows (by simp only [List.length_append]) row_app3)
              | exact les_row (by simp only [List.length_append]) (row_append rfl (RowLe.refl _ _ _) (RowLe.refl _ _ _))
              | exact les_row (by simp only [List.length_append]) (row_append (by omega) row_zero row_zero)
              | exact les_row (by simp only [List.length_append, List.length_singleton]) (row_snoc rfl (RowLe.refl _ _ _) (jlt3 (DLe.of_eq rfl) (DLe.of_eq rfl) (DLe.of_eq rfl)))
            done)
       · have hB := hAB.resolve_left hA
         simp only [if_neg hA, if_pos hB] at hx
         rw [join_above hv hs hA hB hf]
         simp only [if_neg hA, if_pos hB]
         first
           | (have hce : c.rows = [] := by
                obtain ⟨hvr, _⟩ := valid_head hv
                obtain ⟨he, _⟩ := validPart_range hvp.1
                obtain ⟨g1, g2, g3⟩ := empty_false he
                simp only [validR', validR, Bool.and_eq_true, decide_eq_true_eq] at hvr
                have e := cmp_eq (a := (p.lk, p.lt)) (b := (c.hk, c.ht)) g1 hvr.1.2 hB
                simp only [Prod.mk.injEq] at e
                rw [e.1, e.2] at hx
                exact rows_empty hv hx
              simp only [hce, List.nil_append, List.length_nil, Nat.add_zero]
              (refine ⟨LeS.tup (LeL.cons (LeS.agg ?_) (LeL.cons (LeS.refl _) LeL.nil)), trivial⟩
               repeat' first
                 | exact LeL.nil
                 | refine LeL.cons ?_ ?_
               all_goals first
                 | exact LeS.d (DLe.rows rfl (.of_eq fun i j hi _ => by simp only [Nat.zero_add, hi, if_true]))
                 | exact LeS.refl _)
              done)
           | skip
         all_goals
           (refine ⟨LeS.tup (LeL.cons (LeS.agg ?_) (LeL.cons (LeS.refl _) LeL.nil)), trivial⟩
            repeat' first
              | exact LeL.nil
              | refine LeL.cons ?_ ?_
            all_goals first
              | exact LeS.refl _
              | exact les_own rfl
              | exact les_nil rfl
              | exact LeS.d (DLe.rows (by simp only [List.length_drop]; omega) row_drop)
              | exact les_row (by simp only [List.length_drop]; omega) row_drop
              | exact LeS.d (DLe.rows (by simp only [List.length_append]) row_app2)
              | exact LeS.d (DLe.rows (by simp only [List.length_append]) row_app3)
              | exact les_row (by simp only [List.length_append]) (row_append rfl (RowLe.refl _ _ _) (RowLe.refl _ _ _))
              | exact les_row (by simp only [List.length_append]) (row_append (by omega) row_zero row_zero)
              | exact les_row (by simp only [List.length_append, List.length_singleton]) (row_snoc rfl (RowLe.refl _ _ _) (jlt3 (DLe.of_eq rfl) (DLe.of_eq rfl) (DLe.of_eq rfl)))
            done)
       done)
    | trace_state
theorem attachp_spec (c : CopyT) : Small c → Sx.Spec Tryz.prog GG 57 [.agg (copyL c)] [] (.tup [.agg (copyL (attachC c).1), .d (.int .i64 (attachC c).2)]) [] := by
  intro hs
  have hs' := hs
  obtain ⟨h1, h2, h3, h4⟩ := hs
  refine spec_intro (E := EE) (fn := Tryz.f57) eok (by kernel_rfl) (by kernel_rfl) Tryz.call57 (by kernel_rfl) (by kernel_rfl) ?_
  conv => whnf
  repeat' first
    | (refine call_if (joinp_spec c c.inn) (by first | exact .inl rfl | exact .inr ⟨rfl, rfl⟩) (need_intro ?_ ?_); (conv => whnf))
    | (refine bc_true (by assumption) ?_; (conv => whnf))
    | (refine bc_false (by assumption) ?_; (conv => whnf))
    | (refine bc_intro (fun _ => ?_) (fun _ => ?_) <;> (conv => whnf))
    | (refine need_intro ?_ ?_; (conv => whnf))
    | (refine wk_refl ?_; (conv => whnf))
    | (refine draw_intro (by kernel_rfl) ?_; (conv => whnf))
    | (refine ord_intro (by kernel_rfl) ?_; (conv => whnf))
  all_goals try simp only [Bool.not_eq_true', Bool.not_eq_false', beq_iff_eq, beq_eq_false_iff_ne, bne_iff_ne, bne_eq_false_iff_eq, ne_eq, decide_eq_true_eq, decide_eq_false_iff_not, Option.getD_none, Option.getD_some, cellsWr, bytesWr, cellsRow', bytesRow, true_and, and_true] at *
  all_goals first
    | exact ⟨hs', h4, by simp⟩
    | (have hj : (joinC c c.inn).2 = 0 := by assumption
       have e : attachC c = ({ (joinC c c.inn).1 with took := c.inn.serial, src := c.inn.src, inn := noPart }, 0) := by simp [attachC, hj]
       rw [e, hj]
       (refine ⟨LeS.tup (LeL.cons (LeS.agg ?_) (LeL.cons (LeS.refl _) LeL.nil)), trivial⟩
        repeat' first
          | exact LeL.nil
          | refine LeL.cons ?_ ?_
        all_goals first
          | exact LeS.refl _
          | exact les_own rfl
          | exact les_nil rfl
          | exact LeS.d (DLe.rows (by simp only [List.length_drop]; omega) row_drop)
          | exact les_row (by simp only [List.length_drop]; omega) row_drop
          | exact LeS.d (DLe.rows (by simp only [List.length_append]) row_app2)
          | exact LeS.d (DLe.rows (by simp only [List.length_append]) row_app3)
          | exact les_row (by simp only [List.length_append]) (row_append rfl (RowLe.refl _ _ _) (RowLe.refl _ _ _))
          | exact les_row (by simp only [List.length_append]) (row_append (by omega) row_zero row_zero)
          | exact les_row (by simp only [List.length_append, List.length_singleton]) (row_snoc rfl (RowLe.refl _ _ _) (jlt3 (DLe.of_eq rfl) (DLe.of_eq rfl) (DLe.of_eq rfl)))
        done)
       done)
    | (have hj : (joinC c c.inn).2 = 0 := by assumption
       have e : attachC c = ({ (joinC c c.inn).1 with took := c.inn.serial, src := c.inn.src, inn := noPart }, 0) := by simp [attachC, hj]
       rw [e]
       (refine ⟨LeS.tup (LeL.cons (LeS.agg ?_) (LeL.cons (LeS.refl _) LeL.nil)), trivial⟩
        repeat' first
          | exact LeL.nil
          | refine LeL.cons ?_ ?_
        all_goals first
          | exact LeS.refl _
          | exact les_own rfl
          | exact les_nil rfl
          | exact LeS.d (DLe.rows (by simp only [List.length_drop]; omega) row_drop)
          | exact les_row (by simp only [List.length_drop]; omega) row_drop
          | exact LeS.d (DLe.rows (by simp only [List.length_append]) row_app2)
          | exact LeS.d (DLe.rows (by simp only [List.length_append]) row_app3)
          | exact les_row (by simp only [List.length_append]) (row_append rfl (RowLe.refl _ _ _) (RowLe.refl _ _ _))
          | exact les_row (by simp only [List.length_append]) (row_append (by omega) row_zero row_zero)
          | exact les_row (by simp only [List.length_append, List.length_singleton]) (row_snoc rfl (RowLe.refl _ _ _) (jlt3 (DLe.of_eq rfl) (DLe.of_eq rfl) (DLe.of_eq rfl)))
        done)
       done)
    | (have hj : ¬ (joinC c c.inn).2 = 0 := by assumption
       have e : attachC c = (noCopy, (joinC c c.inn).2) := by simp [attachC, hj]
       rw [e]
       try rw [join_err hj]
       (refine ⟨LeS.tup (LeL.cons (LeS.agg ?_) (LeL.cons (LeS.refl _) LeL.nil)), trivial⟩
        repeat' first
          | exact LeL.nil
          | refine LeL.cons ?_ ?_
        all_goals first
          | exact LeS.refl _
          | exact les_own rfl
          | exact les_nil rfl
          | exact LeS.d (DLe.rows (by simp only [List.length_drop]; omega) row_drop)
          | exact les_row (by simp only [List.length_drop]; omega) row_drop
          | exact LeS.d (DLe.rows (by simp only [List.length_append]) row_app2)
          | exact LeS.d (DLe.rows (by simp only [List.length_append]) row_app3)
          | exact les_row (by simp only [List.length_append]) (row_append rfl (RowLe.refl _ _ _) (RowLe.refl _ _ _))
          | exact les_row (by simp only [List.length_append]) (row_append (by omega) row_zero row_zero)
          | exact les_row (by simp only [List.length_append, List.length_singleton]) (row_snoc rfl (RowLe.refl _ _ _) (jlt3 (DLe.of_eq rfl) (DLe.of_eq rfl) (DLe.of_eq rfl)))
        done)
       done)
    | trace_state
theorem reattachp_spec (c : CopyT) : Small c → Sx.Spec Tryz.prog GG 58 [.agg (copyL c)] [] (.tup [.agg (copyL (reattachC c).1), .d (.int .i64 (reattachC c).2)]) [] := by
  intro hs
  have hs' := hs
  obtain ⟨h1, h2, h3, h4⟩ := hs
  refine spec_intro (E := EE) (fn := Tryz.f58) eok (by kernel_rfl) (by kernel_rfl) Tryz.call58 (by kernel_rfl) (by kernel_rfl) ?_
  conv => whnf
  repeat' first
    | (refine call_if (joinp_spec c c.out) (by first | exact .inl rfl | exact .inr ⟨rfl, rfl⟩) (need_intro ?_ ?_); (conv => whnf))
    | (refine bc_true (by assumption) ?_; (conv => whnf))
    | (refine bc_false (by assumption) ?_; (conv => whnf))
    | (refine bc_intro (fun _ => ?_) (fun _ => ?_) <;> (conv => whnf))
    | (refine need_intro ?_ ?_; (conv => whnf))
    | (refine wk_refl ?_; (conv => whnf))
    | (refine draw_intro (by kernel_rfl) ?_; (conv => whnf))
    | (refine ord_intro (by kernel_rfl) ?_; (conv => whnf))
  all_goals try simp only [Bool.not_eq_true', Bool.not_eq_false', beq_iff_eq, beq_eq_false_iff_ne, bne_iff_ne, bne_eq_false_iff_eq, ne_eq, decide_eq_true_eq, decide_eq_false_iff_not, Option.getD_none, Option.getD_some, cellsWr, bytesWr, cellsRow', bytesRow, true_and, and_true] at *
  all_goals first
    | exact ⟨hs', h3, by simp⟩
    | (have hj : (joinC c c.out).2 = 0 := by assumption
       have e : reattachC c = ({ (joinC c c.out).1 with out := noPart }, 0) := by simp [reattachC, hj]
       rw [e, hj]
       (refine ⟨LeS.tup (LeL.cons (LeS.agg ?_) (LeL.cons (LeS.refl _) LeL.nil)), trivial⟩
        repeat' first
          | exact LeL.nil
          | refine LeL.cons ?_ ?_
        all_goals first
          | exact LeS.refl _
          | exact les_own rfl
          | exact les_nil rfl
          | exact LeS.d (DLe.rows (by simp only [List.length_drop]; omega) row_drop)
          | exact les_row (by simp only [List.length_drop]; omega) row_drop
          | exact LeS.d (DLe.rows (by simp only [List.length_append]) row_app2)
          | exact LeS.d (DLe.rows (by simp only [List.length_append]) row_app3)
          | exact les_row (by simp only [List.length_append]) (row_append rfl (RowLe.refl _ _ _) (RowLe.refl _ _ _))
          | exact les_row (by simp only [List.length_append]) (row_append (by omega) row_zero row_zero)
          | exact les_row (by simp only [List.length_append, List.length_singleton]) (row_snoc rfl (RowLe.refl _ _ _) (jlt3 (DLe.of_eq rfl) (DLe.of_eq rfl) (DLe.of_eq rfl)))
        done)
       done)
    | (have hj : (joinC c c.out).2 = 0 := by assumption
       have e : reattachC c = ({ (joinC c c.out).1 with out := noPart }, 0) := by simp [reattachC, hj]
       rw [e]
       (refine ⟨LeS.tup (LeL.cons (LeS.agg ?_) (LeL.cons (LeS.refl _) LeL.nil)), trivial⟩
        repeat' first
          | exact LeL.nil
          | refine LeL.cons ?_ ?_
        all_goals first
          | exact LeS.refl _
          | exact les_own rfl
          | exact les_nil rfl
          | exact LeS.d (DLe.rows (by simp only [List.length_drop]; omega) row_drop)
          | exact les_row (by simp only [List.length_drop]; omega) row_drop
          | exact LeS.d (DLe.rows (by simp only [List.length_append]) row_app2)
          | exact LeS.d (DLe.rows (by simp only [List.length_append]) row_app3)
          | exact les_row (by simp only [List.length_append]) (row_append rfl (RowLe.refl _ _ _) (RowLe.refl _ _ _))
          | exact les_row (by simp only [List.length_append]) (row_append (by omega) row_zero row_zero)
          | exact les_row (by simp only [List.length_append, List.length_singleton]) (row_snoc rfl (RowLe.refl _ _ _) (jlt3 (DLe.of_eq rfl) (DLe.of_eq rfl) (DLe.of_eq rfl)))
        done)
       done)
    | (have hj : ¬ (joinC c c.out).2 = 0 := by assumption
       have e : reattachC c = (noCopy, (joinC c c.out).2) := by simp [reattachC, hj]
       rw [e]
       try rw [join_err hj]
       (refine ⟨LeS.tup (LeL.cons (LeS.agg ?_) (LeL.cons (LeS.refl _) LeL.nil)), trivial⟩
        repeat' first
          | exact LeL.nil
          | refine LeL.cons ?_ ?_
        all_goals first
          | exact LeS.refl _
          | exact les_own rfl
          | exact les_nil rfl
          | exact LeS.d (DLe.rows (by simp only [List.length_drop]; omega) row_drop)
          | exact les_row (by simp only [List.length_drop]; omega) row_drop
          | exact LeS.d (DLe.rows (by simp only [List.length_append]) row_app2)
          | exact LeS.d (DLe.rows (by simp only [List.length_append]) row_app3)
          | exact les_row (by simp only [List.length_append]) (row_append rfl (RowLe.refl _ _ _) (RowLe.refl _ _ _))
          | exact les_row (by simp only [List.length_append]) (row_append (by omega) row_zero row_zero)
          | exact les_row (by simp only [List.length_append, List.length_singleton]) (row_snoc rfl (RowLe.refl _ _ _) (jlt3 (DLe.of_eq rfl) (DLe.of_eq rfl) (DLe.of_eq rfl)))
        done)
       done)
    | trace_state
end Go.Proofs.YtngdpchhogfhfaaGreatDoor
