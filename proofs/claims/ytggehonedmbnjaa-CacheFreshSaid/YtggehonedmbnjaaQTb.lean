/- Contracts of functions that the law reaches: YtggehonedmbnjaaQTb. Written for this claim. -/
import Derived.Test.YtggehonedmbnjaaQLaw
namespace Go.Proofs.Ytggehonedmbnjaa
open Go Go.Sx Go.ChangeShapes Go.WideShapes Go.ChangeAt Go.RowKit
set_option linter.unusedVariables false
set_option linter.unusedSimpArgs false
set_option maxRecDepth 100000
/-! tables -/
theorem validTr_spec (rows : List Row) : Sx.Spec Try.prog GG 34 [.d (encL encRow 2 rows)] [] (.d (.bool (validT rows))) [] := by
  refine spec_intro (E := EE) (fn := Try.f34) eok (by kernel_rfl) (by kernel_rfl) Try.call34 (by kernel_rfl) (by kernel_rfl) ?_
  conv => whnf
  repeat' first
    | (refine bc_true (by assumption) ?_; (conv => whnf))
    | (refine bc_false (by assumption) ?_; (conv => whnf))
    | (refine bc_intro (fun _ => ?_) (fun _ => ?_) <;> (conv => whnf))
    | (refine need_intro ?_ ?_; (conv => whnf))
    | (refine wk_refl ?_; (conv => whnf))
    | (refine draw_intro (by kernel_rfl) ?_; (conv => whnf))
    | (refine ord_intro (by kernel_rfl) ?_; (conv => whnf))
  all_goals try simp only [decide_eq_true_eq, decide_eq_false_iff_not] at *
  · refine ⟨LeS.of_eq ?_, trivial⟩
    have : ¬ rows.length ≤ 1024 := by omega
    simp [validT, this]
  · refine loop_auto [0, 8, 9] [] (fun i : Nat => [(10, .d (.int .i64 i))]) (fun i => []) (fun i => i ≤ rows.length ∧ ∀ j, j < i → chkT rows j = true) (fun i => rows.length - i) 0 ?_ (fun i hx => ?_) ⟨Nat.zero_le _, fun j hj => absurd hj (Nat.not_lt_zero j)⟩
    · conv => whnf
      repeat' first
        | (refine bc_true (by assumption) ?_; (conv => whnf))
        | (refine bc_false (by assumption) ?_; (conv => whnf))
        | (refine bc_intro (fun _ => ?_) (fun _ => ?_) <;> (conv => whnf))
        | (refine need_intro ?_ ?_; (conv => whnf))
        | (refine wk_refl ?_; (conv => whnf))
        | (refine draw_intro (by kernel_rfl) ?_; (conv => whnf))
        | (refine ord_intro (by kernel_rfl) ?_; (conv => whnf))
      all_goals first | exact ⟨rfl, rfl⟩ | exact ⟨rfl, rfl, rfl⟩ | exact DLe.refl _ | exact RowLe.refl _ _ _ | exact trivial
    · obtain ⟨hi, hc⟩ := hx
      have hw : 0 < i → (IntKind.i64.wrap ((i : Int) - 1)).toNat = i - 1 := fun h => by rw [wrap_of (by omega) (by omega)]; omega
      have hs : IntKind.i64.wrap ((i : Int) + 1) = ((i + 1 : Nat) : Int) := wrap_succ (n := 1025) (by omega) (by omega)
      have hk : 0 < i → 0 ≤ IntKind.i64.wrap ((i : Int) - 1) ∧ IntKind.i64.wrap ((i : Int) - 1) < rows.length := fun h => by rw [wrap_of (by omega) (by omega)]; omega
      conv => whnf
      repeat' first
        | (refine call_intro (validKeyr_spec _) ?_ (by first | exact .inl rfl | exact .inr ⟨rfl, rfl⟩); (conv => whnf))
        | (refine NextVC.mk (i + 1) ?_ ?_ ?_; (conv => whnf))
        | (refine bc_true (by assumption) ?_; (conv => whnf))
        | (refine bc_false (by assumption) ?_; (conv => whnf))
        | (refine bc_intro (fun _ => ?_) (fun _ => ?_) <;> (conv => whnf))
        | (refine need_intro ?_ ?_; (conv => whnf))
        | (refine wk_refl ?_; (conv => whnf))
        | (refine draw_intro (by kernel_rfl) ?_; (conv => whnf))
        | (refine ord_intro (by kernel_rfl) ?_; (conv => whnf))
      all_goals try simp only [decide_eq_true_eq, decide_eq_false_iff_not, Bool.not_eq_true', Bool.not_eq_false', Int.toNat_natCast] at *
      all_goals try rw [hw (by omega)] at *
      all_goals first
        | exact trivial
        | omega
        | exact DLe.refl _
        | exact DLe.of_eq (by rw [hs])
        | exact hk (by omega)
        | exact ⟨by omega, by omega⟩
        | (refine ⟨by omega, fun j hj => ?_⟩
           by_cases e : j = i
           · subst e
             have hz : (j : Int) > 0 ∨ j = 0 := by omega
             rcases hz with hz | rfl
             · have : (j == 0) = false := by simp; omega
               simp_all [chkT, rowOk]
             · simp_all [chkT, rowOk]
           · exact hc j (by omega))
        | (refine ⟨LeS.of_eq ?_, trivial⟩
           have e : i = rows.length := by omega
           subst e
           rw [validT_true (by omega) hc])
        | (refine ⟨LeS.of_eq ?_, trivial⟩
           rw [validT_false (i := i) (by omega)]
           have hz : (i : Int) > 0 ∨ i = 0 := by omega
           rcases hz with hz | rfl
           · have : (i == 0) = false := by simp; omega
             first | (simp_all [chkT, rowOk]; done) | (simp_all [chkT, rowOk]; intros; omega)
           · first | (simp_all [chkT, rowOk]; done) | (simp_all [chkT, rowOk]; intros; omega))
        | trace_state

/-! rows with another key, with one more -/
theorem cellsRow : Try.prog.cellsOf 71 = 2 := by kernel_rfl
theorem bytesRow : Try.prog.bytesOf 71 = 32 := by kernel_rfl
theorem withoutr_spec (rows : List Row) (k : List UInt8) : rows.length ≤ 1099511627776 → Sx.Spec Try.prog GG 44 [.d (encL encRow 2 rows), .d (.str k)] [] (.d (encL encRow 2 (withoutF rows k))) [] := by
  intro hlen
  refine spec_intro (E := EE) (fn := Try.f44) eok (by kernel_rfl) (by kernel_rfl) Try.call44 (by kernel_rfl) (by kernel_rfl) ?_
  conv => whnf
  repeat' first
    | (refine bc_true (by assumption) ?_; (conv => whnf))
    | (refine bc_false (by assumption) ?_; (conv => whnf))
    | (refine bc_intro (fun _ => ?_) (fun _ => ?_) <;> (conv => whnf))
    | (refine need_intro ?_ ?_; (conv => whnf))
    | (refine wk_refl ?_; (conv => whnf))
    | (refine draw_intro (by kernel_rfl) ?_; (conv => whnf))
    | (refine ord_intro (by kernel_rfl) ?_; (conv => whnf))
  refine loop_auto [0, 0 + 1, 8, 9] [] (fun i : Nat => [(5, .osl 500 2 0 (withoutF (rows.take i) k).length), (10, .d (.int .i64 i))]) (fun i => [(500, .row 71 2 (withoutF (rows.take i) k).length (cellOf encRow (withoutF (rows.take i) k)))]) (fun i => i ≤ rows.length) (fun i => rows.length - i) 0 ?_ (fun i hi => ?_) (Nat.zero_le _)
  · conv => whnf
    repeat' first
      | (refine bc_true (by assumption) ?_; (conv => whnf))
      | (refine bc_false (by assumption) ?_; (conv => whnf))
      | (refine bc_intro (fun _ => ?_) (fun _ => ?_) <;> (conv => whnf))
      | (refine need_intro ?_ ?_; (conv => whnf))
      | (refine wk_refl ?_; (conv => whnf))
      | (refine draw_intro (by kernel_rfl) ?_; (conv => whnf))
      | (refine ord_intro (by kernel_rfl) ?_; (conv => whnf))
    all_goals first | exact ⟨rfl, rfl⟩ | exact ⟨rfl, rfl, rfl⟩ | exact DLe.refl _ | exact RowLe.refl _ _ _ | exact trivial
  · have hs : IntKind.i64.wrap ((i : Int) + 1) = ((i + 1 : Nat) : Int) := wrap_succ (n := 1099511627777) (by omega) (by omega)
    have hl : (withoutF (rows.take i) k).length ≤ i := Nat.le_trans without_len (by simp; omega)
    conv => whnf
    repeat' first
      | (refine NextVC.mk (i + 1) ?_ ?_ ?_; (conv => whnf))
      | (refine bc_true (by assumption) ?_; (conv => whnf))
      | (refine bc_false (by assumption) ?_; (conv => whnf))
      | (refine bc_intro (fun _ => ?_) (fun _ => ?_) <;> (conv => whnf))
      | (refine need_intro ?_ ?_; (conv => whnf))
      | (refine wk_refl ?_; (conv => whnf))
      | (refine draw_intro (by kernel_rfl) ?_; (conv => whnf))
      | (refine ord_intro (by kernel_rfl) ?_; (conv => whnf))
    all_goals try simp only [decide_eq_true_eq, decide_eq_false_iff_not, Int.toNat_natCast, cellsRow, bytesRow, true_and, and_true] at *
    all_goals first
      | exact trivial
      | omega
      | exact DLe.refl _
      | exact RowLe.refl _ _ _
      | exact DLe.of_eq (by rw [hs])
      | exact ⟨by omega, by omega⟩
      | (rw [without_keep (by omega) (by assumption)]; simp only [List.length_append, List.length_singleton]; done)
      | (rw [without_drop (by omega) (by assumption)]; done)
      | (rw [without_drop (by omega) (by assumption)]; exact RowLe.refl _ _ _)
      | (rw [without_keep (by omega) (by assumption)]; simp only [List.length_append, List.length_singleton]; exact row_snoc rfl (RowLe.refl _ _ _) (jlt2 (DLe.of_eq rfl) (DLe.of_eq rfl)))
      | exact ⟨les_own (by rw [show i = rows.length by omega, List.take_length]), trivial⟩
      | trace_state

theorem withr_spec (rows : List Row) (k v : List UInt8) : rows.length ≤ 1099511627776 → Sx.Spec Try.prog GG 47 [.d (encL encRow 2 rows), .agg [.d (.str k), .d (.str v)]] [] (.d (encL encRow 2 (withF rows (k, v)))) [] := by
  intro hlen
  refine spec_intro (E := EE) (fn := Try.f47) eok (by kernel_rfl) (by kernel_rfl) Try.call47 (by kernel_rfl) (by kernel_rfl) ?_
  conv => whnf
  repeat' first
    | (refine call_if (withoutr_spec _ _) (by first | exact .inl rfl | exact .inr ⟨rfl, rfl⟩) (need_intro ?_ ?_); (conv => whnf))
    | (refine bc_true (by assumption) ?_; (conv => whnf))
    | (refine bc_false (by assumption) ?_; (conv => whnf))
    | (refine bc_intro (fun _ => ?_) (fun _ => ?_) <;> (conv => whnf))
    | (refine need_intro ?_ ?_; (conv => whnf))
    | (refine wk_refl ?_; (conv => whnf))
    | (refine draw_intro (by kernel_rfl) ?_; (conv => whnf))
    | (refine ord_intro (by kernel_rfl) ?_; (conv => whnf))
  all_goals try omega
  have hwl : (withoutF rows k).length ≤ 1099511627776 := Nat.le_trans without_len hlen
  generalize hw : withoutF rows k = w at hwl
  have hF : withF rows (k, v) = insF (k, v) w := by rw [withF, hw]
  rw [hF]
  clear hF hw
  refine loop_auto [3, 12, 13] [3] (fun x : Nat × Bool × List Row => [(6, .d (.bool x.2.1)), (5, .osl 500 2 0 x.2.2.length), (14, .d (.int .i64 x.1))]) (fun x => [(500, .row 71 2 x.2.2.length (cellOf encRow x.2.2))])
    (fun x => x.1 ≤ w.length ∧ x.2.2.length ≤ x.1 + x.2.1.toNat ∧ x.2.2 ++ (if x.2.1 then w.drop x.1 else insF (k, v) (w.drop x.1)) = insF (k, v) w) (fun x => w.length - x.1) (0, false, []) ?_ (fun x hx => ?_) ⟨Nat.zero_le _, by simp, rfl⟩
  · conv => whnf
    repeat' first
      | (refine bc_true (by assumption) ?_; (conv => whnf))
      | (refine bc_false (by assumption) ?_; (conv => whnf))
      | (refine bc_intro (fun _ => ?_) (fun _ => ?_) <;> (conv => whnf))
      | (refine need_intro ?_ ?_; (conv => whnf))
      | (refine wk_refl ?_; (conv => whnf))
      | (refine draw_intro (by kernel_rfl) ?_; (conv => whnf))
      | (refine ord_intro (by kernel_rfl) ?_; (conv => whnf))
    all_goals first | exact ⟨rfl, rfl⟩ | exact ⟨rfl, rfl, rfl⟩ | exact DLe.refl _ | exact RowLe.refl _ _ _ | exact trivial
  · obtain ⟨i, dn, o⟩ := x
    obtain ⟨hi, hol, he⟩ := hx
    simp only at hi hol he
    have hs : IntKind.i64.wrap ((i : Int) + 1) = ((i + 1 : Nat) : Int) := wrap_succ (n := 1099511627777) (by omega) (by omega)
    have hol' : o.length ≤ i + 1 := by cases dn <;> simp at hol <;> omega
    have hol0 : dn = false → o.length ≤ i := fun h => by rw [h] at hol; simpa using hol
    conv => whnf
    repeat' first
      | (refine bc_true (by assumption) ?_; (conv => whnf))
      | (refine bc_false (by assumption) ?_; (conv => whnf))
      | (refine bc_intro (fun _ => ?_) (fun _ => ?_) <;> (conv => whnf))
      | (refine need_intro ?_ ?_; (conv => whnf))
      | (refine wk_refl ?_; (conv => whnf))
      | (refine draw_intro (by kernel_rfl) ?_; (conv => whnf))
      | (refine ord_intro (by kernel_rfl) ?_; (conv => whnf))
    all_goals try simp only [decide_eq_true_eq, decide_eq_false_iff_not, Int.toNat_natCast, cellsRow, bytesRow, bl_gtr, Bool.not_eq_true', Bool.not_eq_false', Nat.reduceAdd, true_and] at *
    all_goals first
      | (have hd : dn = true := by assumption
         refine NextVC.mk (i + 1, true, o ++ [w.getD i default]) ?_ ?_ ?_; (conv => whnf))
      | (have hd : Op.bytesLess k (w.getD i default).1 = true := by assumption
         refine NextVC.mk (i + 1, true, o ++ [(k, v)] ++ [w.getD i default]) ?_ ?_ ?_; (conv => whnf))
      | (refine NextVC.mk (i + 1, false, o ++ [w.getD i default]) ?_ ?_ ?_; (conv => whnf))
      | skip
    conv => whnf
    repeat' first
      | (refine bc_true (by assumption) ?_; (conv => whnf))
      | (refine bc_false (by assumption) ?_; (conv => whnf))
      | (refine bc_intro (fun _ => ?_) (fun _ => ?_) <;> (conv => whnf))
      | (refine need_intro ?_ ?_; (conv => whnf))
      | (refine wk_refl ?_; (conv => whnf))
      | (refine draw_intro (by kernel_rfl) ?_; (conv => whnf))
      | (refine ord_intro (by kernel_rfl) ?_; (conv => whnf))
    all_goals try simp only [cellsRow, true_and] at *
    all_goals first
      | exact trivial
      | omega
      | exact DLe.refl _
      | exact RowLe.refl _ _ _
      | exact DLe.of_eq (by rw [hs])
      | exact ⟨by omega, by omega⟩
      | (simp only [List.length_append, List.length_singleton]; done)
      | (simp only [List.length_append, List.length_singleton]; exact row_snoc rfl (RowLe.refl _ _ _) (jlt2 (DLe.of_eq rfl) (DLe.of_eq rfl)))
      | (simp only [List.length_append, List.length_singleton]; exact row_snoc (by simp) (row_snoc rfl (RowLe.refl _ _ _) (jlt2 (DLe.of_eq rfl) (DLe.of_eq rfl))) (jlt2 (DLe.of_eq rfl) (DLe.of_eq rfl)))
      | exact DLe.of_eq (by simp only [*])
      | (refine ⟨by omega, by simp only [List.length_append, List.length_singleton, Bool.toNat_true, Bool.toNat_false]; omega, ?_⟩
         rw [← he, drop_cons' (show i < w.length by omega)]
         clear he hol hol' hol0
         simp only [insF, *, if_true, if_false, Bool.false_eq_true, List.append_assoc, List.cons_append, List.nil_append]; done)
      | (have := hol0 (by assumption)
         refine ⟨by omega, by simp only [List.length_append, List.length_singleton, Bool.toNat_true, Bool.toNat_false]; omega, ?_⟩
         rw [← he, drop_cons' (show i < w.length by omega)]
         clear he hol hol' hol0
         simp only [insF, *, if_true, if_false, Bool.false_eq_true, List.append_assoc, List.cons_append, List.nil_append]; done)
      | (have hd : dn = true := by assumption
         refine ⟨les_own ?_, trivial⟩
         rw [← he, List.drop_eq_nil_of_le (show w.length ≤ i by omega)]
         simp [hd]; done)
      | (have hd : dn = false := by assumption
         have e : insF (k, v) w = o ++ [(k, v)] := by
           rw [← he, List.drop_eq_nil_of_le (show w.length ≤ i by omega)]
           simp [hd, insF]
         rw [e]
         exact ⟨les_row (by simp) (row_snoc rfl (RowLe.refl _ _ _) (jlt2 (DLe.of_eq rfl) (DLe.of_eq rfl))), trivial⟩)
      | trace_state

/-! Put -/
theorem refPut_spec (rows : List Row) (k v : List UInt8) : Sx.Spec Try.prog GG 45 [.d (encL encRow 2 rows), .agg [.d (.str k), .d (.str v)]] [] (.tup [.d (encL encRow 2 (putF rows k v).1), .d (.int .i64 (putF rows k v).2)]) [] := by
  refine spec_intro (E := EE) (fn := Try.f45) eok (by kernel_rfl) (by kernel_rfl) Try.call45 (by kernel_rfl) (by kernel_rfl) ?_
  conv => whnf
  repeat' first
    | (refine call_intro (validTr_spec _) ?_ (by first | exact .inl rfl | exact .inr ⟨rfl, rfl⟩); (conv => whnf))
    | (refine call_intro ((validTr_spec [(k, v)]).arg (LeL.cons (LeS.d (DLe.rows rfl (row_one (jlt2 (DLe.of_eq rfl) (DLe.of_eq rfl))))) LeL.nil)) ?_ (by first | exact .inl rfl | exact .inr ⟨rfl, rfl⟩); (conv => whnf))
    | (refine call_if (withr_spec _ _ _) (by first | exact .inl rfl | exact .inr ⟨rfl, rfl⟩) (need_intro ?_ ?_); (conv => whnf))
    | (refine bc_true (by assumption) ?_; (conv => whnf))
    | (refine bc_false (by assumption) ?_; (conv => whnf))
    | (refine bc_intro (fun _ => ?_) (fun _ => ?_) <;> (conv => whnf))
    | (refine need_intro ?_ ?_; (conv => whnf))
    | (refine wk_refl ?_; (conv => whnf))
    | (refine draw_intro (by kernel_rfl) ?_; (conv => whnf))
    | (refine ord_intro (by kernel_rfl) ?_; (conv => whnf))
  all_goals try simp only [decide_eq_true_eq, decide_eq_false_iff_not] at *
  · have e : putF rows k v = ([], 1) := by simp [putF, *]
    rw [e]; exact ⟨LeS.tup (LeL.cons (les_nil rfl) (LeL.cons (LeS.refl _) LeL.nil)), trivial⟩
  · have e : putF rows k v = ([], 1) := by simp [putF, *]
    rw [e]; exact ⟨LeS.tup (LeL.cons (les_nil rfl) (LeL.cons (LeS.refl _) LeL.nil)), trivial⟩
  · have e : putF rows k v = ([], 16) := by
      have : (withF rows (k, v)).length > 1024 := by omega
      simp [putF, *]
    rw [e]; exact ⟨LeS.tup (LeL.cons (les_nil rfl) (LeL.cons (LeS.refl _) LeL.nil)), trivial⟩
  · have e : putF rows k v = (withF rows (k, v), 0) := by
      have : ¬ (withF rows (k, v)).length > 1024 := by omega
      simp [putF, *]
    rw [e]; exact ⟨LeS.refl _, trivial⟩
  · have := validT_len (by simpa using ‹(!validT rows) = false›)
    omega
theorem getr_spec (rows : List Row) (k : List UInt8) : rows.length ≤ 1099511627776 → Sx.Spec Try.prog GG 12 [.d (encL encRow 2 rows), .d (.str k)] [] (.tup [.d (.str (getF rows k).1), .d (.bool (getF rows k).2)]) [] := by
  intro hlen
  refine spec_intro (E := EE) (fn := Try.f12) eok (by kernel_rfl) (by kernel_rfl) Try.call12 (by kernel_rfl) (by kernel_rfl) ?_
  conv => whnf
  repeat' first
    | (refine bc_true (by assumption) ?_; (conv => whnf))
    | (refine bc_false (by assumption) ?_; (conv => whnf))
    | (refine bc_intro (fun _ => ?_) (fun _ => ?_) <;> (conv => whnf))
    | (refine need_intro ?_ ?_; (conv => whnf))
    | (refine wk_refl ?_; (conv => whnf))
    | (refine draw_intro (by kernel_rfl) ?_; (conv => whnf))
    | (refine ord_intro (by kernel_rfl) ?_; (conv => whnf))
  refine loop_auto [0, 0 + 1, 8, 9] [] (fun i : Nat => [(10, .d (.int .i64 i))]) (fun i => []) (fun i => i ≤ rows.length ∧ ∀ j, j < i → ((rows.getD j default).1 == k) = false) (fun i => rows.length - i) 0 ?_ (fun i hx => ?_) ⟨Nat.zero_le _, fun j hj => absurd hj (Nat.not_lt_zero j)⟩
  · conv => whnf
    repeat' first
      | (refine bc_true (by assumption) ?_; (conv => whnf))
      | (refine bc_false (by assumption) ?_; (conv => whnf))
      | (refine bc_intro (fun _ => ?_) (fun _ => ?_) <;> (conv => whnf))
      | (refine need_intro ?_ ?_; (conv => whnf))
      | (refine wk_refl ?_; (conv => whnf))
      | (refine draw_intro (by kernel_rfl) ?_; (conv => whnf))
      | (refine ord_intro (by kernel_rfl) ?_; (conv => whnf))
    all_goals first | exact ⟨rfl, rfl⟩ | exact ⟨rfl, rfl, rfl⟩ | exact DLe.refl _ | exact RowLe.refl _ _ _ | exact trivial
  · obtain ⟨hi, hc⟩ := hx
    have hs : IntKind.i64.wrap ((i : Int) + 1) = ((i + 1 : Nat) : Int) := wrap_succ (n := 1099511627777) (by omega) (by omega)
    conv => whnf
    repeat' first
      | (refine NextVC.mk (i + 1) ?_ ?_ ?_; (conv => whnf))
      | (refine bc_true (by assumption) ?_; (conv => whnf))
      | (refine bc_false (by assumption) ?_; (conv => whnf))
      | (refine bc_intro (fun _ => ?_) (fun _ => ?_) <;> (conv => whnf))
      | (refine need_intro ?_ ?_; (conv => whnf))
      | (refine wk_refl ?_; (conv => whnf))
      | (refine draw_intro (by kernel_rfl) ?_; (conv => whnf))
      | (refine ord_intro (by kernel_rfl) ?_; (conv => whnf))
    all_goals try simp only [decide_eq_true_eq, decide_eq_false_iff_not, Int.toNat_natCast] at *
    all_goals first
      | exact trivial
      | omega
      | exact DLe.refl _
      | exact DLe.of_eq (by rw [hs])
      | exact ⟨by omega, by omega⟩
      | (refine ⟨by omega, fun j hj => ?_⟩
         by_cases e : j = i
         · subst e; assumption
         · exact hc j (by omega))
      | (rw [get_here (by omega) hc (by assumption)]; exact ⟨LeS.refl _, trivial⟩)
      | (rw [get_none (fun j hj => hc j (by omega))]; exact ⟨LeS.refl _, trivial⟩)
      | trace_state
theorem do_spec (rows : List Row) (k v : List UInt8) (d : Bool) : rows.length ≤ 1099511627776 → Sx.Spec Try.prog GG 35 [.d (encL encRow 2 rows), .agg [.d (.str k), .d (.str v), .d (.bool d)]] [] (.tup [.d (encL encRow 2 (doF rows (k, v, d)).1), .d (.int .i64 (doF rows (k, v, d)).2)]) [] := by
  intro hlen
  refine spec_intro (E := EE) (fn := Try.f35) eok (by kernel_rfl) (by kernel_rfl) Try.call35 (by kernel_rfl) (by kernel_rfl) ?_
  conv => whnf
  repeat' first
    | (refine call_intro (validWr_spec _ _ _) ?_ (by first | exact .inl rfl | exact .inr ⟨rfl, rfl⟩); (conv => whnf))
    | (refine call_if (withoutr_spec _ _) (by first | exact .inl rfl | exact .inr ⟨rfl, rfl⟩) (need_intro ?_ ?_); (conv => whnf))
    | (refine call_intro (refPut_spec _ _ _) ?_ (by first | exact .inl rfl | exact .inr ⟨rfl, rfl⟩); (conv => whnf))
    | (refine bc_true (by assumption) ?_; (conv => whnf))
    | (refine bc_false (by assumption) ?_; (conv => whnf))
    | (refine bc_intro (fun _ => ?_) (fun _ => ?_) <;> (conv => whnf))
    | (refine need_intro ?_ ?_; (conv => whnf))
    | (refine wk_refl ?_; (conv => whnf))
    | (refine draw_intro (by kernel_rfl) ?_; (conv => whnf))
    | (refine ord_intro (by kernel_rfl) ?_; (conv => whnf))
  all_goals try simp only [Bool.not_eq_true', Bool.not_eq_false'] at *
  all_goals first
    | omega
    | (have e : doF rows (k, v, d) = ([], 1) := by simp_all [doF]
       rw [e]; exact ⟨LeS.tup (LeL.cons (les_nil rfl) (LeL.cons (LeS.refl _) LeL.nil)), trivial⟩)
    | (have e : doF rows (k, v, d) = (withoutF rows k, 0) := by simp_all [doF]
       rw [e]; exact ⟨LeS.refl _, trivial⟩)
    | (have e : doF rows (k, v, d) = putF rows k v := by simp_all [doF]
       rw [e]; exact ⟨LeS.refl _, trivial⟩)
    | trace_state
theorem applyr_spec (rows : List Row) (ws : List Wr) : ws.length ≤ 1099511627776 → Sx.Spec Try.prog GG 18 [.d (encL encRow 2 rows), .d (encL encWr 3 ws)] [] (.tup [.d (encL encRow 2 (applyF rows ws).1), .d (.int .i64 (applyF rows ws).2)]) [] := by
  intro hlen
  refine spec_intro (E := EE) (fn := Try.f18) eok (by kernel_rfl) (by kernel_rfl) Try.call18 (by kernel_rfl) (by kernel_rfl) ?_
  conv => whnf
  repeat' first
    | (refine call_intro (validTr_spec _) ?_ (by first | exact .inl rfl | exact .inr ⟨rfl, rfl⟩); (conv => whnf))
    | (refine bc_true (by assumption) ?_; (conv => whnf))
    | (refine bc_false (by assumption) ?_; (conv => whnf))
    | (refine bc_intro (fun _ => ?_) (fun _ => ?_) <;> (conv => whnf))
    | (refine need_intro ?_ ?_; (conv => whnf))
    | (refine wk_refl ?_; (conv => whnf))
    | (refine draw_intro (by kernel_rfl) ?_; (conv => whnf))
    | (refine ord_intro (by kernel_rfl) ?_; (conv => whnf))
  all_goals try simp only [Bool.not_eq_true', Bool.not_eq_false'] at *
  · have e : applyF rows ws = ([], 1) := by simp_all [applyF]
    rw [e]; exact ⟨LeS.tup (LeL.cons (les_nil rfl) (LeL.cons (LeS.refl _) LeL.nil)), trivial⟩
  · rename_i hv
    have ea : applyF rows ws = goF rows ws := by simp [applyF, hv]
    rw [ea]
    refine loop_auto [13, 14] [] (fun x : Nat × List Row => [(0, .d (encL encRow 2 x.2)), (15, .d (.int .i64 x.1))]) (fun x => []) (fun x => x.1 ≤ ws.length ∧ TabOk x.2 ∧ goF rows ws = goF x.2 (ws.drop x.1)) (fun x => ws.length - x.1) (0, rows) ?_ (fun x hx => ?_) ⟨Nat.zero_le _, validT_iff.1 hv, rfl⟩
    · conv => whnf
      repeat' first
        | (refine bc_true (by assumption) ?_; (conv => whnf))
        | (refine bc_false (by assumption) ?_; (conv => whnf))
        | (refine bc_intro (fun _ => ?_) (fun _ => ?_) <;> (conv => whnf))
        | (refine need_intro ?_ ?_; (conv => whnf))
        | (refine wk_refl ?_; (conv => whnf))
        | (refine draw_intro (by kernel_rfl) ?_; (conv => whnf))
        | (refine ord_intro (by kernel_rfl) ?_; (conv => whnf))
      all_goals first | exact ⟨rfl, rfl⟩ | exact ⟨rfl, rfl, rfl⟩ | exact DLe.refl _ | exact RowLe.refl _ _ _ | exact trivial
    · obtain ⟨i, r⟩ := x
      obtain ⟨hi, ht, hg⟩ := hx
      simp only at hi ht hg
      have htl := ht.len
      have hs : IntKind.i64.wrap ((i : Int) + 1) = ((i + 1 : Nat) : Int) := wrap_succ (n := 1099511627777) (by omega) (by omega)
      conv => whnf
      repeat' first
        | (refine call_if (do_spec r _ _ _) (by first | exact .inl rfl | exact .inr ⟨rfl, rfl⟩) (need_intro ?_ ?_); (conv => whnf))
        | (refine NextVC.mk (i + 1, (doF r (ws.getD i default)).1) ?_ ?_ ?_; (conv => whnf))
        | (refine bc_true (by assumption) ?_; (conv => whnf))
        | (refine bc_false (by assumption) ?_; (conv => whnf))
        | (refine bc_intro (fun _ => ?_) (fun _ => ?_) <;> (conv => whnf))
        | (refine need_intro ?_ ?_; (conv => whnf))
        | (refine wk_refl ?_; (conv => whnf))
        | (refine draw_intro (by kernel_rfl) ?_; (conv => whnf))
        | (refine ord_intro (by kernel_rfl) ?_; (conv => whnf))
      all_goals try simp only [decide_eq_true_eq, decide_eq_false_iff_not, Int.toNat_natCast, bne_iff_ne, bne_eq_false_iff_eq, ne_eq, cellsRow, bytesRow] at *
      all_goals first
        | exact trivial
        | omega
        | exact DLe.refl _
        | exact DLe.of_eq (by rw [hs])
        | exact ⟨by omega, by omega⟩
        | (rw [go_step (by omega)] at hg
           refine ⟨by omega, do_tab ht (by assumption), ?_⟩
           rw [hg, if_pos (by assumption)])
        | (rw [hg, go_step (by omega), if_neg (by assumption)]
           exact ⟨LeS.tup (LeL.cons (les_nil rfl) (LeL.cons (LeS.refl _) LeL.nil)), trivial⟩)
        | (rw [hg, List.drop_eq_nil_of_le (by omega)]
           exact ⟨LeS.tup (LeL.cons (les_list rfl rfl (fun i j _ _ => by rw [Nat.zero_add]; rfl)) (LeL.cons (LeS.refl _) LeL.nil)), trivial⟩)
        | trace_state
end Go.Proofs.Ytggehonedmbnjaa
