/- Contracts of functions that the law reaches: YtfjiffbacallhaaDoorTab. Written for this claim. -/
import Derived.Test.YtfjiffbacallhaaDoorBase
import Derived.Test.YtfjiffbacallhaaDoorSxTab
namespace Go.Proofs.YtfjiffbacallhaaDoor
open Go Go.Sx Go.ChangeShapes Go.WideShapes Go.ChangeAt Go.RowKit
set_option linter.unusedVariables false
set_option linter.unusedSimpArgs false
set_option maxRecDepth 100000
theorem validRowp_spec (k v : List UInt8) : Sx.Spec Tryd.prog GG 42 [.agg [.d (.str k), .d (.str v)]] [] (.d (.bool (rowOk (k, v)))) [] := by
  refine spec_intro (E := EE) (fn := Tryd.f42) eok (by kernel_rfl) (by kernel_rfl) Tryd.call42 (by kernel_rfl) (by kernel_rfl) ?_
  conv => whnf
  repeat' first
    | (refine call_intro (validKeyp_spec _) ?_ (by first | exact .inl rfl | exact .inr ⟨rfl, rfl⟩); (conv => whnf))
    | (refine bc_true (by assumption) ?_; (conv => whnf))
    | (refine bc_false (by assumption) ?_; (conv => whnf))
    | (refine bc_intro (fun _ => ?_) (fun _ => ?_) <;> (conv => whnf))
    | (refine need_intro ?_ ?_; (conv => whnf))
    | (refine wk_refl ?_; (conv => whnf))
    | (refine draw_intro (by kernel_rfl) ?_; (conv => whnf))
    | (refine ord_intro (by kernel_rfl) ?_; (conv => whnf))
  all_goals exact ⟨LeS.of_eq (by first | (simp_all [rowOk]; done) | (simp_all [rowOk]; omega) | (simp_all [rowOk]; intros; omega)), trivial⟩
theorem validTp_spec (rows : List Row) : Sx.Spec Tryd.prog GG 25 [.d (encL encRow 2 rows)] [] (.d (.bool (validT rows))) [] := by
  refine spec_intro (E := EE) (fn := Tryd.f25) eok (by kernel_rfl) (by kernel_rfl) Tryd.call25 (by kernel_rfl) (by kernel_rfl) ?_
  conv => whnf
  repeat' first
    | (refine bc_true (by assumption) ?_; (conv => whnf))
    | (refine bc_false (by assumption) ?_; (conv => whnf))
    | (refine bc_intro (fun _ => ?_) (fun _ => ?_) <;> (conv => whnf))
    | (refine need_intro ?_ ?_; (conv => whnf))
    | (refine wk_refl ?_; (conv => whnf))
    | (refine draw_intro (by kernel_rfl) ?_; (conv => whnf))
    | (refine ord_intro (by kernel_rfl) ?_; (conv => whnf))
  all_goals try simp only [decide_eq_true_eq, decide_eq_false_iff_not] at *
  · refine ⟨LeS.of_eq ?_, trivial⟩
    have : ¬ rows.length ≤ 1024 := by omega
    simp [validT, this]
  · refine loop_auto [0, 8, 9] [] (fun i : Nat => [(10, .d (.int .i64 i))]) (fun i => []) (fun i => i ≤ rows.length ∧ ∀ j, j < i → chkT rows j = true) (fun i => rows.length - i) 0 ?_ (fun i hx => ?_) ⟨Nat.zero_le _, fun j hj => absurd hj (Nat.not_lt_zero j)⟩
    · conv => whnf
      repeat' first
        | (refine bc_true (by assumption) ?_; (conv => whnf))
        | (refine bc_false (by assumption) ?_; (conv => whnf))
        | (refine bc_intro (fun _ => ?_) (fun _ => ?_) <;> (conv => whnf))
        | (refine need_intro ?_ ?_; (conv => whnf))
        | (refine wk_refl ?_; (conv => whnf))
        | (refine draw_intro (by kernel_rfl) ?_; (conv => whnf))
        | (refine ord_intro (by kernel_rfl) ?_; (conv => whnf))
      all_goals first | exact ⟨rfl, rfl⟩ | exact ⟨rfl, rfl, rfl⟩ | exact DLe.refl _ | exact RowLe.refl _ _ _ | exact trivial
    · obtain ⟨hi, hc⟩ := hx
      have hw : 0 < i → (IntKind.i64.wrap ((i : Int) - 1)).toNat = i - 1 := fun h => by rw [wrap_of (by omega) (by omega)]; omega
      have hs : IntKind.i64.wrap ((i : Int) + 1) = ((i + 1 : Nat) : Int) := wrap_succ (n := 1025) (by omega) (by omega)
      have hk : 0 < i → 0 ≤ IntKind.i64.wrap ((i : Int) - 1) ∧ IntKind.i64.wrap ((i : Int) - 1) < rows.length := fun h => by rw [wrap_of (by omega) (by omega)]; omega
      conv => whnf
      repeat' first
        | (refine call_intro (validRowp_spec _ _) ?_ (by first | exact .inl rfl | exact .inr ⟨rfl, rfl⟩); (conv => whnf))
        | (refine NextVC.mk (i + 1) ?_ ?_ ?_; (conv => whnf))
        | (refine bc_true (by assumption) ?_; (conv => whnf))
        | (refine bc_false (by assumption) ?_; (conv => whnf))
        | (refine bc_intro (fun _ => ?_) (fun _ => ?_) <;> (conv => whnf))
        | (refine need_intro ?_ ?_; (conv => whnf))
        | (refine wk_refl ?_; (conv => whnf))
        | (refine draw_intro (by kernel_rfl) ?_; (conv => whnf))
        | (refine ord_intro (by kernel_rfl) ?_; (conv => whnf))
      all_goals try simp only [decide_eq_true_eq, decide_eq_false_iff_not, Bool.not_eq_true', Bool.not_eq_false', Int.toNat_natCast] at *
      all_goals try rw [hw (by omega)] at *
      all_goals first
        | exact trivial
        | omega
        | exact DLe.refl _
        | exact DLe.of_eq (by rw [hs])
        | exact hk (by omega)
        | exact ⟨by omega, by omega⟩
        | (refine ⟨by omega, fun j hj => ?_⟩
           by_cases e : j = i
           · subst e
             have hz : (j : Int) > 0 ∨ j = 0 := by omega
             rcases hz with hz | rfl
             · have : (j == 0) = false := by simp; omega
               simp_all [chkT, rowOk]
             · simp_all [chkT, rowOk]
           · exact hc j (by omega))
        | (refine ⟨LeS.of_eq ?_, trivial⟩
           have e : i = rows.length := by omega
           subst e
           rw [validT_true (by omega) hc])
        | (refine ⟨LeS.of_eq ?_, trivial⟩
           rw [validT_false (i := i) (by omega)]
           have hz : (i : Int) > 0 ∨ i = 0 := by omega
           rcases hz with hz | rfl
           · have : (i == 0) = false := by simp; omega
             first | (simp_all [chkT, rowOk]; done) | (simp_all [chkT, rowOk]; intros; omega)
           · first | (simp_all [chkT, rowOk]; done) | (simp_all [chkT, rowOk]; intros; omega))
        | trace_state
theorem getp_spec (rows : List Row) (k : List UInt8) : rows.length ≤ 1099511627776 → Sx.Spec Tryd.prog GG 35 [.d (encL encRow 2 rows), .d (.str k)] [] (.tup [.d (.str (getF rows k).1), .d (.bool (getF rows k).2)]) [] := by
  intro hlen
  refine spec_intro (E := EE) (fn := Tryd.f35) eok (by kernel_rfl) (by kernel_rfl) Tryd.call35 (by kernel_rfl) (by kernel_rfl) ?_
  conv => whnf
  repeat' first
    | (refine bc_true (by assumption) ?_; (conv => whnf))
    | (refine bc_false (by assumption) ?_; (conv => whnf))
    | (refine bc_intro (fun _ => ?_) (fun _ => ?_) <;> (conv => whnf))
    | (refine need_intro ?_ ?_; (conv => whnf))
    | (refine wk_refl ?_; (conv => whnf))
    | (refine draw_intro (by kernel_rfl) ?_; (conv => whnf))
    | (refine ord_intro (by kernel_rfl) ?_; (conv => whnf))
  refine loop_auto [0, 0 + 1, 8, 9] [] (fun i : Nat => [(10, .d (.int .i64 i))]) (fun i => []) (fun i => i ≤ rows.length ∧ ∀ j, j < i → ((rows.getD j default).1 == k) = false) (fun i => rows.length - i) 0 ?_ (fun i hx => ?_) ⟨Nat.zero_le _, fun j hj => absurd hj (Nat.not_lt_zero j)⟩
  · conv => whnf
    repeat' first
      | (refine bc_true (by assumption) ?_; (conv => whnf))
      | (refine bc_false (by assumption) ?_; (conv => whnf))
      | (refine bc_intro (fun _ => ?_) (fun _ => ?_) <;> (conv => whnf))
      | (refine need_intro ?_ ?_; (conv => whnf))
      | (refine wk_refl ?_; (conv => whnf))
      | (refine draw_intro (by kernel_rfl) ?_; (conv => whnf))
      | (refine ord_intro (by kernel_rfl) ?_; (conv => whnf))
    all_goals first | exact ⟨rfl, rfl⟩ | exact ⟨rfl, rfl, rfl⟩ | exact DLe.refl _ | exact RowLe.refl _ _ _ | exact trivial
  · obtain ⟨hi, hc⟩ := hx
    have hs : IntKind.i64.wrap ((i : Int) + 1) = ((i + 1 : Nat) : Int) := wrap_succ (n := 1099511627777) (by omega) (by omega)
    conv => whnf
    repeat' first
      | (refine NextVC.mk (i + 1) ?_ ?_ ?_; (conv => whnf))
      | (refine bc_true (by assumption) ?_; (conv => whnf))
      | (refine bc_false (by assumption) ?_; (conv => whnf))
      | (refine bc_intro (fun _ => ?_) (fun _ => ?_) <;> (conv => whnf))
      | (refine need_intro ?_ ?_; (conv => whnf))
      | (refine wk_refl ?_; (conv => whnf))
      | (refine draw_intro (by kernel_rfl) ?_; (conv => whnf))
      | (refine ord_intro (by kernel_rfl) ?_; (conv => whnf))
    all_goals try simp only [decide_eq_true_eq, decide_eq_false_iff_not, Int.toNat_natCast] at *
    all_goals first
      | exact trivial
      | omega
      | exact DLe.refl _
      | exact DLe.of_eq (by rw [hs])
      | exact ⟨by omega, by omega⟩
      | (refine ⟨by omega, fun j hj => ?_⟩
         by_cases e : j = i
         · subst e; assumption
         · exact hc j (by omega))
      | (rw [get_here (by omega) hc (by assumption)]; exact ⟨LeS.refl _, trivial⟩)
      | (rw [get_none (fun j hj => hc j (by omega))]; exact ⟨LeS.refl _, trivial⟩)
      | trace_state
theorem cutp_spec (rows : List Row) (n : Int) : -9223372036854775808 ≤ n ∧ n < 9223372036854775808 → Sx.Spec Tryd.prog GG 15 [.d (encL encRow 2 rows), .d (.int .i64 n)] [] (.tup [.agg [.d (.str (cutF rows n).1), .d (.bool (cutF rows n).2.1)], .d (.bool (cutF rows n).2.2)]) [] := by
  intro hn
  refine spec_intro (E := EE) (fn := Tryd.f15) eok (by kernel_rfl) (by kernel_rfl) Tryd.call15 (by kernel_rfl) (by kernel_rfl) ?_
  conv => whnf
  repeat' first
    | (refine call_intro (validTp_spec _) ?_ (by first | exact .inl rfl | exact .inr ⟨rfl, rfl⟩); (conv => whnf))
    | (refine bc_true (by assumption) ?_; (conv => whnf))
    | (refine bc_false (by assumption) ?_; (conv => whnf))
    | (refine bc_intro (fun _ => ?_) (fun _ => ?_) <;> (conv => whnf))
    | (refine need_intro ?_ ?_; (conv => whnf))
    | (refine wk_refl ?_; (conv => whnf))
    | (refine draw_intro (by kernel_rfl) ?_; (conv => whnf))
    | (refine ord_intro (by kernel_rfl) ?_; (conv => whnf))
  all_goals try simp only [decide_eq_true_eq, decide_eq_false_iff_not, Bool.not_eq_true', Bool.not_eq_false'] at *
  all_goals try simp only [beq_iff_eq, beq_eq_false_iff_ne, ne_eq] at *
  all_goals first
    | omega
    | exact ⟨by omega, by omega⟩
    | (rw [cut_bad (.inl (by assumption))]; exact ⟨LeS.refl _, trivial⟩)
    | (rw [cut_bad (.inr (.inl (by omega)))]; exact ⟨LeS.refl _, trivial⟩)
    | (rw [cut_bad (.inr (.inr (by omega)))]; exact ⟨LeS.refl _, trivial⟩)
    | (rw [cut_full (by assumption) (by omega)]; exact ⟨LeS.refl _, trivial⟩)
    | (rw [cut_at (by assumption) (by omega) (by omega) (by omega)]; exact ⟨LeS.refl _, trivial⟩)
    | trace_state
theorem cellsWr : Tryd.prog.cellsOf 49 = 3 := by kernel_rfl
theorem bytesWr : Tryd.prog.bytesOf 49 = 40 := by kernel_rfl
theorem diffp_spec (a b : List Row) : (a.length ≤ 500000000000 ∧ b.length ≤ 500000000000) → Sx.Spec Tryd.prog GG 16 [.d (encL encRow 2 a), .d (encL encRow 2 b)] [] (.d (encL encWr 3 (diffF a b))) [] := by
  rintro ⟨hla, hlb⟩
  refine spec_intro (E := EE) (fn := Tryd.f16) eok (by kernel_rfl) (by kernel_rfl) Tryd.call16 (by kernel_rfl) (by kernel_rfl) ?_
  conv => whnf
  repeat' first
    | (refine call_intro (validTp_spec _) ?_ (by first | exact .inl rfl | exact .inr ⟨rfl, rfl⟩); (conv => whnf))
    | (refine bc_true (by assumption) ?_; (conv => whnf))
    | (refine bc_false (by assumption) ?_; (conv => whnf))
    | (refine bc_intro (fun _ => ?_) (fun _ => ?_) <;> (conv => whnf))
    | (refine need_intro ?_ ?_; (conv => whnf))
    | (refine wk_refl ?_; (conv => whnf))
    | (refine draw_intro (by kernel_rfl) ?_; (conv => whnf))
    | (refine ord_intro (by kernel_rfl) ?_; (conv => whnf))
  all_goals try simp only [decide_eq_true_eq, decide_eq_false_iff_not, Bool.not_eq_true', Bool.not_eq_false'] at *
  all_goals try first
    | omega
    | (exact ⟨les_nil (diff_bad (.inl (by assumption))), trivial⟩)
    | (exact ⟨les_nil (diff_bad (.inr (by assumption))), trivial⟩)
  rename_i hva hvb
  refine loop_auto [0, 1, 22, 23] [] (fun i : Nat => [(5, .osl 500 3 0 (collect (goneP b) goneW (a.take i)).length), (24, .d (.int .i64 i))]) (fun i => [(500, .row 49 3 (collect (goneP b) goneW (a.take i)).length (cellOf encWr (collect (goneP b) goneW (a.take i))))]) (fun i => i ≤ a.length) (fun i => a.length - i) 0 ?_ (fun i hi => ?_) (Nat.zero_le _)
  · conv => whnf
    repeat' first
      | (refine bc_true (by assumption) ?_; (conv => whnf))
      | (refine bc_false (by assumption) ?_; (conv => whnf))
      | (refine bc_intro (fun _ => ?_) (fun _ => ?_) <;> (conv => whnf))
      | (refine need_intro ?_ ?_; (conv => whnf))
      | (refine wk_refl ?_; (conv => whnf))
      | (refine draw_intro (by kernel_rfl) ?_; (conv => whnf))
      | (refine ord_intro (by kernel_rfl) ?_; (conv => whnf))
    all_goals first | exact ⟨rfl, rfl⟩ | exact ⟨rfl, rfl, rfl⟩ | exact DLe.refl _ | exact RowLe.refl _ _ _ | exact trivial
  · have hs : IntKind.i64.wrap ((i : Int) + 1) = ((i + 1 : Nat) : Int) := wrap_succ (n := 1099511627777) (by omega) (by omega)
    have hl : (collect (goneP b) goneW (a.take i)).length ≤ i := Nat.le_trans collect_len (by simp; omega)
    conv => whnf
    repeat' first
      | (refine call_if (getp_spec _ _) (by first | exact .inl rfl | exact .inr ⟨rfl, rfl⟩) (need_intro ?_ ?_); (conv => whnf))
      | (refine NextVC.mk (i + 1) ?_ ?_ ?_; (conv => whnf))
      | (refine bc_true (by assumption) ?_; (conv => whnf))
      | (refine bc_false (by assumption) ?_; (conv => whnf))
      | (refine bc_intro (fun _ => ?_) (fun _ => ?_) <;> (conv => whnf))
      | (refine need_intro ?_ ?_; (conv => whnf))
      | (refine wk_refl ?_; (conv => whnf))
      | (refine draw_intro (by kernel_rfl) ?_; (conv => whnf))
      | (refine ord_intro (by kernel_rfl) ?_; (conv => whnf))
    all_goals try simp only [decide_eq_true_eq, decide_eq_false_iff_not, Int.toNat_natCast, cellsWr, bytesWr, true_and, and_true, Bool.not_eq_true', Bool.not_eq_false'] at *
    all_goals first
      | exact trivial
      | omega
      | exact DLe.refl _
      | exact RowLe.refl _ _ _
      | exact DLe.of_eq (by rw [hs])
      | exact ⟨by omega, by omega⟩
      | (rw [collect_keep (by omega) (by simp [goneP, *, -List.getD_eq_getElem?_getD])]; simp only [List.length_append, List.length_singleton]; done)
      | (rw [collect_drop (by omega) (by simp [goneP, *, -List.getD_eq_getElem?_getD])]; done)
      | (rw [collect_drop (by omega) (by simp [goneP, *, -List.getD_eq_getElem?_getD])]; exact RowLe.refl _ _ _)
      | (rw [collect_keep (by omega) (by simp [goneP, *, -List.getD_eq_getElem?_getD])]; simp only [List.length_append, List.length_singleton]; exact row_snoc (by first | rfl | simp only [List.length_append]) (RowLe.refl _ _ _) (jlt3 (DLe.of_eq rfl) (DLe.of_eq rfl) (DLe.of_eq rfl)))
      | skip
    have e : collect (goneP b) goneW (a.take i) = collect (goneP b) goneW a ++ collect (newP' a) newW (b.take 0) := by rw [show i = a.length by omega, List.take_length]; simp [collect]
    rw [e]
    refine loop_auto [0, 1, 44, 45] [] (fun i : Nat => [(5, .osl 500 3 0 (collect (goneP b) goneW a ++ collect (newP' a) newW (b.take i)).length), (46, .d (.int .i64 i))]) (fun i => [(500, .row 49 3 (collect (goneP b) goneW a ++ collect (newP' a) newW (b.take i)).length (cellOf encWr (collect (goneP b) goneW a ++ collect (newP' a) newW (b.take i))))]) (fun i => i ≤ b.length) (fun i => b.length - i) 0 ?_ (fun i hi => ?_) (Nat.zero_le _)
    · conv => whnf
      repeat' first
        | (refine bc_true (by assumption) ?_; (conv => whnf))
        | (refine bc_false (by assumption) ?_; (conv => whnf))
        | (refine bc_intro (fun _ => ?_) (fun _ => ?_) <;> (conv => whnf))
        | (refine need_intro ?_ ?_; (conv => whnf))
        | (refine wk_refl ?_; (conv => whnf))
        | (refine draw_intro (by kernel_rfl) ?_; (conv => whnf))
        | (refine ord_intro (by kernel_rfl) ?_; (conv => whnf))
      all_goals first | exact ⟨rfl, rfl⟩ | exact ⟨rfl, rfl, rfl⟩ | exact DLe.refl _ | exact RowLe.refl _ _ _ | exact trivial
    · have hs : IntKind.i64.wrap ((i : Int) + 1) = ((i + 1 : Nat) : Int) := wrap_succ (n := 1099511627777) (by omega) (by omega)
      have hl : (collect (goneP b) goneW a ++ collect (newP' a) newW (b.take i)).length ≤ a.length + i := by
        have h1 : (collect (goneP b) goneW a).length ≤ a.length := collect_len
        have h2 : (collect (newP' a) newW (b.take i)).length ≤ i := Nat.le_trans collect_len (by simp; omega)
        rw [List.length_append]; omega
      conv => whnf
      repeat' first
        | (refine call_if (getp_spec _ _) (by first | exact .inl rfl | exact .inr ⟨rfl, rfl⟩) (need_intro ?_ ?_); (conv => whnf))
        | (refine NextVC.mk (i + 1) ?_ ?_ ?_; (conv => whnf))
        | (refine bc_true (by assumption) ?_; (conv => whnf))
        | (refine bc_false (by assumption) ?_; (conv => whnf))
        | (refine bc_intro (fun _ => ?_) (fun _ => ?_) <;> (conv => whnf))
        | (refine need_intro ?_ ?_; (conv => whnf))
        | (refine wk_refl ?_; (conv => whnf))
        | (refine draw_intro (by kernel_rfl) ?_; (conv => whnf))
        | (refine ord_intro (by kernel_rfl) ?_; (conv => whnf))
      all_goals try simp only [decide_eq_true_eq, decide_eq_false_iff_not, Int.toNat_natCast, cellsWr, bytesWr, true_and, and_true, Bool.not_eq_true', Bool.not_eq_false'] at *
      all_goals first
        | exact trivial
        | omega
        | exact DLe.refl _
        | exact RowLe.refl _ _ _
        | exact DLe.of_eq (by rw [hs])
        | exact ⟨by omega, by omega⟩
        | (rw [collect_keep (by omega) (by simp [newP', *, -List.getD_eq_getElem?_getD]), ← List.append_assoc]; simp only [List.length_append, List.length_singleton]; done)
        | (rw [collect_drop (by omega) (by simp [newP', *, -List.getD_eq_getElem?_getD])]; done)
        | (rw [collect_drop (by omega) (by simp [newP', *, -List.getD_eq_getElem?_getD])]; exact RowLe.refl _ _ _)
        | (rw [collect_keep (by omega) (by simp [newP', *, -List.getD_eq_getElem?_getD]), ← List.append_assoc]; simp only [List.length_append, List.length_singleton]; exact row_snoc (by first | rfl | simp only [List.length_append]) (RowLe.refl _ _ _) (jlt3 (DLe.of_eq rfl) (DLe.of_eq rfl) (DLe.of_eq rfl)))
        | skip
      all_goals try simp only [List.length_append] at *
      all_goals first
        | omega
        | (rw [← List.length_append] at *; exact ⟨les_own (by rw [show i = b.length by omega, List.take_length, diff_valid hva hvb]), trivial⟩)
        | trace_state
theorem sameR_spec (a b : List Row) : (a.length ≤ 500000000000 ∧ b.length ≤ 500000000000) → Sx.Spec Tryd.prog GG 14 [.d (encL encRow 2 a), .d (encL encRow 2 b)] [] (.d (.bool (sameF a b))) [] := by
  rintro ⟨hla, hlb⟩
  refine spec_intro (E := EE) (fn := Tryd.f14) eok (by kernel_rfl) (by kernel_rfl) Tryd.call14 (by kernel_rfl) (by kernel_rfl) ?_
  conv => whnf
  repeat' first
    | (refine bc_true (by assumption) ?_; (conv => whnf))
    | (refine bc_false (by assumption) ?_; (conv => whnf))
    | (refine bc_intro (fun _ => ?_) (fun _ => ?_) <;> (conv => whnf))
    | (refine need_intro ?_ ?_; (conv => whnf))
    | (refine wk_refl ?_; (conv => whnf))
    | (refine draw_intro (by kernel_rfl) ?_; (conv => whnf))
    | (refine ord_intro (by kernel_rfl) ?_; (conv => whnf))
  all_goals try simp only [bne_iff_ne, bne_eq_false_iff_eq, beq_iff_eq, beq_eq_false_iff_ne, ne_eq, Bool.not_eq_true', Bool.not_eq_false'] at *
  all_goals try first
    | (rw [same_len (by omega)]; exact ⟨LeS.refl _, trivial⟩)
  refine loop_auto [0, 1, 12] [] (fun i : Nat => [(13, .d (.int .i64 i))]) (fun i => []) (fun i => i ≤ a.length ∧ ∀ j, j < i → a.getD j default = b.getD j default) (fun i => a.length - i) 0 ?_ (fun i hx => ?_) ⟨Nat.zero_le _, fun j hj => absurd hj (Nat.not_lt_zero j)⟩
  · conv => whnf
    repeat' first
      | (refine bc_true (by assumption) ?_; (conv => whnf))
      | (refine bc_false (by assumption) ?_; (conv => whnf))
      | (refine bc_intro (fun _ => ?_) (fun _ => ?_) <;> (conv => whnf))
      | (refine need_intro ?_ ?_; (conv => whnf))
      | (refine wk_refl ?_; (conv => whnf))
      | (refine draw_intro (by kernel_rfl) ?_; (conv => whnf))
      | (refine ord_intro (by kernel_rfl) ?_; (conv => whnf))
    all_goals first | exact ⟨rfl, rfl⟩ | exact ⟨rfl, rfl, rfl⟩ | exact DLe.refl _ | exact RowLe.refl _ _ _ | exact trivial
  · obtain ⟨hi, hc⟩ := hx
    have hs : IntKind.i64.wrap ((i : Int) + 1) = ((i + 1 : Nat) : Int) := wrap_succ (n := 1099511627777) (by omega) (by omega)
    conv => whnf
    repeat' first
      | (refine NextVC.mk (i + 1) ?_ ?_ ?_; (conv => whnf))
      | (refine bc_true (by assumption) ?_; (conv => whnf))
      | (refine bc_false (by assumption) ?_; (conv => whnf))
      | (refine bc_intro (fun _ => ?_) (fun _ => ?_) <;> (conv => whnf))
      | (refine need_intro ?_ ?_; (conv => whnf))
      | (refine wk_refl ?_; (conv => whnf))
      | (refine draw_intro (by kernel_rfl) ?_; (conv => whnf))
      | (refine ord_intro (by kernel_rfl) ?_; (conv => whnf))
    all_goals try simp only [decide_eq_true_eq, decide_eq_false_iff_not, Int.toNat_natCast, Bool.and_eq_true, Bool.and_eq_false_iff, bne_iff_ne, bne_eq_false_iff_eq, beq_iff_eq, beq_eq_false_iff_ne, ne_eq, Bool.not_eq_true', Bool.not_eq_false'] at *
    all_goals first
      | exact trivial
      | omega
      | exact DLe.refl _
      | exact DLe.of_eq (by rw [hs])
      | exact ⟨by omega, by omega⟩
      | (refine ⟨by omega, fun j hj => ?_⟩
         by_cases e : j = i
         · subst e; (exact Prod.ext (by simp_all) (by simp_all))
         · exact hc j (by omega))
      | (rw [same_false (i := i) (fun e => by rename_i z; exact z.elim (fun z => z (congrArg Prod.fst e)) (fun z => z (congrArg Prod.snd e)))]; exact ⟨LeS.refl _, trivial⟩)
      | (rw [same_true (by omega) (fun j hj => hc j (by omega))]; exact ⟨LeS.refl _, trivial⟩)
      | trace_state
abbrev awkRows : List Row := [([97], [49]), ([98], [50]), ([99], [])]
theorem cut_aw {get : Nat → Nat → D} {n : Int} {x : List UInt8 × Bool × Bool} (h : RowLe 3 2 get (cellOf encRow awkRows)) (hn : -9223372036854775808 ≤ n ∧ n < 9223372036854775808) (e : cutF awkRows n = x) : Sx.Spec Tryd.prog GG 15 [.d (.list 3 2 get), .d (.int .i64 n)] [] (.tup [.agg [.d (.str x.1), .d (.bool x.2.1)], .d (.bool x.2.2)]) [] := by
  subst e
  exact (cutp_spec awkRows n hn).arg (LeL.cons (LeS.d (DLe.rows rfl h)) (LeL.cons (LeS.refl _) LeL.nil))
theorem diff_aw {g1 g2 : Nat → Nat → D} (h1 : RowLe 2 2 g1 (cellOf encRow [([97], [49]), ([98], [50])])) (h2 : RowLe 1 2 g2 (cellOf encRow [([98], [51])])) : Sx.Spec Tryd.prog GG 16 [.d (.list 2 2 g1), .d (.list 1 2 g2)] [] (.d (encL encWr 3 [([97], [], true), ([98], [51], false)])) [] :=
  (diffp_spec [([97], [49]), ([98], [50])] [([98], [51])] ⟨by decide, by decide⟩).arg (LeL.cons (LeS.d (DLe.rows rfl h1)) (LeL.cons (LeS.d (DLe.rows rfl h2)) LeL.nil))
theorem awake_spec : Sx.Spec Tryd.prog GG 4 [] [] (.d (.bool true)) [] := by
  refine spec_intro (E := EE) (fn := Tryd.f4) eok (by kernel_rfl) (by kernel_rfl) Tryd.call4 (by kernel_rfl) (by kernel_rfl) ?_
  conv => whnf
  repeat' first
    | (refine call_intro (cut_aw (x := ([99], false, true)) (.all (by repeat' first | exact trivial | exact rfl | apply And.intro)) (by decide) rfl) ?_ (by first | exact .inl rfl | exact .inr ⟨rfl, rfl⟩); (conv => whnf))
    | (refine call_intro (cut_aw (x := ([], true, true)) (.all (by repeat' first | exact trivial | exact rfl | apply And.intro)) (by decide) rfl) ?_ (by first | exact .inl rfl | exact .inr ⟨rfl, rfl⟩); (conv => whnf))
    | (refine call_intro (diff_aw (.all (by repeat' first | exact trivial | exact rfl | apply And.intro)) (.all (by repeat' first | exact trivial | exact rfl | apply And.intro))) ?_ (by first | exact .inl rfl | exact .inr ⟨rfl, rfl⟩); (conv => whnf))
    | (refine bc_true (by assumption) ?_; (conv => whnf))
    | (refine bc_false (by assumption) ?_; (conv => whnf))
    | (refine bc_intro (fun _ => ?_) (fun _ => ?_) <;> (conv => whnf))
    | (refine need_intro ?_ ?_; (conv => whnf))
    | (refine wk_refl ?_; (conv => whnf))
    | (refine draw_intro (by kernel_rfl) ?_; (conv => whnf))
    | (refine ord_intro (by kernel_rfl) ?_; (conv => whnf))
  all_goals first
    | decide
    | exact ⟨LeS.refl _, trivial⟩
    | trace_state
end Go.Proofs.YtfjiffbacallhaaDoor
