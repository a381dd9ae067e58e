/- Contracts of functions that the law reaches: YtfjiffbacallhaaDoorRep2. Written for this claim. -/
import Derived.Test.YtfjiffbacallhaaDoorTab
import Derived.Test.YtfjiffbacallhaaDoorSl6
import Derived.Test.YtfjiffbacallhaaDoorSxSlice
import Derived.Test.YtfjiffbacallhaaDoorSxTab
import Derived.Deep.QuietTactic
namespace Go.Proofs.YtfjiffbacallhaaDoor
open Go Go.Sx Go.ChangeShapes Go.WideShapes Go.ChangeAt Go.RowKit
set_option linter.unusedVariables false
set_option linter.unusedSimpArgs false
set_option maxRecDepth 100000
def outF (t : List Row) (lk : List UInt8) (lt : Bool) (hk : List UInt8) (ht : Bool) : List Row := t.filter fun x => !containsR lk lt hk ht x.1
theorem out_keep {rows : List Row} {lk : List UInt8} {lt : Bool} {hk : List UInt8} {ht : Bool} {i : Nat} (h : i < rows.length) (hc : (!containsR lk lt hk ht (rows.getD i default).1) = true) : outF (rows.take (i + 1)) lk lt hk ht = outF (rows.take i) lk lt hk ht ++ [rows.getD i default] := by
  rw [take_succ' h, outF, List.filter_append, List.filter_cons, if_pos hc, List.filter_nil]; rfl
theorem out_drop {rows : List Row} {lk : List UInt8} {lt : Bool} {hk : List UInt8} {ht : Bool} {i : Nat} (h : i < rows.length) (hc : (!containsR lk lt hk ht (rows.getD i default).1) = false) : outF (rows.take (i + 1)) lk lt hk ht = outF (rows.take i) lk lt hk ht := by
  rw [take_succ' h, outF, List.filter_append, List.filter_cons, if_neg (by rw [hc]; simp), List.filter_nil, List.append_nil]; rfl
theorem out_len {t : List Row} {lk : List UInt8} {lt : Bool} {hk : List UInt8} {ht : Bool} : (outF t lk lt hk ht).length ≤ t.length := List.length_filter_le _ _
def withinF (rows : List Row) (lk : List UInt8) (lt : Bool) (hk : List UInt8) (ht : Bool) : Bool := rows.all fun x => containsR lk lt hk ht x.1
theorem within_no {rows : List Row} {lk : List UInt8} {lt : Bool} {hk : List UInt8} {ht : Bool} {i : Nat} (hi : i < rows.length) (h : (!containsR lk lt hk ht (rows.getD i default).1) = true) : withinF rows lk lt hk ht = false := by
  unfold withinF
  rw [List.all_eq_false]
  exact ⟨_, getD_memT hi, by simpa using h⟩
theorem within_yes {rows : List Row} {lk : List UInt8} {lt : Bool} {hk : List UInt8} {ht : Bool} (h : ∀ j, j < rows.length → (!containsR lk lt hk ht (rows.getD j default).1) = false) : withinF rows lk lt hk ht = true := by
  unfold withinF
  rw [List.all_eq_true]
  intro x hx
  obtain ⟨j, hj, rfl⟩ := List.getElem_of_mem hx
  have := h j hj
  simpa [List.getD, hj] using this
def repF (t : List Row) (lk : List UInt8) (lt : Bool) (hk : List UInt8) (ht : Bool) (rows : List Row) : List Row × Int :=
  if !(validT t) || !(validR lk lt hk ht) then ([], 1) else if !(validT rows) || !(withinF rows lk lt hk ht) then ([], 17) else if (outF t lk lt hk ht).length + rows.length > 1024 then ([], 16) else (rows.foldl withF (outF t lk lt hk ht), 0)
theorem rep_bad {t rows : List Row} {lk : List UInt8} {lt : Bool} {hk : List UInt8} {ht : Bool} (h : validT t = false ∨ validR lk lt hk ht = false) : repF t lk lt hk ht rows = ([], 1) := by
  rcases h with h | h <;> simp [repF, h]
theorem rep_rows {t rows : List Row} {lk : List UInt8} {lt : Bool} {hk : List UInt8} {ht : Bool} (h1 : validT t = true) (h2 : validR lk lt hk ht = true) (h : validT rows = false ∨ withinF rows lk lt hk ht = false) : repF t lk lt hk ht rows = ([], 17) := by
  rcases h with h | h <;> simp [repF, h, h1, h2]
theorem rep_full {t rows : List Row} {lk : List UInt8} {lt : Bool} {hk : List UInt8} {ht : Bool} (h1 : validT t = true) (h2 : validR lk lt hk ht = true) (h3 : validT rows = true) (h4 : withinF rows lk lt hk ht = true) (h5 : (outF t lk lt hk ht).length + rows.length > 1024) : repF t lk lt hk ht rows = ([], 16) := by
  simp [repF, h1, h2, h3, h4, h5]
theorem rep_ok {t rows : List Row} {lk : List UInt8} {lt : Bool} {hk : List UInt8} {ht : Bool} (h1 : validT t = true) (h2 : validR lk lt hk ht = true) (h3 : validT rows = true) (h4 : withinF rows lk lt hk ht = true) (h5 : ¬ (outF t lk lt hk ht).length + rows.length > 1024) : repF t lk lt hk ht rows = (rows.foldl withF (outF t lk lt hk ht), 0) := by
  simp [repF, h1, h2, h3, h4, h5]
theorem rep_sort {t rows : List Row} {lk : List UInt8} {lt : Bool} {hk : List UInt8} {ht : Bool} (h1 : validT t = true) (h3 : validT rows = true) (h4 : withinF rows lk lt hk ht = true) : sortF (outF t lk lt hk ht ++ rows) = rows.foldl withF (outF t lk lt hk ht) := by
  have ht1 := (validT_iff.1 h1).sorted
  have ht3 := (validT_iff.1 h3).sorted
  have hp := sort_perm (outF t lk lt hk ht ++ rows)
  refine sort_fold (ht1.sub List.filter_sublist) ht3 (fun a ha b hb e => ?_) hp.1 hp.2
  have h5 := (List.mem_filter.1 ha).2
  have h6 := List.all_eq_true.1 h4 b hb
  rw [e, h6] at h5
  cases h5
set_option maxHeartbeats 2000000 in
theorem replacep_spec (hS : SliceAt Tryd.prog 28 23 29) (t rows : List Row) (lk : List UInt8) (lt : Bool) (hk : List UInt8) (ht : Bool) : Sx.Spec Tryd.prog GG 12 [.d (encL encRow 2 t), .agg [.d (.str lk), .d (.bool lt), .d (.str hk), .d (.bool ht)], .d (encL encRow 2 rows)] [] (.tup [.d (encL encRow 2 (repF t lk lt hk ht rows).1), .d (.int .i64 (repF t lk lt hk ht rows).2)]) [] := by
  refine spec_intro (E := EE) (fn := Tryd.f12) eok (by kernel_rfl) (by kernel_rfl) Tryd.call12 (by kernel_rfl) (by kernel_rfl) ?_
  conv => whnf
  repeat' first
    | (refine call_intro (validTp_spec _) ?_ (by first | exact .inl rfl | exact .inr ⟨rfl, rfl⟩); (conv => whnf))
    | (refine call_intro (validRp_spec _ _ _ _) ?_ (by first | exact .inl rfl | exact .inr ⟨rfl, rfl⟩); (conv => whnf))
    | (refine bc_true (by assumption) ?_; (conv => whnf))
    | (refine bc_false (by assumption) ?_; (conv => whnf))
    | (refine bc_intro (fun _ => ?_) (fun _ => ?_) <;> (conv => whnf))
    | (refine need_intro ?_ ?_; (conv => whnf))
    | (refine wk_refl ?_; (conv => whnf))
    | (refine draw_intro (by kernel_rfl) ?_; (conv => whnf))
    | (refine ord_intro (by kernel_rfl) ?_; (conv => whnf))
  all_goals try simp only [Bool.not_eq_true', Bool.not_eq_false'] at *
  all_goals try first
    | (rw [rep_bad (.inl (by assumption))]; exact ⟨LeS.tup (LeL.cons (les_nil rfl) (LeL.cons (LeS.refl _) LeL.nil)), trivial⟩)
    | (rw [rep_bad (.inr (by assumption))]; exact ⟨LeS.tup (LeL.cons (les_nil rfl) (LeL.cons (LeS.refl _) LeL.nil)), trivial⟩)
    | (rw [rep_rows (by assumption) (by assumption) (.inl (by assumption))]; exact ⟨LeS.tup (LeL.cons (les_nil rfl) (LeL.cons (LeS.refl _) LeL.nil)), trivial⟩)
  have hv1 : validT t = true := by assumption
  have hr1 : validR lk lt hk ht = true := by assumption
  have hv3 : validT rows = true := by assumption
  have hl1 := validT_len hv1
  have hl3 := validT_len hv3
  refine loop_auto [0, 2, 4, 24, 25] [4] (fun i : Nat => [(26, .d (.int .i64 i))]) (fun i => []) (fun i => i ≤ rows.length ∧ ∀ j, j < i → (!containsR lk lt hk ht (rows.getD j default).1) = false) (fun i => rows.length - i) 0 ?_ (fun i hx => ?_) ⟨Nat.zero_le _, fun j hj => absurd hj (Nat.not_lt_zero j)⟩
  · conv => whnf
    repeat' first
      | (refine bc_true (by assumption) ?_; (conv => whnf))
      | (refine bc_false (by assumption) ?_; (conv => whnf))
      | (refine bc_intro (fun _ => ?_) (fun _ => ?_) <;> (conv => whnf))
      | (refine need_intro ?_ ?_; (conv => whnf))
      | (refine wk_refl ?_; (conv => whnf))
      | (refine draw_intro (by kernel_rfl) ?_; (conv => whnf))
      | (refine ord_intro (by kernel_rfl) ?_; (conv => whnf))
    all_goals first | exact ⟨rfl, rfl⟩ | exact ⟨rfl, rfl, rfl⟩ | exact DLe.refl _ | exact RowLe.refl _ _ _ | exact trivial
  obtain ⟨hi, hc⟩ := hx
  have hs : IntKind.i64.wrap ((i : Int) + 1) = ((i + 1 : Nat) : Int) := wrap_succ (n := 2000) (by omega) (by omega)
  rcases Nat.lt_or_eq_of_le hi with hil | rfl
  · have hil' : decide ((i : Int) < (rows.length : Int)) = true := decide_eq_true (by omega)
    conv => whnf
    repeat' first
      | (refine call_intro (containsRp_spec _ _ _ _ _) ?_ (by first | exact .inl rfl | exact .inr ⟨rfl, rfl⟩); (conv => whnf))
      | (refine NextVC.mk (i + 1) ?_ ?_ ?_; (conv => whnf))
      | (refine bc_true (by assumption) ?_; (conv => whnf))
      | (refine bc_false (by assumption) ?_; (conv => whnf))
      | (refine bc_intro (fun _ => ?_) (fun _ => ?_) <;> (conv => whnf))
      | (refine need_intro ?_ ?_; (conv => whnf))
      | (refine wk_refl ?_; (conv => whnf))
      | (refine draw_intro (by kernel_rfl) ?_; (conv => whnf))
      | (refine ord_intro (by kernel_rfl) ?_; (conv => whnf))
    all_goals try simp only [Int.toNat_natCast] at *
    all_goals first
      | exact trivial
      | omega
      | exact DLe.refl _
      | exact DLe.of_eq (by rw [hs])
      | exact ⟨by omega, by omega⟩
      | (refine ⟨by omega, fun j hj => ?_⟩
         by_cases e : j = i
         · subst e; assumption
         · exact hc j (by omega))
      | (rw [rep_rows hv1 hr1 (.inr (within_no hil (by assumption)))]; exact ⟨LeS.tup (LeL.cons (les_nil rfl) (LeL.cons (LeS.refl _) LeL.nil)), trivial⟩)
      | trace_state
  have hw := within_yes hc
  have hil' : decide ((rows.length : Int) < (rows.length : Int)) = false := decide_eq_false (by omega)
  conv => whnf
  repeat' first
    | (refine bc_true (by assumption) ?_; (conv => whnf))
    | (refine bc_false (by assumption) ?_; (conv => whnf))
    | (refine need_intro ?_ ?_; (conv => whnf))
    | (refine wk_refl ?_; (conv => whnf))
    | (refine draw_intro (by kernel_rfl) ?_; (conv => whnf))
    | (refine ord_intro (by kernel_rfl) ?_; (conv => whnf))
  refine loop_auto [0, 2, 4, 10, 36, 37] [4] (fun i : Nat => [(38, .d (.int .i64 i))]) (fun i => [(10, .box [.osl 500 2 0 (outF (t.take i) lk lt hk ht).length]), (500, .row 43 2 (outF (t.take i) lk lt hk ht).length (cellOf encRow (outF (t.take i) lk lt hk ht)))]) (fun i => i ≤ t.length) (fun i => t.length - i) 0 ?_ (fun i hi => ?_) (Nat.zero_le _)
  · conv => whnf
    repeat' first
      | (refine bc_true (by assumption) ?_; (conv => whnf))
      | (refine bc_false (by assumption) ?_; (conv => whnf))
      | (refine bc_intro (fun _ => ?_) (fun _ => ?_) <;> (conv => whnf))
      | (refine need_intro ?_ ?_; (conv => whnf))
      | (refine wk_refl ?_; (conv => whnf))
      | (refine draw_intro (by kernel_rfl) ?_; (conv => whnf))
      | (refine ord_intro (by kernel_rfl) ?_; (conv => whnf))
    all_goals first | exact ⟨rfl, rfl⟩ | exact ⟨rfl, rfl, rfl⟩ | exact DLe.refl _ | exact RowLe.refl _ _ _ | exact trivial
  have hs : IntKind.i64.wrap ((i : Int) + 1) = ((i + 1 : Nat) : Int) := wrap_succ (n := 2000) (by omega) (by omega)
  have hol : (outF (t.take i) lk lt hk ht).length ≤ i := Nat.le_trans out_len (by simp; omega)
  rcases Nat.lt_or_eq_of_le hi with hil | rfl
  · have hil' : decide ((i : Int) < (t.length : Int)) = true := decide_eq_true (by omega)
    conv => whnf
    repeat' first
      | (refine call_intro (containsRp_spec _ _ _ _ _) ?_ (by first | exact .inl rfl | exact .inr ⟨rfl, rfl⟩); (conv => whnf))
      | (refine NextVC.mk (i + 1) ?_ ?_ ?_; (conv => whnf))
      | (refine bc_true (by assumption) ?_; (conv => whnf))
      | (refine bc_false (by assumption) ?_; (conv => whnf))
      | (refine bc_intro (fun _ => ?_) (fun _ => ?_) <;> (conv => whnf))
      | (refine need_intro ?_ ?_; (conv => whnf))
      | (refine wk_refl ?_; (conv => whnf))
      | (refine draw_intro (by kernel_rfl) ?_; (conv => whnf))
      | (refine ord_intro (by kernel_rfl) ?_; (conv => whnf))
    all_goals try simp only [Int.toNat_natCast, cellsRow, bytesRow, true_and, and_true] at *
    all_goals first
      | exact trivial
      | omega
      | exact DLe.refl _
      | exact RowLe.refl _ _ _
      | exact DLe.of_eq (by rw [hs])
      | exact ⟨by omega, by omega⟩
      | (rw [out_keep (by omega) (by assumption)]; simp only [List.length_append, List.length_singleton]; done)
      | (rw [out_drop (by omega) (by assumption)]; done)
      | (rw [out_drop (by omega) (by assumption)]; exact RowLe.refl _ _ _)
      | (rw [out_keep (by omega) (by assumption)]; simp only [List.length_append, List.length_singleton]; exact row_snoc rfl (RowLe.refl _ _ _) (jlt2 (DLe.of_eq rfl) (DLe.of_eq rfl)))
      | trace_state
  have hil2 : decide ((t.length : Int) < (t.length : Int)) = false := decide_eq_false (by omega)
  rw [List.take_length]
  rw [List.take_length] at hol
  have hadd : IntKind.i64.wrap (((outF t lk lt hk ht).length : Int) + (rows.length : Int)) = (((outF t lk lt hk ht).length + rows.length : Nat) : Int) := by rw [wrap_of (by omega) (by omega)]; omega
  have hapl : (outF t lk lt hk ht).length + rows.length = (outF t lk lt hk ht ++ rows).length := by rw [List.length_append]
  conv => whnf
  repeat' first
    | (refine call_if (sortSlice_at hS (outF t lk lt hk ht ++ rows) 60 10 43 (by decide)) (by first | exact .inl rfl | exact .inr ⟨rfl, rfl⟩) (need_intro ?_ ?_); (conv => whnf))
    | (refine bc_true (by assumption) ?_; (conv => whnf))
    | (refine bc_false (by assumption) ?_; (conv => whnf))
    | (refine bc_intro (fun _ => ?_) (fun _ => ?_) <;> (conv => whnf))
    | (refine need_intro ?_ ?_; (conv => whnf))
    | (refine wk_refl ?_; (conv => whnf))
    | (refine draw_intro (by kernel_rfl) ?_; (conv => whnf))
    | (refine ord_intro (by kernel_rfl) ?_; (conv => whnf))
  all_goals try simp only [decide_eq_true_eq, decide_eq_false_iff_not, cellsRow, bytesRow, hadd] at *
  all_goals first
    | (rw [rep_full hv1 hr1 hv3 hw (by omega)]; exact ⟨LeS.tup (LeL.cons (les_nil rfl) (LeL.cons (LeS.refl _) LeL.nil)), trivial⟩)
    | exact ⟨hapl, row_append rfl (RowLe.refl _ _ _) (RowLe.refl _ _ _), by omega⟩
    | exact ⟨rfl, by omega, by omega⟩
    | exact ⟨by omega, by omega⟩
    | (rw [rep_ok hv1 hr1 hv3 hw (by omega), ← rep_sort hv1 hv3 hw]
       refine ⟨LeS.tup (LeL.cons (LeS.d (DLe.rows (by rw [hapl, sort_len]) (RowLe.of_eq fun i j _ _ => by rw [Nat.zero_add]))) (LeL.cons (LeS.refl _) LeL.nil)), trivial⟩)
    | trace_state
theorem fold_take {rows A : List Row} {j : Nat} (h : j < rows.length) : (rows.take (j + 1)).foldl withF A = withF ((rows.take j).foldl withF A) (rows.getD j default) := by
  rw [take_succ' h, List.foldl_append]; rfl
theorem with_le {rows : List Row} {x : Row} : (withF rows x).length ≤ rows.length + 1 := by
  unfold withF
  rw [ins_len]
  have := without_len (rows := rows) (k := x.1)
  omega
theorem fold_len : ∀ {B A : List Row}, (B.foldl withF A).length ≤ A.length + B.length
  | [], A => by simp
  | x :: B, A => by
    have := fold_len (B := B) (A := withF A x)
    have h2 := with_le (rows := A) (x := x)
    rw [List.foldl_cons, List.length_cons]
    omega
theorem rep_len {t rows : List Row} {lk : List UInt8} {lt : Bool} {hk : List UInt8} {ht : Bool} : (repF t lk lt hk ht rows).1.length ≤ t.length + rows.length := by
  unfold repF
  have h1 := out_len (t := t) (lk := lk) (lt := lt) (hk := hk) (ht := ht)
  have h2 := fold_len (B := rows) (A := outF t lk lt hk ht)
  split
  · simp
  · split
    · simp
    · split
      · simp
      · show (rows.foldl withF (outF t lk lt hk ht)).length ≤ _
        omega
theorem withinr_spec (lk : List UInt8) (lt : Bool) (hk : List UInt8) (ht : Bool) (rows : List Row) : rows.length ≤ 8796093022208 → Sx.Spec Tryd.prog GG 32 [.d (encL encRow 2 rows), .agg [.d (.str lk), .d (.bool lt), .d (.str hk), .d (.bool ht)]] [] (.d (.bool (withinF rows lk lt hk ht))) [] := by
  intro hlen
  refine spec_intro (E := EE) (fn := Tryd.f32) eok (by kernel_rfl) (by kernel_rfl) Tryd.call32 (by kernel_rfl) (by kernel_rfl) ?_
  conv => whnf
  repeat' first
    | (refine bc_true (by assumption) ?_; (conv => whnf))
    | (refine bc_false (by assumption) ?_; (conv => whnf))
    | (refine bc_intro (fun _ => ?_) (fun _ => ?_) <;> (conv => whnf))
    | (refine need_intro ?_ ?_; (conv => whnf))
    | (refine wk_refl ?_; (conv => whnf))
    | (refine draw_intro (by kernel_rfl) ?_; (conv => whnf))
    | (refine ord_intro (by kernel_rfl) ?_; (conv => whnf))
  refine loop_auto [3, 7, 8] [3] (fun i : Nat => [(9, .d (.int .i64 i))]) (fun i => []) (fun i => i ≤ rows.length ∧ ∀ j, j < i → (!containsR lk lt hk ht (rows.getD j default).1) = false) (fun i => rows.length - i) 0 ?_ (fun i hx => ?_) ⟨Nat.zero_le _, fun j hj => absurd hj (Nat.not_lt_zero j)⟩
  · conv => whnf
    repeat' first
      | (refine bc_true (by assumption) ?_; (conv => whnf))
      | (refine bc_false (by assumption) ?_; (conv => whnf))
      | (refine bc_intro (fun _ => ?_) (fun _ => ?_) <;> (conv => whnf))
      | (refine need_intro ?_ ?_; (conv => whnf))
      | (refine wk_refl ?_; (conv => whnf))
      | (refine draw_intro (by kernel_rfl) ?_; (conv => whnf))
      | (refine ord_intro (by kernel_rfl) ?_; (conv => whnf))
    all_goals first | exact ⟨rfl, rfl⟩ | exact ⟨rfl, rfl, rfl⟩ | exact DLe.refl _ | exact RowLe.refl _ _ _ | exact trivial
  · obtain ⟨hi, hc⟩ := hx
    have hs : IntKind.i64.wrap ((i : Int) + 1) = ((i + 1 : Nat) : Int) := wrap_succ (n := 8796093022209) (by omega) (by omega)
    conv => whnf
    repeat' first
      | (refine call_intro (containsRr_spec _ _ _ _ _) ?_ (by first | exact .inl rfl | exact .inr ⟨rfl, rfl⟩); (conv => whnf))
      | (refine NextVC.mk (i + 1) ?_ ?_ ?_; (conv => whnf))
      | (refine bc_true (by assumption) ?_; (conv => whnf))
      | (refine bc_false (by assumption) ?_; (conv => whnf))
      | (refine bc_intro (fun _ => ?_) (fun _ => ?_) <;> (conv => whnf))
      | (refine need_intro ?_ ?_; (conv => whnf))
      | (refine wk_refl ?_; (conv => whnf))
      | (refine draw_intro (by kernel_rfl) ?_; (conv => whnf))
      | (refine ord_intro (by kernel_rfl) ?_; (conv => whnf))
    all_goals try simp only [decide_eq_true_eq, decide_eq_false_iff_not, Int.toNat_natCast] at *
    all_goals first
      | exact trivial
      | omega
      | exact DLe.refl _
      | exact DLe.of_eq (by rw [hs])
      | exact ⟨by omega, by omega⟩
      | (refine ⟨by omega, fun j hj => ?_⟩
         by_cases e : j = i
         · subst e; assumption
         · exact hc j (by omega))
      | (rw [within_no (i := i) (by omega) (by assumption)]; exact ⟨LeS.refl _, trivial⟩)
      | (rw [within_yes (fun j hj => hc j (by omega))]; exact ⟨LeS.refl _, trivial⟩)
      | trace_state
theorem withr_at (A : List Row) (k v : List UInt8) {n : Nat} {g : Nat → Nat → D} : ((n = A.length ∧ RowLe n 2 g (cellOf encRow A)) ∧ A.length ≤ 1000000) → Sx.Spec Tryd.prog GG 34 [.d (.list n 2 g), .agg [.d (.str k), .d (.str v)]] [] (.d (encL encRow 2 (withF A (k, v)))) [] := by
  rintro ⟨⟨rfl, hg⟩, hl⟩
  exact (withr_spec A k v (by omega)).arg (LeL.cons (LeS.d (DLe.rows rfl hg)) (LeL.cons (LeS.refl _) LeL.nil))
set_option maxHeartbeats 2000000 in
theorem replacer_spec (t rows : List Row) (lk : List UInt8) (lt : Bool) (hk : List UInt8) (ht : Bool) : (t.length ≤ 100000 ∧ rows.length ≤ 100000) → Sx.Spec Tryd.prog GG 13 [.d (encL encRow 2 t), .agg [.d (.str lk), .d (.bool lt), .d (.str hk), .d (.bool ht)], .d (encL encRow 2 rows)] [] (.tup [.d (encL encRow 2 (repF t lk lt hk ht rows).1), .d (.int .i64 (repF t lk lt hk ht rows).2)]) [] := by
  rintro ⟨hl1, hl3⟩
  refine spec_intro (E := EE) (fn := Tryd.f13) eok (by kernel_rfl) (by kernel_rfl) Tryd.call13 (by kernel_rfl) (by kernel_rfl) ?_
  conv => whnf
  repeat' first
    | (refine call_intro (validTr_spec _) ?_ (by first | exact .inl rfl | exact .inr ⟨rfl, rfl⟩); (conv => whnf))
    | (refine call_intro (validRr_spec _ _ _ _) ?_ (by first | exact .inl rfl | exact .inr ⟨rfl, rfl⟩); (conv => whnf))
    | (refine call_if (withinr_spec _ _ _ _ _) (by first | exact .inl rfl | exact .inr ⟨rfl, rfl⟩) (need_intro ?_ ?_); (conv => whnf))
    | (refine bc_true (by assumption) ?_; (conv => whnf))
    | (refine bc_false (by assumption) ?_; (conv => whnf))
    | (refine bc_intro (fun _ => ?_) (fun _ => ?_) <;> (conv => whnf))
    | (refine need_intro ?_ ?_; (conv => whnf))
    | (refine wk_refl ?_; (conv => whnf))
    | (refine draw_intro (by kernel_rfl) ?_; (conv => whnf))
    | (refine ord_intro (by kernel_rfl) ?_; (conv => whnf))
  all_goals try simp only [Bool.not_eq_true', Bool.not_eq_false'] at *
  all_goals try first
    | omega
    | (rw [rep_bad (.inl (by assumption))]; exact ⟨LeS.tup (LeL.cons (les_nil rfl) (LeL.cons (LeS.refl _) LeL.nil)), trivial⟩)
    | (rw [rep_bad (.inr (by assumption))]; exact ⟨LeS.tup (LeL.cons (les_nil rfl) (LeL.cons (LeS.refl _) LeL.nil)), trivial⟩)
    | (rw [rep_rows (by assumption) (by assumption) (.inl (by assumption))]; exact ⟨LeS.tup (LeL.cons (les_nil rfl) (LeL.cons (LeS.refl _) LeL.nil)), trivial⟩)
    | (rw [rep_rows (by assumption) (by assumption) (.inr (by assumption))]; exact ⟨LeS.tup (LeL.cons (les_nil rfl) (LeL.cons (LeS.refl _) LeL.nil)), trivial⟩)
  have hv1 : validT t = true := by assumption
  have hr1 : validR lk lt hk ht = true := by assumption
  have hv3 : validT rows = true := by assumption
  have hw : withinF rows lk lt hk ht = true := by assumption
  have hol0 := out_len (t := t) (lk := lk) (lt := lt) (hk := hk) (ht := ht)
  refine loop_auto [2, 4, 30, 31] [4] (fun i : Nat => [(8, .osl 500 2 0 (outF (t.take i) lk lt hk ht).length), (32, .d (.int .i64 i))]) (fun i => [(500, .row 43 2 (outF (t.take i) lk lt hk ht).length (cellOf encRow (outF (t.take i) lk lt hk ht)))]) (fun i => i ≤ t.length) (fun i => t.length - i) 0 ?_ (fun i hi => ?_) (Nat.zero_le _)
  · conv => whnf
    repeat' first
      | (refine bc_true (by assumption) ?_; (conv => whnf))
      | (refine bc_false (by assumption) ?_; (conv => whnf))
      | (refine bc_intro (fun _ => ?_) (fun _ => ?_) <;> (conv => whnf))
      | (refine need_intro ?_ ?_; (conv => whnf))
      | (refine wk_refl ?_; (conv => whnf))
      | (refine draw_intro (by kernel_rfl) ?_; (conv => whnf))
      | (refine ord_intro (by kernel_rfl) ?_; (conv => whnf))
    all_goals first | exact ⟨rfl, rfl⟩ | exact ⟨rfl, rfl, rfl⟩ | exact DLe.refl _ | exact RowLe.refl _ _ _ | exact trivial
  have hs : IntKind.i64.wrap ((i : Int) + 1) = ((i + 1 : Nat) : Int) := wrap_succ (n := 200000) (by omega) (by omega)
  have hol : (outF (t.take i) lk lt hk ht).length ≤ i := Nat.le_trans out_len (by simp; omega)
  rcases Nat.lt_or_eq_of_le hi with hil | rfl
  · have hil' : decide ((i : Int) < (t.length : Int)) = true := decide_eq_true (by omega)
    conv => whnf
    repeat' first
      | (refine call_intro (containsRr_spec _ _ _ _ _) ?_ (by first | exact .inl rfl | exact .inr ⟨rfl, rfl⟩); (conv => whnf))
      | (refine NextVC.mk (i + 1) ?_ ?_ ?_; (conv => whnf))
      | (refine bc_true (by assumption) ?_; (conv => whnf))
      | (refine bc_false (by assumption) ?_; (conv => whnf))
      | (refine bc_intro (fun _ => ?_) (fun _ => ?_) <;> (conv => whnf))
      | (refine need_intro ?_ ?_; (conv => whnf))
      | (refine wk_refl ?_; (conv => whnf))
      | (refine draw_intro (by kernel_rfl) ?_; (conv => whnf))
      | (refine ord_intro (by kernel_rfl) ?_; (conv => whnf))
    all_goals try simp only [Int.toNat_natCast, cellsRow, bytesRow, true_and, and_true] at *
    all_goals first
      | exact trivial
      | omega
      | exact DLe.refl _
      | exact RowLe.refl _ _ _
      | exact DLe.of_eq (by rw [hs])
      | exact ⟨by omega, by omega⟩
      | (rw [out_keep (by omega) (by assumption)]; simp only [List.length_append, List.length_singleton]; done)
      | (rw [out_drop (by omega) (by assumption)]; done)
      | (rw [out_drop (by omega) (by assumption)]; exact RowLe.refl _ _ _)
      | (rw [out_keep (by omega) (by assumption)]; simp only [List.length_append, List.length_singleton]; exact row_snoc rfl (RowLe.refl _ _ _) (jlt2 (DLe.of_eq rfl) (DLe.of_eq rfl)))
      | trace_state
  have hil2 : decide ((t.length : Int) < (t.length : Int)) = false := decide_eq_false (by omega)
  rw [List.take_length]
  have hadd : IntKind.i64.wrap (((outF t lk lt hk ht).length : Int) + (rows.length : Int)) = (((outF t lk lt hk ht).length + rows.length : Nat) : Int) := by rw [wrap_of (by omega) (by omega)]; omega
  conv => whnf
  repeat' first
    | (refine bc_true (by assumption) ?_; (conv => whnf))
    | (refine bc_false (by assumption) ?_; (conv => whnf))
    | (refine bc_intro (fun _ => ?_) (fun _ => ?_) <;> (conv => whnf))
    | (refine need_intro ?_ ?_; (conv => whnf))
    | (refine wk_refl ?_; (conv => whnf))
    | (refine draw_intro (by kernel_rfl) ?_; (conv => whnf))
    | (refine ord_intro (by kernel_rfl) ?_; (conv => whnf))
  all_goals try simp only [decide_eq_true_eq, decide_eq_false_iff_not, hadd] at *
  all_goals try first
    | (rw [rep_full hv1 hr1 hv3 hw (by omega)]; exact ⟨LeS.tup (LeL.cons (les_nil rfl) (LeL.cons (LeS.refl _) LeL.nil)), trivial⟩)
    | exact ⟨by omega, by omega⟩
  have hnf : ¬ (outF t lk lt hk ht).length + rows.length > 1024 := by omega
  refine loop_auto [52, 53] [] (fun j : Nat => [(54, .d (.int .i64 j)), (8, match j with | 0 => .osl 500 2 0 (outF t lk lt hk ht).length | j + 1 => .d (encL encRow 2 ((rows.take (j + 1)).foldl withF (outF t lk lt hk ht))))]) (fun j => match j with | 0 => [(500, .row 43 2 (outF t lk lt hk ht).length (cellOf encRow (outF t lk lt hk ht)))] | _ + 1 => []) (fun j => j ≤ rows.length) (fun j => rows.length - j) 0 ?_ (fun j hj => ?_) (Nat.zero_le _)
  · conv => whnf
    repeat' first
      | (refine bc_true (by assumption) ?_; (conv => whnf))
      | (refine bc_false (by assumption) ?_; (conv => whnf))
      | (refine bc_intro (fun _ => ?_) (fun _ => ?_) <;> (conv => whnf))
      | (refine need_intro ?_ ?_; (conv => whnf))
      | (refine wk_refl ?_; (conv => whnf))
      | (refine draw_intro (by kernel_rfl) ?_; (conv => whnf))
      | (refine ord_intro (by kernel_rfl) ?_; (conv => whnf))
    all_goals first | exact ⟨rfl, rfl⟩ | exact ⟨rfl, rfl, rfl⟩ | exact DLe.refl _ | exact RowLe.refl _ _ _ | exact trivial
  have hsj : IntKind.i64.wrap ((j : Int) + 1) = ((j + 1 : Nat) : Int) := wrap_succ (n := 200000) (by omega) (by omega)
  rcases Nat.lt_or_eq_of_le hj with hjl | hje
  · have hjl' : decide ((j : Int) < (rows.length : Int)) = true := decide_eq_true (by omega)
    rcases j with _ | j
    · have hft := fold_take (A := outF t lk lt hk ht) (rows := rows) (j := 0) (by omega)
      conv => whnf
      repeat' first
        | (refine call_if (withr_at (outF t lk lt hk ht) (rows.getD (Int.toNat ((0 : Nat) : Int)) default).1 (rows.getD (Int.toNat ((0 : Nat) : Int)) default).2) (by first | exact .inl rfl | exact .inr ⟨rfl, rfl⟩) (need_intro ?_ ?_); (conv => whnf))
        | (refine NextVC.mk (0 + 1) ?_ ?_ ?_; (conv => whnf))
        | (refine bc_true (by assumption) ?_; (conv => whnf))
        | (refine bc_false (by assumption) ?_; (conv => whnf))
        | (refine bc_intro (fun _ => ?_) (fun _ => ?_) <;> (conv => whnf))
        | (refine need_intro ?_ ?_; (conv => whnf))
        | (refine wk_refl ?_; (conv => whnf))
        | (refine draw_intro (by kernel_rfl) ?_; (conv => whnf))
        | (refine ord_intro (by kernel_rfl) ?_; (conv => whnf))
      all_goals try simp only [Int.toNat_natCast] at *
      all_goals first
        | exact trivial
        | omega
        | exact DLe.refl _
        | exact RowLe.refl _ _ _
        | exact DLe.of_eq (by rw [hsj])
        | exact ⟨by omega, by omega⟩
        | (rw [hft]; exact DLe.refl _)
        | exact ⟨⟨trivial, RowLe.of_eq fun i j _ _ => by rw [Nat.zero_add]⟩, by omega⟩
        | exact ⟨⟨rfl, RowLe.of_eq fun i j _ _ => by rw [Nat.zero_add]⟩, by omega⟩
        | trace_state
    · have hft := fold_take (A := outF t lk lt hk ht) (rows := rows) (j := j + 1) (by omega)
      have hfl := fold_len (B := rows.take (j + 1)) (A := outF t lk lt hk ht)
      rw [List.length_take] at hfl
      conv => whnf
      repeat' first
        | (refine call_if (withr_spec ((rows.take (j + 1)).foldl withF (outF t lk lt hk ht)) (rows.getD (Int.toNat ((j + 1 : Nat) : Int)) default).1 (rows.getD (Int.toNat ((j + 1 : Nat) : Int)) default).2) (by first | exact .inl rfl | exact .inr ⟨rfl, rfl⟩) (need_intro ?_ ?_); (conv => whnf))
        | (refine NextVC.mk (j + 1 + 1) ?_ ?_ ?_; (conv => whnf))
        | (refine bc_true (by assumption) ?_; (conv => whnf))
        | (refine bc_false (by assumption) ?_; (conv => whnf))
        | (refine bc_intro (fun _ => ?_) (fun _ => ?_) <;> (conv => whnf))
        | (refine need_intro ?_ ?_; (conv => whnf))
        | (refine wk_refl ?_; (conv => whnf))
        | (refine draw_intro (by kernel_rfl) ?_; (conv => whnf))
        | (refine ord_intro (by kernel_rfl) ?_; (conv => whnf))
      all_goals try simp only [Int.toNat_natCast] at *
      all_goals first
        | exact trivial
        | omega
        | exact DLe.refl _
        | exact RowLe.refl _ _ _
        | exact DLe.of_eq (by rw [hsj])
        | exact ⟨by omega, by omega⟩
        | (rw [hft]; exact DLe.refl _)
        | exact ⟨⟨trivial, RowLe.of_eq fun i j _ _ => by rw [Nat.zero_add]⟩, by omega⟩
        | exact ⟨⟨rfl, RowLe.of_eq fun i j _ _ => by rw [Nat.zero_add]⟩, by omega⟩
        | trace_state
  · have hjl' : decide ((j : Int) < (rows.length : Int)) = false := decide_eq_false (by omega)
    rcases j with _ | j
    · have e0 : rows = [] := List.length_eq_zero_iff.1 (by omega)
      conv => whnf
      repeat' first
        | (refine bc_true (by assumption) ?_; (conv => whnf))
        | (refine bc_false (by assumption) ?_; (conv => whnf))
        | (refine bc_intro (fun _ => ?_) (fun _ => ?_) <;> (conv => whnf))
        | (refine need_intro ?_ ?_; (conv => whnf))
        | (refine wk_refl ?_; (conv => whnf))
        | (refine draw_intro (by kernel_rfl) ?_; (conv => whnf))
        | (refine ord_intro (by kernel_rfl) ?_; (conv => whnf))
      all_goals first
        | exact ⟨by omega, by omega⟩
        | exact ⟨by omega, by omega, by omega⟩
        | (rw [rep_ok hv1 hr1 hv3 hw hnf, e0]
           refine ⟨LeS.tup (LeL.cons (LeS.d (DLe.rows rfl (RowLe.of_eq fun i j _ _ => by rw [Nat.zero_add]; rfl))) (LeL.cons (LeS.refl _) LeL.nil)), trivial⟩)
        | trace_state
    · conv => whnf
      repeat' first
        | (refine bc_true (by assumption) ?_; (conv => whnf))
        | (refine bc_false (by assumption) ?_; (conv => whnf))
        | (refine bc_intro (fun _ => ?_) (fun _ => ?_) <;> (conv => whnf))
        | (refine need_intro ?_ ?_; (conv => whnf))
        | (refine wk_refl ?_; (conv => whnf))
        | (refine draw_intro (by kernel_rfl) ?_; (conv => whnf))
        | (refine ord_intro (by kernel_rfl) ?_; (conv => whnf))
      all_goals first
        | (show Sx.Fin (.tup [.d (encL encRow 2 ((rows.take (j + 1)).foldl withF (outF t lk lt hk ht))), .d (.int .i64 0)]) [] _ _
           rw [rep_ok hv1 hr1 hv3 hw hnf, hje, List.take_length]
           exact ⟨LeS.refl _, trivial⟩)
        | trace_state
end Go.Proofs.YtfjiffbacallhaaDoor
