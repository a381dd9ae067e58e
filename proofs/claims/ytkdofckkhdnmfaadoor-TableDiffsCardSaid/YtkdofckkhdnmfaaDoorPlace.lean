/- Contracts of functions that the law reaches: YtkdofckkhdnmfaaDoorPlace. Written for this claim. -/
import Derived.Test.YtkdofckkhdnmfaaDoorTab
import Derived.Test.YtkdofckkhdnmfaaDoorSxTabB
namespace Go.Proofs.YtkdofckkhdnmfaaDoor
open Go Go.Sx Go.ChangeShapes Go.WideShapes Go.ChangeAt Go.RowKit
set_option linter.unusedVariables false
set_option linter.unusedSimpArgs false
set_option maxRecDepth 100000
/-! the place of a bound -/
theorem placeAt_spec (rows : List Row) (k : List UInt8) (t : Bool) (i : Int) : (0 ≤ i ∧ i < rows.length) → Sx.Spec Tryd.prog GG 73 [.d (.int .i64 i), .ptr 2 0, .ptr 3 0] [(2, .box [.d (encL encRow 2 rows)]), (3, .box [.d (.str k), .d (.bool t)])] (.d (.bool (decide (cmpB (rows.getD i.toNat default).1 false k t ≥ 0)))) [(2, .box [.d (encL encRow 2 rows)]), (3, .box [.d (.str k), .d (.bool t)])] := by
  intro hi
  refine spec_intro (E := EE) (fn := Tryd.f73) eok (by kernel_rfl) (by kernel_rfl) Tryd.call73 (by kernel_rfl) (by kernel_rfl) ?_
  conv => whnf
  repeat' first
    | (refine call_intro (comparep_spec _ _ _ _) ?_ (by first | exact .inl rfl | exact .inr ⟨rfl, rfl⟩); (conv => whnf))
    | (refine bc_true (by assumption) ?_; (conv => whnf))
    | (refine bc_false (by assumption) ?_; (conv => whnf))
    | (refine bc_intro (fun _ => ?_) (fun _ => ?_) <;> (conv => whnf))
    | (refine need_intro ?_ ?_; (conv => whnf))
    | (refine wk_refl ?_; (conv => whnf))
    | (refine draw_intro (by kernel_rfl) ?_; (conv => whnf))
    | (refine ord_intro (by kernel_rfl) ?_; (conv => whnf))
  all_goals first
    | omega
    | exact ⟨LeS.refl _, LeL.refl _, LeL.refl _, trivial⟩
    | trace_state
theorem search_spec (rows : List Row) (k : List UInt8) (t : Bool) : (rows.length ≤ 1099511627776 ∧ Sorted rows) → Sx.Spec Tryd.prog GG 72 [.d (.int .i64 rows.length), .clo 73 [.ptr 2 0, .ptr 3 0]] [(2, .box [.d (encL encRow 2 rows)]), (3, .box [.d (.str k), .d (.bool t)])] (.d (.int .i64 (placeF rows k t))) [(2, .box [.d (encL encRow 2 rows)]), (3, .box [.d (.str k), .d (.bool t)])] := by
  rintro ⟨hlen, hs⟩
  refine spec_intro (E := EE) (fn := Tryd.f72) eok (by kernel_rfl) (by kernel_rfl) Tryd.call72 (by kernel_rfl) (by kernel_rfl) ?_
  conv => whnf
  repeat' first
    | (refine bc_true (by assumption) ?_; (conv => whnf))
    | (refine bc_false (by assumption) ?_; (conv => whnf))
    | (refine bc_intro (fun _ => ?_) (fun _ => ?_) <;> (conv => whnf))
    | (refine need_intro ?_ ?_; (conv => whnf))
    | (refine wk_refl ?_; (conv => whnf))
    | (refine draw_intro (by kernel_rfl) ?_; (conv => whnf))
    | (refine ord_intro (by kernel_rfl) ?_; (conv => whnf))
  refine loop_auto [1] [2, 3] (fun x : Nat × Nat => [(5, .d (.int .i64 x.1)), (6, .d (.int .i64 x.2))]) (fun x => []) (fun x => (x.1 ≤ x.2 ∧ x.2 ≤ rows.length) ∧ x.1 ≤ placeF rows k t ∧ placeF rows k t ≤ x.2) (fun x => x.2 - x.1) (0, rows.length) ?_ (fun x hx => ?_) ⟨⟨Nat.zero_le _, Nat.le_refl _⟩, Nat.zero_le _, place_le⟩
  · conv => whnf
    repeat' first
      | (refine bc_true (by assumption) ?_; (conv => whnf))
      | (refine bc_false (by assumption) ?_; (conv => whnf))
      | (refine bc_intro (fun _ => ?_) (fun _ => ?_) <;> (conv => whnf))
      | (refine need_intro ?_ ?_; (conv => whnf))
      | (refine wk_refl ?_; (conv => whnf))
      | (refine draw_intro (by kernel_rfl) ?_; (conv => whnf))
      | (refine ord_intro (by kernel_rfl) ?_; (conv => whnf))
    all_goals first | exact ⟨rfl, rfl⟩ | exact ⟨rfl, rfl, rfl⟩ | exact DLe.refl _ | exact RowLe.refl _ _ _ | exact trivial
  · obtain ⟨i, j⟩ := x
    obtain ⟨⟨hij, hj⟩, h1, h2⟩ := hx
    simp only at hij hj h1 h2
    have hm : IntKind.i64.wrap ((IntKind.u64.wrap (IntKind.i64.wrap ((i : Int) + (j : Int)))).fdiv (2 ^ min (Int.toNat 1) IntKind.u64.bits)) = (((i + j) / 2 : Nat) : Int) := mid_eq (by omega) (by omega)
    have hm1 : i < j → IntKind.i64.wrap ((((i + j) / 2 : Nat) : Int) + 1) = (((i + j) / 2 + 1 : Nat) : Int) := fun h => wrap_succ (n := 1099511627777) (by omega) (by omega)
    have hp : i < j → _ := fun h => place_iff (k := k) (t := t) hs (i := (i + j) / 2) (by omega)
    conv => whnf
    repeat' first
      | (refine call_if (placeAt_spec _ _ _ _) (by first | exact .inl rfl | exact .inr ⟨rfl, rfl⟩) (need_intro ?_ ?_); (conv => whnf))
      | (refine bc_true (by assumption) ?_; (conv => whnf))
      | (refine bc_false (by assumption) ?_; (conv => whnf))
      | (refine bc_intro (fun _ => ?_) (fun _ => ?_) <;> (conv => whnf))
      | (refine need_intro ?_ ?_; (conv => whnf))
      | (refine wk_refl ?_; (conv => whnf))
      | (refine draw_intro (by kernel_rfl) ?_; (conv => whnf))
      | (refine ord_intro (by kernel_rfl) ?_; (conv => whnf))
    all_goals try simp only [hm, decide_eq_true_eq, decide_eq_false_iff_not, Bool.not_eq_true', Bool.not_eq_false', Int.toNat_natCast] at *
    all_goals first
      | omega
      | exact ⟨by omega, by omega⟩
      | (refine NextVC.mk ((i + j) / 2 + 1, j) ?_ ?_ ?_
         (conv => whnf)
         repeat' (refine need_intro ?_ ?_; (conv => whnf))
         all_goals try simp only [hm, decide_eq_true_eq, decide_eq_false_iff_not] at *
         all_goals first
           | exact trivial
           | omega
           | exact DLe.refl _
           | exact DLe.of_eq (by rw [hm])
           | exact DLe.of_eq (by rw [hm, hm1 (by omega)])
           | exact DLe.of_eq (by rw [hm1 (by omega)])
           | (have hp := hp (by omega); exact ⟨⟨by omega, by omega⟩, by omega, by omega⟩)
         done)
      | (refine NextVC.mk (i, (i + j) / 2) ?_ ?_ ?_
         (conv => whnf)
         repeat' (refine need_intro ?_ ?_; (conv => whnf))
         all_goals try simp only [hm, decide_eq_true_eq, decide_eq_false_iff_not] at *
         all_goals first
           | exact trivial
           | omega
           | exact DLe.refl _
           | exact DLe.of_eq (by rw [hm])
           | exact DLe.of_eq (by rw [hm, hm1 (by omega)])
           | exact DLe.of_eq (by rw [hm1 (by omega)])
           | (have hp := hp (by omega); exact ⟨⟨by omega, by omega⟩, by omega, by omega⟩)
         done)
      | (refine ⟨LeS.of_eq ?_, LeL.refl _, LeL.refl _, trivial⟩
         rw [show placeF rows k t = i by omega])
      | trace_state
theorem place_spec (rows : List Row) (k : List UInt8) (t : Bool) : (rows.length ≤ 1099511627776 ∧ Sorted rows) → Sx.Spec Tryd.prog GG 63 [.d (encL encRow 2 rows), .agg [.d (.str k), .d (.bool t)]] [] (.d (.int .i64 (placeF rows k t))) [] := by
  intro h
  refine spec_intro (E := EE) (fn := Tryd.f63) eok (by kernel_rfl) (by kernel_rfl) Tryd.call63 (by kernel_rfl) (by kernel_rfl) ?_
  conv => whnf
  repeat' first
    | (refine call_intro (search_spec _ _ _ h) ?_ (by first | exact .inl rfl | exact .inr ⟨rfl, rfl⟩); (conv => whnf))
    | (refine bc_true (by assumption) ?_; (conv => whnf))
    | (refine bc_false (by assumption) ?_; (conv => whnf))
    | (refine bc_intro (fun _ => ?_) (fun _ => ?_) <;> (conv => whnf))
    | (refine need_intro ?_ ?_; (conv => whnf))
    | (refine wk_refl ?_; (conv => whnf))
    | (refine draw_intro (by kernel_rfl) ?_; (conv => whnf))
    | (refine ord_intro (by kernel_rfl) ?_; (conv => whnf))
  exact ⟨LeS.refl _, trivial⟩
theorem len_of {rows : List Row} (h : validT rows = true) : rows.length ≤ 1099511627776 ∧ Sorted rows := ⟨by have := validT_len h; omega, (validT_iff.1 h).sorted⟩
theorem abovep_spec (rows : List Row) (k : List UInt8) (t : Bool) : Sx.Spec Tryd.prog GG 30 [.d (encL encRow 2 rows), .agg [.d (.str k), .d (.bool t)]] [] (.tup [.agg [.d (.str (aboveF rows k t).1.1), .d (.str (aboveF rows k t).1.2)], .d (.bool (aboveF rows k t).2)]) [] := by
  have hpl : placeF rows k t ≤ rows.length := place_le
  refine spec_intro (E := EE) (fn := Tryd.f30) eok (by kernel_rfl) (by kernel_rfl) Tryd.call30 (by kernel_rfl) (by kernel_rfl) ?_
  conv => whnf
  repeat' first
    | (refine call_intro (validTp_spec _) ?_ (by first | exact .inl rfl | exact .inr ⟨rfl, rfl⟩); (conv => whnf))
    | (refine call_intro (validBoundp_spec _ _) ?_ (by first | exact .inl rfl | exact .inr ⟨rfl, rfl⟩); (conv => whnf))
    | (refine call_if (place_spec _ _ _) (by first | exact .inl rfl | exact .inr ⟨rfl, rfl⟩) (need_intro ?_ ?_); (conv => whnf))
    | (refine bc_true (by assumption) ?_; (conv => whnf))
    | (refine bc_false (by assumption) ?_; (conv => whnf))
    | (refine bc_intro (fun _ => ?_) (fun _ => ?_) <;> (conv => whnf))
    | (refine need_intro ?_ ?_; (conv => whnf))
    | (refine wk_refl ?_; (conv => whnf))
    | (refine draw_intro (by kernel_rfl) ?_; (conv => whnf))
    | (refine ord_intro (by kernel_rfl) ?_; (conv => whnf))
  all_goals try simp only [Bool.not_eq_true', Bool.not_eq_false', beq_iff_eq, beq_eq_false_iff_ne, ne_eq, Int.toNat_natCast] at *
  all_goals first
    | omega
    | exact ⟨by omega, by omega⟩
    | exact len_of (by assumption)
    | (rw [above_bad (.inl (by assumption))]; exact ⟨LeS.refl _, trivial⟩)
    | (rw [above_bad (.inr (.inl (by assumption)))]; exact ⟨LeS.refl _, trivial⟩)
    | (rw [above_bad (.inr (.inr (by omega)))]; exact ⟨LeS.refl _, trivial⟩)
    | (rw [above_at (by assumption) (by assumption) (by omega)]; exact ⟨LeS.refl _, trivial⟩)
    | trace_state
theorem belowp_spec (rows : List Row) (k : List UInt8) (t : Bool) : Sx.Spec Tryd.prog GG 32 [.d (encL encRow 2 rows), .agg [.d (.str k), .d (.bool t)]] [] (.tup [.agg [.d (.str (belowB rows k t).1.1), .d (.str (belowB rows k t).1.2)], .d (.bool (belowB rows k t).2)]) [] := by
  have hpl : placeF rows k t ≤ rows.length := place_le
  have hw : validT rows = true → placeF rows k t ≠ 0 → IntKind.i64.wrap ((placeF rows k t : Int) - 1) = ((placeF rows k t - 1 : Nat) : Int) := fun hv h => by have := validT_len hv; rw [wrap_of (by omega) (by omega)]; omega
  refine spec_intro (E := EE) (fn := Tryd.f32) eok (by kernel_rfl) (by kernel_rfl) Tryd.call32 (by kernel_rfl) (by kernel_rfl) ?_
  conv => whnf
  repeat' first
    | (refine call_intro (validTp_spec _) ?_ (by first | exact .inl rfl | exact .inr ⟨rfl, rfl⟩); (conv => whnf))
    | (refine call_intro (validBoundp_spec _ _) ?_ (by first | exact .inl rfl | exact .inr ⟨rfl, rfl⟩); (conv => whnf))
    | (refine call_if (place_spec _ _ _) (by first | exact .inl rfl | exact .inr ⟨rfl, rfl⟩) (need_intro ?_ ?_); (conv => whnf))
    | (refine bc_true (by assumption) ?_; (conv => whnf))
    | (refine bc_false (by assumption) ?_; (conv => whnf))
    | (refine bc_intro (fun _ => ?_) (fun _ => ?_) <;> (conv => whnf))
    | (refine need_intro ?_ ?_; (conv => whnf))
    | (refine wk_refl ?_; (conv => whnf))
    | (refine draw_intro (by kernel_rfl) ?_; (conv => whnf))
    | (refine ord_intro (by kernel_rfl) ?_; (conv => whnf))
  all_goals try simp only [Bool.not_eq_true', Bool.not_eq_false', beq_iff_eq, beq_eq_false_iff_ne, ne_eq, Int.toNat_natCast] at *
  all_goals first
    | omega
    | exact len_of (by assumption)
    | (rw [hw (by assumption) (by omega)]; exact ⟨by omega, by omega⟩)
    | (rw [below_bad (.inl (by assumption))]; exact ⟨LeS.refl _, trivial⟩)
    | (rw [below_bad (.inr (by assumption))]; exact ⟨LeS.refl _, trivial⟩)
    | (rw [below_ok (by assumption) (by assumption), show placeF rows k t = 0 by omega, last_zero]; exact ⟨LeS.refl _, trivial⟩)
    | (rw [hw (by assumption) (by omega), below_ok (by assumption) (by assumption), last_pos (by omega)]; exact ⟨LeS.refl _, trivial⟩)
    | trace_state
theorem abover_spec (rows : List Row) (k : List UInt8) (t : Bool) : Sx.Spec Tryd.prog GG 31 [.d (encL encRow 2 rows), .agg [.d (.str k), .d (.bool t)]] [] (.tup [.agg [.d (.str (aboveF rows k t).1.1), .d (.str (aboveF rows k t).1.2)], .d (.bool (aboveF rows k t).2)]) [] := by
  have hpl : placeF rows k t ≤ rows.length := place_le
  refine spec_intro (E := EE) (fn := Tryd.f31) eok (by kernel_rfl) (by kernel_rfl) Tryd.call31 (by kernel_rfl) (by kernel_rfl) ?_
  conv => whnf
  repeat' first
    | (refine call_intro (validTr_spec _) ?_ (by first | exact .inl rfl | exact .inr ⟨rfl, rfl⟩); (conv => whnf))
    | (refine call_intro (validBoundr_spec _ _) ?_ (by first | exact .inl rfl | exact .inr ⟨rfl, rfl⟩); (conv => whnf))
    | (refine bc_true (by assumption) ?_; (conv => whnf))
    | (refine bc_false (by assumption) ?_; (conv => whnf))
    | (refine bc_intro (fun _ => ?_) (fun _ => ?_) <;> (conv => whnf))
    | (refine need_intro ?_ ?_; (conv => whnf))
    | (refine wk_refl ?_; (conv => whnf))
    | (refine draw_intro (by kernel_rfl) ?_; (conv => whnf))
    | (refine ord_intro (by kernel_rfl) ?_; (conv => whnf))
  all_goals try simp only [Bool.not_eq_true', Bool.not_eq_false', beq_iff_eq, beq_eq_false_iff_ne, ne_eq, Int.toNat_natCast] at *
  all_goals try first
    | (rw [above_bad (.inl (by assumption))]; exact ⟨LeS.refl _, trivial⟩)
    | (rw [above_bad (.inr (by assumption))]; exact ⟨LeS.refl _, trivial⟩)
    | (rw [above_bad (.inr (.inl (by assumption)))]; exact ⟨LeS.refl _, trivial⟩)
  rename_i hv hb
  have hlen := validT_len hv
  have hp := fun i hi => place_iff (k := k) (t := t) (validT_iff.1 hv).sorted (i := i) hi
  simp only [cmp_low] at hp
  refine loop_auto [3, 4, 17, 18] [3, 4] (fun i : Nat => [(19, .d (.int .i64 i))]) (fun i => []) (fun i => i ≤ rows.length ∧ i ≤ placeF rows k t) (fun i => rows.length - i) 0 ?_ (fun i hi => ?_) ⟨Nat.zero_le _, Nat.zero_le _⟩
  · conv => whnf
    repeat' first
      | (refine bc_true (by assumption) ?_; (conv => whnf))
      | (refine bc_false (by assumption) ?_; (conv => whnf))
      | (refine bc_intro (fun _ => ?_) (fun _ => ?_) <;> (conv => whnf))
      | (refine need_intro ?_ ?_; (conv => whnf))
      | (refine wk_refl ?_; (conv => whnf))
      | (refine draw_intro (by kernel_rfl) ?_; (conv => whnf))
      | (refine ord_intro (by kernel_rfl) ?_; (conv => whnf))
    all_goals first | exact ⟨rfl, rfl⟩ | exact ⟨rfl, rfl, rfl⟩ | exact DLe.refl _ | exact RowLe.refl _ _ _ | exact trivial
  · obtain ⟨hi, hpi⟩ := hi
    have hs : IntKind.i64.wrap ((i : Int) + 1) = ((i + 1 : Nat) : Int) := wrap_succ (n := 1099511627777) (by omega) (by omega)
    conv => whnf
    repeat' first
      | (refine NextVC.mk (i + 1) ?_ ?_ ?_; (conv => whnf))
      | (refine bc_true (by assumption) ?_; (conv => whnf))
      | (refine bc_false (by assumption) ?_; (conv => whnf))
      | (refine bc_intro (fun _ => ?_) (fun _ => ?_) <;> (conv => whnf))
      | (refine need_intro ?_ ?_; (conv => whnf))
      | (refine wk_refl ?_; (conv => whnf))
      | (refine draw_intro (by kernel_rfl) ?_; (conv => whnf))
      | (refine ord_intro (by kernel_rfl) ?_; (conv => whnf))
    all_goals try simp only [decide_eq_true_eq, decide_eq_false_iff_not, Int.toNat_natCast, Bool.not_eq_true', Bool.not_eq_false'] at *
    all_goals first
      | exact trivial
      | omega
      | exact DLe.refl _
      | exact DLe.of_eq (by rw [hs])
      | exact ⟨by omega, by omega⟩
      | exact ⟨by omega, (hp i (by omega)).2 (.inl (by assumption))⟩
      | exact ⟨by omega, (hp i (by omega)).2 (.inr (by assumption))⟩
      | (have : ¬ i < placeF rows k t := by
           intro h
           have := (hp i (by omega)).1 h
           simp_all
         have e : placeF rows k t = i := by omega
         rw [above_at (by assumption) (by assumption) (by omega), e]; exact ⟨LeS.refl _, trivial⟩)
      | (rw [above_bad (.inr (.inr (by omega)))]; exact ⟨LeS.refl _, trivial⟩)
      | trace_state
theorem belowr_spec (rows : List Row) (k : List UInt8) (t : Bool) : Sx.Spec Tryd.prog GG 33 [.d (encL encRow 2 rows), .agg [.d (.str k), .d (.bool t)]] [] (.tup [.agg [.d (.str (belowB rows k t).1.1), .d (.str (belowB rows k t).1.2)], .d (.bool (belowB rows k t).2)]) [] := by
  have hpl : placeF rows k t ≤ rows.length := place_le
  refine spec_intro (E := EE) (fn := Tryd.f33) eok (by kernel_rfl) (by kernel_rfl) Tryd.call33 (by kernel_rfl) (by kernel_rfl) ?_
  conv => whnf
  repeat' first
    | (refine call_intro (validTr_spec _) ?_ (by first | exact .inl rfl | exact .inr ⟨rfl, rfl⟩); (conv => whnf))
    | (refine call_intro (validBoundr_spec _ _) ?_ (by first | exact .inl rfl | exact .inr ⟨rfl, rfl⟩); (conv => whnf))
    | (refine bc_true (by assumption) ?_; (conv => whnf))
    | (refine bc_false (by assumption) ?_; (conv => whnf))
    | (refine bc_intro (fun _ => ?_) (fun _ => ?_) <;> (conv => whnf))
    | (refine need_intro ?_ ?_; (conv => whnf))
    | (refine wk_refl ?_; (conv => whnf))
    | (refine draw_intro (by kernel_rfl) ?_; (conv => whnf))
    | (refine ord_intro (by kernel_rfl) ?_; (conv => whnf))
  all_goals try simp only [Bool.not_eq_true', Bool.not_eq_false', beq_iff_eq, beq_eq_false_iff_ne, ne_eq, Int.toNat_natCast] at *
  all_goals try first
    | (rw [below_bad (.inl (by assumption))]; exact ⟨LeS.refl _, trivial⟩)
    | (rw [below_bad (.inr (by assumption))]; exact ⟨LeS.refl _, trivial⟩)
  rename_i hv hb
  have hlen := validT_len hv
  have hp := fun i hi => place_iff (k := k) (t := t) (validT_iff.1 hv).sorted (i := i) hi
  simp only [cmp_low] at hp
  refine loop_auto [3, 4, 6, 19, 20] [3, 4] (fun i : Nat => [(7, .d (.bool (lastF rows (min i (placeF rows k t))).2)), (21, .d (.int .i64 i))]) (fun i => [(6, .box [.d (.str (lastF rows (min i (placeF rows k t))).1.1), .d (.str (lastF rows (min i (placeF rows k t))).1.2)])]) (fun i => i ≤ rows.length) (fun i => rows.length - i) 0 ?_ (fun i hi => ?_) (Nat.zero_le _)
  · conv => whnf
    repeat' first
      | (refine bc_true (by assumption) ?_; (conv => whnf))
      | (refine bc_false (by assumption) ?_; (conv => whnf))
      | (refine bc_intro (fun _ => ?_) (fun _ => ?_) <;> (conv => whnf))
      | (refine need_intro ?_ ?_; (conv => whnf))
      | (refine wk_refl ?_; (conv => whnf))
      | (refine draw_intro (by kernel_rfl) ?_; (conv => whnf))
      | (refine ord_intro (by kernel_rfl) ?_; (conv => whnf))
    all_goals first | exact ⟨rfl, rfl⟩ | exact trivial | exact DLe.refl _ | exact DLe.of_eq (by rw [Nat.zero_min, last_zero])
  · have hs : IntKind.i64.wrap ((i : Int) + 1) = ((i + 1 : Nat) : Int) := wrap_succ (n := 1099511627777) (by omega) (by omega)
    conv => whnf
    repeat' first
      | (refine NextVC.mk (i + 1) ?_ ?_ ?_; (conv => whnf))
      | (refine bc_true (by assumption) ?_; (conv => whnf))
      | (refine bc_false (by assumption) ?_; (conv => whnf))
      | (refine bc_intro (fun _ => ?_) (fun _ => ?_) <;> (conv => whnf))
      | (refine need_intro ?_ ?_; (conv => whnf))
      | (refine wk_refl ?_; (conv => whnf))
      | (refine draw_intro (by kernel_rfl) ?_; (conv => whnf))
      | (refine ord_intro (by kernel_rfl) ?_; (conv => whnf))
    all_goals try simp only [decide_eq_true_eq, decide_eq_false_iff_not, Int.toNat_natCast, Bool.not_eq_true', Bool.not_eq_false'] at *
    all_goals first
      | exact trivial
      | omega
      | exact DLe.refl _
      | exact DLe.of_eq (by rw [hs])
      | exact ⟨by omega, by omega⟩
      | (have := (hp i (by omega)).2 (.inl (by assumption)); exact DLe.of_eq (by rw [show min (i + 1) (placeF rows k t) = i + 1 by omega, last_pos (by omega)] <;> rfl))
      | (have := (hp i (by omega)).2 (.inr (by assumption)); exact DLe.of_eq (by rw [show min (i + 1) (placeF rows k t) = i + 1 by omega, last_pos (by omega)] <;> rfl))
      | (have : ¬ i < placeF rows k t := by
           intro h
           have := (hp i (by omega)).1 h
           simp_all
         exact DLe.of_eq (by rw [show min (i + 1) (placeF rows k t) = min i (placeF rows k t) by omega]))
      | (rw [show min i (placeF rows k t) = placeF rows k t by omega, below_ok hv hb]; exact ⟨LeS.refl _, trivial⟩)
      | trace_state

