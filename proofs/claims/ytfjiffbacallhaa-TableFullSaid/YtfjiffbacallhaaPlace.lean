/- Contracts of functions that the law reaches: YtfjiffbacallhaaPlace. Written for this claim. -/
import Derived.Test.YtfjiffbacallhaaTab
import Derived.Test.YtfjiffbacallhaaSxTab
namespace Go.Proofs.Ytfjiffbacallhaa
open Go Go.Sx Go.ChangeShapes Go.WideShapes Go.ChangeAt Go.RowKit
set_option linter.unusedVariables false
set_option linter.unusedSimpArgs false
set_option maxRecDepth 100000
theorem placeAt_spec (rows : List Row) (k : List UInt8) (t : Bool) (i : Int) : (0 ≤ i ∧ i < rows.length) → Sx.Spec Try.prog GG 22 [.d (.int .i64 i), .ptr 2 0, .ptr 3 0] [(2, .box [.d (encL encRow 2 rows)]), (3, .box [.d (.str k), .d (.bool t)])] (.d (.bool (decide (cmpB (rows.getD i.toNat default).1 false k t ≥ 0)))) [(2, .box [.d (encL encRow 2 rows)]), (3, .box [.d (.str k), .d (.bool t)])] := by
  intro hi
  refine spec_intro (E := EE) (fn := Try.f22) eok (by kernel_rfl) (by kernel_rfl) Try.call22 (by kernel_rfl) (by kernel_rfl) ?_
  conv => whnf
  repeat' first
    | (refine call_intro (comparep_spec _ _ _ _) ?_ (by first | exact .inl rfl | exact .inr ⟨rfl, rfl⟩); (conv => whnf))
    | (refine bc_true (by assumption) ?_; (conv => whnf))
    | (refine bc_false (by assumption) ?_; (conv => whnf))
    | (refine bc_intro (fun _ => ?_) (fun _ => ?_) <;> (conv => whnf))
    | (refine need_intro ?_ ?_; (conv => whnf))
    | (refine wk_refl ?_; (conv => whnf))
    | (refine draw_intro (by kernel_rfl) ?_; (conv => whnf))
    | (refine ord_intro (by kernel_rfl) ?_; (conv => whnf))
  all_goals first
    | omega
    | exact ⟨LeS.refl _, LeL.refl _, LeL.refl _, trivial⟩
    | trace_state
theorem search_spec (rows : List Row) (k : List UInt8) (t : Bool) : (rows.length ≤ 1099511627776 ∧ Sorted rows) → Sx.Spec Try.prog GG 21 [.d (.int .i64 rows.length), .clo 22 [.ptr 2 0, .ptr 3 0]] [(2, .box [.d (encL encRow 2 rows)]), (3, .box [.d (.str k), .d (.bool t)])] (.d (.int .i64 (placeF rows k t))) [(2, .box [.d (encL encRow 2 rows)]), (3, .box [.d (.str k), .d (.bool t)])] := by
  rintro ⟨hlen, hs⟩
  refine spec_intro (E := EE) (fn := Try.f21) eok (by kernel_rfl) (by kernel_rfl) Try.call21 (by kernel_rfl) (by kernel_rfl) ?_
  conv => whnf
  repeat' first
    | (refine bc_true (by assumption) ?_; (conv => whnf))
    | (refine bc_false (by assumption) ?_; (conv => whnf))
    | (refine bc_intro (fun _ => ?_) (fun _ => ?_) <;> (conv => whnf))
    | (refine need_intro ?_ ?_; (conv => whnf))
    | (refine wk_refl ?_; (conv => whnf))
    | (refine draw_intro (by kernel_rfl) ?_; (conv => whnf))
    | (refine ord_intro (by kernel_rfl) ?_; (conv => whnf))
  refine loop_auto [1] [2, 3] (fun x : Nat × Nat => [(5, .d (.int .i64 x.1)), (6, .d (.int .i64 x.2))]) (fun x => []) (fun x => (x.1 ≤ x.2 ∧ x.2 ≤ rows.length) ∧ x.1 ≤ placeF rows k t ∧ placeF rows k t ≤ x.2) (fun x => x.2 - x.1) (0, rows.length) ?_ (fun x hx => ?_) ⟨⟨Nat.zero_le _, Nat.le_refl _⟩, Nat.zero_le _, place_le⟩
  · conv => whnf
    repeat' first
      | (refine bc_true (by assumption) ?_; (conv => whnf))
      | (refine bc_false (by assumption) ?_; (conv => whnf))
      | (refine bc_intro (fun _ => ?_) (fun _ => ?_) <;> (conv => whnf))
      | (refine need_intro ?_ ?_; (conv => whnf))
      | (refine wk_refl ?_; (conv => whnf))
      | (refine draw_intro (by kernel_rfl) ?_; (conv => whnf))
      | (refine ord_intro (by kernel_rfl) ?_; (conv => whnf))
    all_goals first | exact ⟨rfl, rfl⟩ | exact ⟨rfl, rfl, rfl⟩ | exact DLe.refl _ | exact RowLe.refl _ _ _ | exact trivial
  · obtain ⟨i, j⟩ := x
    obtain ⟨⟨hij, hj⟩, h1, h2⟩ := hx
    simp only at hij hj h1 h2
    have hm : IntKind.i64.wrap ((IntKind.u64.wrap (IntKind.i64.wrap ((i : Int) + (j : Int)))).fdiv (2 ^ min (Int.toNat 1) IntKind.u64.bits)) = (((i + j) / 2 : Nat) : Int) := mid_eq (by omega) (by omega)
    have hm1 : i < j → IntKind.i64.wrap ((((i + j) / 2 : Nat) : Int) + 1) = (((i + j) / 2 + 1 : Nat) : Int) := fun h => wrap_succ (n := 1099511627777) (by omega) (by omega)
    have hp : i < j → _ := fun h => place_iff (k := k) (t := t) hs (i := (i + j) / 2) (by omega)
    conv => whnf
    repeat' first
      | (refine call_if (placeAt_spec _ _ _ _) (by first | exact .inl rfl | exact .inr ⟨rfl, rfl⟩) (need_intro ?_ ?_); (conv => whnf))
      | (refine bc_true (by assumption) ?_; (conv => whnf))
      | (refine bc_false (by assumption) ?_; (conv => whnf))
      | (refine bc_intro (fun _ => ?_) (fun _ => ?_) <;> (conv => whnf))
      | (refine need_intro ?_ ?_; (conv => whnf))
      | (refine wk_refl ?_; (conv => whnf))
      | (refine draw_intro (by kernel_rfl) ?_; (conv => whnf))
      | (refine ord_intro (by kernel_rfl) ?_; (conv => whnf))
    all_goals try simp only [hm, decide_eq_true_eq, decide_eq_false_iff_not, Bool.not_eq_true', Bool.not_eq_false', Int.toNat_natCast] at *
    all_goals first
      | omega
      | exact ⟨by omega, by omega⟩
      | (refine NextVC.mk ((i + j) / 2 + 1, j) ?_ ?_ ?_
         (conv => whnf)
         repeat' (refine need_intro ?_ ?_; (conv => whnf))
         all_goals try simp only [hm, decide_eq_true_eq, decide_eq_false_iff_not] at *
         all_goals first
           | exact trivial
           | omega
           | exact DLe.refl _
           | exact DLe.of_eq (by rw [hm])
           | exact DLe.of_eq (by rw [hm, hm1 (by omega)])
           | exact DLe.of_eq (by rw [hm1 (by omega)])
           | (have hp := hp (by omega); exact ⟨⟨by omega, by omega⟩, by omega, by omega⟩)
         done)
      | (refine NextVC.mk (i, (i + j) / 2) ?_ ?_ ?_
         (conv => whnf)
         repeat' (refine need_intro ?_ ?_; (conv => whnf))
         all_goals try simp only [hm, decide_eq_true_eq, decide_eq_false_iff_not] at *
         all_goals first
           | exact trivial
           | omega
           | exact DLe.refl _
           | exact DLe.of_eq (by rw [hm])
           | exact DLe.of_eq (by rw [hm, hm1 (by omega)])
           | exact DLe.of_eq (by rw [hm1 (by omega)])
           | (have hp := hp (by omega); exact ⟨⟨by omega, by omega⟩, by omega, by omega⟩)
         done)
      | (refine ⟨LeS.of_eq ?_, LeL.refl _, LeL.refl _, trivial⟩
         rw [show placeF rows k t = i by omega])
      | trace_state
theorem place_spec (rows : List Row) (k : List UInt8) (t : Bool) : (rows.length ≤ 1099511627776 ∧ Sorted rows) → Sx.Spec Try.prog GG 14 [.d (encL encRow 2 rows), .agg [.d (.str k), .d (.bool t)]] [] (.d (.int .i64 (placeF rows k t))) [] := by
  intro h
  refine spec_intro (E := EE) (fn := Try.f14) eok (by kernel_rfl) (by kernel_rfl) Try.call14 (by kernel_rfl) (by kernel_rfl) ?_
  conv => whnf
  repeat' first
    | (refine call_intro (search_spec _ _ _ h) ?_ (by first | exact .inl rfl | exact .inr ⟨rfl, rfl⟩); (conv => whnf))
    | (refine bc_true (by assumption) ?_; (conv => whnf))
    | (refine bc_false (by assumption) ?_; (conv => whnf))
    | (refine bc_intro (fun _ => ?_) (fun _ => ?_) <;> (conv => whnf))
    | (refine need_intro ?_ ?_; (conv => whnf))
    | (refine wk_refl ?_; (conv => whnf))
    | (refine draw_intro (by kernel_rfl) ?_; (conv => whnf))
    | (refine ord_intro (by kernel_rfl) ?_; (conv => whnf))
  exact ⟨LeS.refl _, trivial⟩
theorem len_of {rows : List Row} (h : validT rows = true) : rows.length ≤ 1099511627776 ∧ Sorted rows := ⟨by have := validT_len h; omega, (validT_iff.1 h).sorted⟩
end Go.Proofs.Ytfjiffbacallhaa
