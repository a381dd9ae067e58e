/- Contracts of functions that the law reaches: YtngdpchhogfhfaaGreatDoorTab. Written for this claim. -/
import Derived.Test.YtngdpchhogfhfaaGreatDoorRep2
import Derived.Test.YtngdpchhogfhfaaGreatDoorSxTab
namespace Go.Proofs.YtngdpchhogfhfaaGreatDoor
open Go Go.Sx Go.ChangeShapes Go.WideShapes Go.ChangeAt Go.RowKit
set_option linter.unusedVariables false
set_option linter.unusedSimpArgs false
set_option maxRecDepth 100000
theorem placeAt_spec (rows : List Row) (k : List UInt8) (t : Bool) (i : Int) : (0 ≤ i ∧ i < rows.length) → Sx.Spec Tryz.prog GG 152 [.d (.int .i64 i), .ptr 2 0, .ptr 3 0] [(2, .box [.d (encL encRow 2 rows)]), (3, .box [.d (.str k), .d (.bool t)])] (.d (.bool (decide (cmpB (rows.getD i.toNat default).1 false k t ≥ 0)))) [(2, .box [.d (encL encRow 2 rows)]), (3, .box [.d (.str k), .d (.bool t)])] := by
  intro hi
  refine spec_intro (E := EE) (fn := Tryz.f152) eok (by kernel_rfl) (by kernel_rfl) Tryz.call152 (by kernel_rfl) (by kernel_rfl) ?_
  conv => whnf
  repeat' first
    | (refine call_intro (comparep_spec _ _ _ _) ?_ (by first | exact .inl rfl | exact .inr ⟨rfl, rfl⟩); (conv => whnf))
    | (refine bc_true (by assumption) ?_; (conv => whnf))
    | (refine bc_false (by assumption) ?_; (conv => whnf))
    | (refine bc_intro (fun _ => ?_) (fun _ => ?_) <;> (conv => whnf))
    | (refine need_intro ?_ ?_; (conv => whnf))
    | (refine wk_refl ?_; (conv => whnf))
    | (refine draw_intro (by kernel_rfl) ?_; (conv => whnf))
    | (refine ord_intro (by kernel_rfl) ?_; (conv => whnf))
  all_goals first
    | omega
    | exact ⟨LeS.refl _, LeL.refl _, LeL.refl _, trivial⟩
    | trace_state
theorem search_spec (rows : List Row) (k : List UInt8) (t : Bool) : (rows.length ≤ 1099511627776 ∧ Sorted rows) → Sx.Spec Tryz.prog GG 151 [.d (.int .i64 rows.length), .clo 152 [.ptr 2 0, .ptr 3 0]] [(2, .box [.d (encL encRow 2 rows)]), (3, .box [.d (.str k), .d (.bool t)])] (.d (.int .i64 (placeF rows k t))) [(2, .box [.d (encL encRow 2 rows)]), (3, .box [.d (.str k), .d (.bool t)])] := by
  rintro ⟨hlen, hs⟩
  refine spec_intro (E := EE) (fn := Tryz.f151) eok (by kernel_rfl) (by kernel_rfl) Tryz.call151 (by kernel_rfl) (by kernel_rfl) ?_
  conv => whnf
  repeat' first
    | (refine bc_true (by assumption) ?_; (conv => whnf))
    | (refine bc_false (by assumption) ?_; (conv => whnf))
    | (refine bc_intro (fun _ => ?_) (fun _ => ?_) <;> (conv => whnf))
    | (refine need_intro ?_ ?_; (conv => whnf))
    | (refine wk_refl ?_; (conv => whnf))
    | (refine draw_intro (by kernel_rfl) ?_; (conv => whnf))
    | (refine ord_intro (by kernel_rfl) ?_; (conv => whnf))
  refine loop_auto [1] [2, 3] (fun x : Nat × Nat => [(5, .d (.int .i64 x.1)), (6, .d (.int .i64 x.2))]) (fun x => []) (fun x => (x.1 ≤ x.2 ∧ x.2 ≤ rows.length) ∧ x.1 ≤ placeF rows k t ∧ placeF rows k t ≤ x.2) (fun x => x.2 - x.1) (0, rows.length) ?_ (fun x hx => ?_) ⟨⟨Nat.zero_le _, Nat.le_refl _⟩, Nat.zero_le _, place_le⟩
  · conv => whnf
    repeat' first
      | (refine bc_true (by assumption) ?_; (conv => whnf))
      | (refine bc_false (by assumption) ?_; (conv => whnf))
      | (refine bc_intro (fun _ => ?_) (fun _ => ?_) <;> (conv => whnf))
      | (refine need_intro ?_ ?_; (conv => whnf))
      | (refine wk_refl ?_; (conv => whnf))
      | (refine draw_intro (by kernel_rfl) ?_; (conv => whnf))
      | (refine ord_intro (by kernel_rfl) ?_; (conv => whnf))
    all_goals first | exact ⟨rfl, rfl⟩ | exact ⟨rfl, rfl, rfl⟩ | exact DLe.refl _ | exact RowLe.refl _ _ _ | exact trivial
  · obtain ⟨i, j⟩ := x
    obtain ⟨⟨hij, hj⟩, h1, h2⟩ := hx
    simp only at hij hj h1 h2
    have hm : IntKind.i64.wrap ((IntKind.u64.wrap (IntKind.i64.wrap ((i : Int) + (j : Int)))).fdiv (2 ^ min (Int.toNat 1) IntKind.u64.bits)) = (((i + j) / 2 : Nat) : Int) := mid_eq (by omega) (by omega)
    have hm1 : i < j → IntKind.i64.wrap ((((i + j) / 2 : Nat) : Int) + 1) = (((i + j) / 2 + 1 : Nat) : Int) := fun h => wrap_succ (n := 1099511627777) (by omega) (by omega)
    have hp : i < j → _ := fun h => place_iff (k := k) (t := t) hs (i := (i + j) / 2) (by omega)
    conv => whnf
    repeat' first
      | (refine call_if (placeAt_spec _ _ _ _) (by first | exact .inl rfl | exact .inr ⟨rfl, rfl⟩) (need_intro ?_ ?_); (conv => whnf))
      | (refine bc_true (by assumption) ?_; (conv => whnf))
      | (refine bc_false (by assumption) ?_; (conv => whnf))
      | (refine bc_intro (fun _ => ?_) (fun _ => ?_) <;> (conv => whnf))
      | (refine need_intro ?_ ?_; (conv => whnf))
      | (refine wk_refl ?_; (conv => whnf))
      | (refine draw_intro (by kernel_rfl) ?_; (conv => whnf))
      | (refine ord_intro (by kernel_rfl) ?_; (conv => whnf))
    all_goals try simp only [hm, decide_eq_true_eq, decide_eq_false_iff_not, Bool.not_eq_true', Bool.not_eq_false', Int.toNat_natCast] at *
    all_goals first
      | omega
      | exact ⟨by omega, by omega⟩
      | (refine NextVC.mk ((i + j) / 2 + 1, j) ?_ ?_ ?_
         (conv => whnf)
         repeat' (refine need_intro ?_ ?_; (conv => whnf))
         all_goals try simp only [hm, decide_eq_true_eq, decide_eq_false_iff_not] at *
         all_goals first
           | exact trivial
           | omega
           | exact DLe.refl _
           | exact DLe.of_eq (by rw [hm])
           | exact DLe.of_eq (by rw [hm, hm1 (by omega)])
           | exact DLe.of_eq (by rw [hm1 (by omega)])
           | (have hp := hp (by omega); exact ⟨⟨by omega, by omega⟩, by omega, by omega⟩)
         done)
      | (refine NextVC.mk (i, (i + j) / 2) ?_ ?_ ?_
         (conv => whnf)
         repeat' (refine need_intro ?_ ?_; (conv => whnf))
         all_goals try simp only [hm, decide_eq_true_eq, decide_eq_false_iff_not] at *
         all_goals first
           | exact trivial
           | omega
           | exact DLe.refl _
           | exact DLe.of_eq (by rw [hm])
           | exact DLe.of_eq (by rw [hm, hm1 (by omega)])
           | exact DLe.of_eq (by rw [hm1 (by omega)])
           | (have hp := hp (by omega); exact ⟨⟨by omega, by omega⟩, by omega, by omega⟩)
         done)
      | (refine ⟨LeS.of_eq ?_, LeL.refl _, LeL.refl _, trivial⟩
         rw [show placeF rows k t = i by omega])
      | trace_state
theorem place_spec (rows : List Row) (k : List UInt8) (t : Bool) : (rows.length ≤ 1099511627776 ∧ Sorted rows) → Sx.Spec Tryz.prog GG 150 [.d (encL encRow 2 rows), .agg [.d (.str k), .d (.bool t)]] [] (.d (.int .i64 (placeF rows k t))) [] := by
  intro h
  refine spec_intro (E := EE) (fn := Tryz.f150) eok (by kernel_rfl) (by kernel_rfl) Tryz.call150 (by kernel_rfl) (by kernel_rfl) ?_
  conv => whnf
  repeat' first
    | (refine call_intro (search_spec _ _ _ h) ?_ (by first | exact .inl rfl | exact .inr ⟨rfl, rfl⟩); (conv => whnf))
    | (refine bc_true (by assumption) ?_; (conv => whnf))
    | (refine bc_false (by assumption) ?_; (conv => whnf))
    | (refine bc_intro (fun _ => ?_) (fun _ => ?_) <;> (conv => whnf))
    | (refine need_intro ?_ ?_; (conv => whnf))
    | (refine wk_refl ?_; (conv => whnf))
    | (refine draw_intro (by kernel_rfl) ?_; (conv => whnf))
    | (refine ord_intro (by kernel_rfl) ?_; (conv => whnf))
  exact ⟨LeS.refl _, trivial⟩
theorem do_spec (rows : List Row) (k v : List UInt8) (d : Bool) : rows.length ≤ 1099511627776 → Sx.Spec Tryz.prog GG 103 [.d (encL encRow 2 rows), .agg [.d (.str k), .d (.str v), .d (.bool d)]] [] (.tup [.d (encL encRow 2 (doF rows (k, v, d)).1), .d (.int .i64 (doF rows (k, v, d)).2)]) [] := by
  intro hlen
  refine spec_intro (E := EE) (fn := Tryz.f103) eok (by kernel_rfl) (by kernel_rfl) Tryz.call103 (by kernel_rfl) (by kernel_rfl) ?_
  conv => whnf
  repeat' first
    | (refine call_intro (validWr_spec _ _ _) ?_ (by first | exact .inl rfl | exact .inr ⟨rfl, rfl⟩); (conv => whnf))
    | (refine call_if (withoutr_spec _ _) (by first | exact .inl rfl | exact .inr ⟨rfl, rfl⟩) (need_intro ?_ ?_); (conv => whnf))
    | (refine call_intro (refPut_spec _ _ _) ?_ (by first | exact .inl rfl | exact .inr ⟨rfl, rfl⟩); (conv => whnf))
    | (refine bc_true (by assumption) ?_; (conv => whnf))
    | (refine bc_false (by assumption) ?_; (conv => whnf))
    | (refine bc_intro (fun _ => ?_) (fun _ => ?_) <;> (conv => whnf))
    | (refine need_intro ?_ ?_; (conv => whnf))
    | (refine wk_refl ?_; (conv => whnf))
    | (refine draw_intro (by kernel_rfl) ?_; (conv => whnf))
    | (refine ord_intro (by kernel_rfl) ?_; (conv => whnf))
  all_goals try simp only [Bool.not_eq_true', Bool.not_eq_false'] at *
  all_goals first
    | omega
    | (have e : doF rows (k, v, d) = ([], 1) := by simp_all [doF]
       rw [e]; exact ⟨LeS.tup (LeL.cons (les_nil rfl) (LeL.cons (LeS.refl _) LeL.nil)), trivial⟩)
    | (have e : doF rows (k, v, d) = (withoutF rows k, 0) := by simp_all [doF]
       rw [e]; exact ⟨LeS.refl _, trivial⟩)
    | (have e : doF rows (k, v, d) = putF rows k v := by simp_all [doF]
       rw [e]; exact ⟨LeS.refl _, trivial⟩)
    | trace_state
theorem place_own {g : Nat → Nat → D} {n : Nat} (rows : List Row) (k : List UInt8) (t : Bool) : ((n = rows.length ∧ RowLe n 2 g (cellOf encRow rows)) ∧ rows.length ≤ 1099511627776 ∧ Sorted rows) → Sx.Spec Tryz.prog GG 150 [.d (.list n 2 g), .agg [.d (.str k), .d (.bool t)]] [] (.d (.int .i64 (placeF rows k t))) [] := by
  rintro ⟨⟨rfl, hg⟩, h⟩
  exact (place_spec rows k t h).arg (LeL.cons (LeS.d (DLe.rows rfl hg)) (LeL.cons (LeS.refl _) LeL.nil))
theorem applyp_spec (rows : List Row) (ws : List Wr) : ws.length ≤ 1099511627776 → Sx.Spec Tryz.prog GG 145 [.d (encL encRow 2 rows), .d (encL encWr 3 ws)] [] (.tup [.d (encL encRow 2 (applyF rows ws).1), .d (.int .i64 (applyF rows ws).2)]) [] := by
  intro hlen
  refine spec_intro (E := EE) (fn := Tryz.f145) eok (by kernel_rfl) (by kernel_rfl) Tryz.call145 (by kernel_rfl) (by kernel_rfl) ?_
  conv => whnf
  repeat' first
    | (refine call_intro (validTp_spec _) ?_ (by first | exact .inl rfl | exact .inr ⟨rfl, rfl⟩); (conv => whnf))
    | (refine bc_true (by assumption) ?_; (conv => whnf))
    | (refine bc_false (by assumption) ?_; (conv => whnf))
    | (refine bc_intro (fun _ => ?_) (fun _ => ?_) <;> (conv => whnf))
    | (refine need_intro ?_ ?_; (conv => whnf))
    | (refine wk_refl ?_; (conv => whnf))
    | (refine draw_intro (by kernel_rfl) ?_; (conv => whnf))
    | (refine ord_intro (by kernel_rfl) ?_; (conv => whnf))
  all_goals try simp only [Bool.not_eq_true', Bool.not_eq_false'] at *
  · have e : applyF rows ws = ([], 1) := by simp_all [applyF]
    rw [e]; exact ⟨LeS.tup (LeL.cons (les_nil rfl) (LeL.cons (LeS.refl _) LeL.nil)), trivial⟩
  · rename_i hv
    have ea : applyF rows ws = goF rows ws := by simp [applyF, hv]
    rw [ea]
    refine loop_auto [16, 17] [] (fun x : Nat × List Row => [(6, .osl 500 2 0 x.2.length), (18, .d (.int .i64 x.1))]) (fun x => [(500, .row 87 2 x.2.length (cellOf encRow x.2))]) (fun x => x.1 ≤ ws.length ∧ TabOk x.2 ∧ goF rows ws = goF x.2 (ws.drop x.1)) (fun x => ws.length - x.1) (0, rows) ?_ (fun x hx => ?_) ⟨Nat.zero_le _, validT_iff.1 hv, rfl⟩
    · conv => whnf
      repeat' first
        | (refine bc_true (by assumption) ?_; (conv => whnf))
        | (refine bc_false (by assumption) ?_; (conv => whnf))
        | (refine bc_intro (fun _ => ?_) (fun _ => ?_) <;> (conv => whnf))
        | (refine need_intro ?_ ?_; (conv => whnf))
        | (refine wk_refl ?_; (conv => whnf))
        | (refine draw_intro (by kernel_rfl) ?_; (conv => whnf))
        | (refine ord_intro (by kernel_rfl) ?_; (conv => whnf))
      all_goals first | exact ⟨rfl, rfl⟩ | exact ⟨rfl, rfl, rfl⟩ | exact DLe.refl _ | exact RowLe.refl _ _ _ | exact trivial
    · obtain ⟨i, r⟩ := x
      obtain ⟨hi, ht, hg⟩ := hx
      simp only at hi ht hg
      have htl := ht.len
      have hs : IntKind.i64.wrap ((i : Int) + 1) = ((i + 1 : Nat) : Int) := wrap_succ (n := 1099511627777) (by omega) (by omega)
      have hw0 : ws.getD (i : Int).toNat default = ws.getD i default := by rw [Int.toNat_natCast]
      have hstep0 := fun h => go_step (rows := r) (ws := ws) (i := i) h
      conv => whnf
      repeat' first
        | (refine call_intro (validWp_spec _ _ _) ?_ (by first | exact .inl rfl | exact .inr ⟨rfl, rfl⟩); (conv => whnf))
        | (refine call_if (place_own r _ _) (by first | exact .inl rfl | exact .inr ⟨rfl, rfl⟩) (need_intro ?_ ?_); (conv => whnf))
        | (refine bc_true (by assumption) ?_; (conv => whnf))
        | (refine bc_false (by assumption) ?_; (conv => whnf))
        | (refine bc_intro (fun _ => ?_) (fun _ => ?_) <;> (conv => whnf))
        | (refine need_intro ?_ ?_; (conv => whnf))
        | (refine wk_refl ?_; (conv => whnf))
        | (refine draw_intro (by kernel_rfl) ?_; (conv => whnf))
        | (refine ord_intro (by kernel_rfl) ?_; (conv => whnf))
      all_goals simp only [Int.toNat_natCast, decide_eq_true_eq, decide_eq_false_iff_not, Bool.not_eq_true', Bool.not_eq_false', beq_iff_eq, beq_eq_false_iff_ne, ne_eq, Nat.zero_add] at *
      all_goals have hpl : placeF r (ws.getD i default).1 false ≤ r.length := place_le
      all_goals have hwp : IntKind.i64.wrap ((placeF r (ws.getD i default).1 false : Int) + 1) = ((placeF r (ws.getD i default).1 false + 1 : Nat) : Int) := wrap_succ (n := 1099511627777) (by omega) (by omega)
      all_goals try simp only [hwp, Int.toNat_natCast, Int.toNat_zero, Option.getD_none, Option.getD_some, Int.sub_zero, cellsRow, bytesRow, true_and] at *
      all_goals first
        | omega
        | exact ⟨by omega, by omega⟩
        | exact ⟨by omega, by omega, by omega⟩
        | exact ⟨RowLe.refl _ _ _, by omega, ht.sorted⟩
        | (rw [hg, hstep0 (by omega), dw_bad (by assumption), if_neg (by decide)]
           exact ⟨LeS.tup (LeL.cons (les_nil rfl) (LeL.cons (LeS.refl _) LeL.nil)), trivial⟩)
        | (rw [hg, hstep0 (by omega), dw_full ht (by assumption) (by assumption) (by first | (intro h; exact absurd h.2 (by assumption)) | (intro h; have := h.1; omega)) (by omega), if_neg (by decide)]
           exact ⟨LeS.tup (LeL.cons (les_nil rfl) (LeL.cons (LeS.refl _) LeL.nil)), trivial⟩)
        | (rw [hg, List.drop_eq_nil_of_le (by omega)]
           exact ⟨LeS.refl _, trivial⟩)
        | skip
      all_goals try first
        | (refine NextVC.mk (i + 1, r.take (placeF r (ws.getD i default).1 false) ++ r.drop (placeF r (ws.getD i default).1 false + 1)) ?_ ?_ ?_
           (conv => whnf)
           repeat' (refine need_intro ?_ ?_; (conv => whnf))
           all_goals try simp only [Int.toNat_natCast, Int.toNat_zero, Option.getD_none, Option.getD_some, Int.sub_zero, hwp, cellsRow, bytesRow, true_and, and_true] at *
           all_goals first
             | exact trivial
             | omega
             | exact DLe.refl _
             | exact RowLe.refl _ _ _
             | exact DLe.of_eq (by rw [hs])
             | (have e := dw_gone ht (by assumption) (by assumption) (by omega) (by assumption)
                have hz : (doF r (ws.getD i default)).2 = 0 := by rw [e]
                have ht' := do_tab ht hz
                have hst := hstep0 (by omega)
                rw [if_pos hz] at hst
                rw [e] at ht' hst
                exact ⟨by omega, ht', by rw [hg, hst]⟩)
             | (simp only [List.length_append, List.length_take, List.length_cons, List.length_drop]; omega)
             | exact .of_eq (fun a j _ _ => by simp only [cellOf, getD_cut place_le]; split <;> rfl)
             | skip
           done)
        | (refine NextVC.mk (i + 1, r) ?_ ?_ ?_
           (conv => whnf)
           repeat' (refine need_intro ?_ ?_; (conv => whnf))
           all_goals try simp only [Int.toNat_natCast, Int.toNat_zero, Option.getD_none, Option.getD_some, Int.sub_zero, hwp, cellsRow, bytesRow, true_and, and_true] at *
           all_goals first
             | exact trivial
             | omega
             | exact DLe.refl _
             | exact RowLe.refl _ _ _
             | exact DLe.of_eq (by rw [hs])
             | (have e := dw_same ht (by assumption) (by assumption) (by first | (intro h; exact absurd h.2 (by assumption)) | (intro h; have := h.1; omega))
                have hz : (doF r (ws.getD i default)).2 = 0 := by rw [e]
                have ht' := do_tab ht hz
                have hst := hstep0 (by omega)
                rw [if_pos hz] at hst
                rw [e] at ht' hst
                exact ⟨by omega, ht', by rw [hg, hst]⟩)
             | (simp only [List.length_append, List.length_take, List.length_cons, List.length_drop]; omega)
             | exact RowLe.refl _ _ _
             | skip
           done)
      all_goals try first
        | (refine NextVC.mk (i + 1, r.take (placeF r (ws.getD i default).1 false) ++ ((ws.getD i default).1, (ws.getD i default).2.1) :: r.drop (placeF r (ws.getD i default).1 false + 1)) ?_ ?_ ?_
           (conv => whnf)
           repeat' (refine need_intro ?_ ?_; (conv => whnf))
           all_goals try simp only [Int.toNat_natCast, Int.toNat_zero, Option.getD_none, Option.getD_some, Int.sub_zero, hwp, cellsRow, bytesRow, true_and, and_true] at *
           all_goals first
             | exact trivial
             | omega
             | exact DLe.refl _
             | exact RowLe.refl _ _ _
             | exact DLe.of_eq (by rw [hs])
             | (have e := dw_set ht (by assumption) (by assumption) (by omega) (by assumption)
                have hz : (doF r (ws.getD i default)).2 = 0 := by rw [e]
                have ht' := do_tab ht hz
                have hst := hstep0 (by omega)
                rw [if_pos hz] at hst
                rw [e] at ht' hst
                exact ⟨by omega, ht', by rw [hg, hst]⟩)
             | (simp only [List.length_append, List.length_take, List.length_cons, List.length_drop]; omega)
             | exact row_set (p := placeF r (ws.getD i default).1 false) (x := ((ws.getD i default).1, (ws.getD i default).2.1)) place_le (by assumption)
             | skip
           done)
        | (refine NextVC.mk (i + 1, r.take (placeF r (ws.getD i default).1 false) ++ ((ws.getD i default).1, (ws.getD i default).2.1) :: r.drop (placeF r (ws.getD i default).1 false)) ?_ ?_ ?_
           (conv => whnf)
           repeat' (refine need_intro ?_ ?_; (conv => whnf))
           all_goals try simp only [Int.toNat_natCast, Int.toNat_zero, Option.getD_none, Option.getD_some, Int.sub_zero, hwp, cellsRow, bytesRow, true_and, and_true] at *
           all_goals first
             | exact trivial
             | omega
             | exact DLe.refl _
             | exact RowLe.refl _ _ _
             | exact DLe.of_eq (by rw [hs])
             | (have e := dw_add ht (by assumption) (by assumption) (by first | (intro h; exact absurd h.2 (by assumption)) | (intro h; have := h.1; omega)) (by omega)
                have hz : (doF r (ws.getD i default)).2 = 0 := by rw [e]
                have ht' := do_tab ht hz
                have hst := hstep0 (by omega)
                rw [if_pos hz] at hst
                rw [e] at ht' hst
                exact ⟨by omega, ht', by rw [hg, hst]⟩)
             | (simp only [List.length_append, List.length_take, List.length_cons, List.length_drop]; omega)
             | exact row_add (p := placeF r (ws.getD i default).1 false) (x := ((ws.getD i default).1, (ws.getD i default).2.1)) place_le (by simp only [List.length_append, List.length_take, List.length_cons, List.length_drop]; omega)
             | skip
           done)
      all_goals trace_state
  · have := validT_len ‹validT rows = true›
    simp only [bytesRow]
    exact ⟨by omega, by omega⟩
end Go.Proofs.YtngdpchhogfhfaaGreatDoor
