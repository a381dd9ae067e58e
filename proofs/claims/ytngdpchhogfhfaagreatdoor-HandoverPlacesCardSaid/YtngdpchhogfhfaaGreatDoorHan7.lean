/- Contracts of functions that the law reaches: YtngdpchhogfhfaaGreatDoorHan7. Written for this claim. -/
import Derived.Test.YtngdpchhogfhfaaGreatDoorHan4
import Derived.Test.YtngdpchhogfhfaaGreatDoorSxHan
namespace Go.Proofs.YtngdpchhogfhfaaGreatDoor
open Go Go.Sx Go.ChangeShapes Go.WideShapes Go.ChangeAt Go.RowKit
set_option linter.unusedVariables false
set_option linter.unusedSimpArgs false
set_option maxRecDepth 100000
abbrev EP : List Nat := EE ++ [3000000 + 91]
theorem eokP : EOk Tryz.prog EP := by
  refine ⟨by kernel_rfl, ?_⟩
  intro T hT
  simp only [memN_iff, EP, EE] at hT
  simp only [List.cons_append, List.nil_append, List.mem_cons, List.not_mem_nil, or_false] at hT
  rcases hT with rfl | rfl | rfl | rfl | rfl | rfl <;> exact ⟨by kernel_rfl, by kernel_rfl⟩
def nm5 (n : Nat) : Nat := if n = 1000 then 5 else if n = 1001 then 7 else if n = 1002 then 8 else if n = 1003 then 9 else if n = 1004 then 6 else n
theorem nm5_inj {n m : Nat} (hn : n = 1000 ∨ n = 1001 ∨ n = 1002 ∨ n = 1003 ∨ n = 1004) (hm : m = 1000 ∨ m = 1001 ∨ m = 1002 ∨ m = 1003 ∨ m = 1004) (h : nm5 n = nm5 m) : n = m := by
  rcases hn with rfl | rfl | rfl | rfl | rfl <;> rcases hm with rfl | rfl | rfl | rfl | rfl <;> first | rfl | (simp [nm5] at h)
theorem ph1_0 (f t : GrpT) (bk : List UInt8) (bt : Bool) (side ser : Int) : GrpB 1000 f → Sx.Spec Tryz.prog GG 38 [.ptr 1000 0, .ptr 1001 0, .ptr 1002 0, .ptr 1003 0, .ptr 1004 0] [(1000, .box (grpL f)), (1001, .box [.d (.str bk), .d (.bool bt)]), (1002, .box [.d (.int .i64 side)]), (1003, .box [.d (.int .i64 ser)]), (1004, .box (grpL t))] (.tup [.agg (grpL (freezeG f bk bt side ser t.num).1), .d (.int .i64 (freezeG f bk bt side ser t.num).2)]) [(1000, .box (grpL f)), (1001, .box [.d (.str bk), .d (.bool bt)]), (1002, .box [.d (.int .i64 side)]), (1003, .box [.d (.int .i64 ser)]), (1004, .box (grpL t))] := by
  intro h
  refine spec_intro (E := EE) (fn := Tryz.f38) eok (by kernel_rfl) (by kernel_rfl) Tryz.call38 (by kernel_rfl) (by kernel_rfl) ?_
  conv => whnf
  repeat' first
    | (refine call_if (freezep_spec f bk bt side ser t.num) (by first | exact .inl rfl | exact .inr ⟨rfl, rfl⟩) (need_intro ?_ ?_); (conv => whnf))
    | (refine bc_true (by assumption) ?_; (conv => whnf))
    | (refine bc_false (by assumption) ?_; (conv => whnf))
    | (refine bc_intro (fun _ => ?_) (fun _ => ?_) <;> (conv => whnf))
    | (refine need_intro ?_ ?_; (conv => whnf))
    | (refine wk_refl ?_; (conv => whnf))
    | (refine draw_intro (by kernel_rfl) ?_; (conv => whnf))
    | (refine ord_intro (by kernel_rfl) ?_; (conv => whnf))
  all_goals first
    | exact h
    | exact ⟨LeS.refl _, LeL.refl _, LeL.refl _, LeL.refl _, LeL.refl _, LeL.refl _, trivial⟩
    | trace_state
theorem ph1 (f t : GrpT) (bk : List UInt8) (bt : Bool) (side ser : Int) : GrpB 1000 f → Sx.Spec Tryz.prog GG 38 [.ptr 5 0, .ptr 7 0, .ptr 8 0, .ptr 9 0, .ptr 6 0] [(5, .box (grpL f)), (7, .box [.d (.str bk), .d (.bool bt)]), (8, .box [.d (.int .i64 side)]), (9, .box [.d (.int .i64 ser)]), (6, .box (grpL t))] (.tup [.agg (grpL (freezeG f bk bt side ser t.num).1), .d (.int .i64 (freezeG f bk bt side ser t.num).2)]) [(5, .box (grpL f)), (7, .box [.d (.str bk), .d (.bool bt)]), (8, .box [.d (.int .i64 side)]), (9, .box [.d (.int .i64 ser)]), (6, .box (grpL t))] := fun h =>
  (ph1_0 f t bk bt side ser h).ren nm5 (fun n m hn hm e => nm5_inj (by simpa [keysP] using hn) (by simpa [keysP] using hm) e)
theorem at2 {P : Program} {G : Nat → Option (Nat × (Nat → D))} {f : FuncId} {args : List SV} {n k : Nat} {b b' c c' : Blk} {res : SV} (h : Sx.Spec P G f args [(n, b), (k, c)] res [(n, b'), (k, c')]) (m j : Nat) (hne : n ≠ k) (hmj : m ≠ j) :
    Sx.Spec P G f (renL (fun i => if i = n then m else j) args) [(m, renB (fun i => if i = n then m else j) b), (j, renB (fun i => if i = n then m else j) c)] (renS (fun i => if i = n then m else j) res) [(m, renB (fun i => if i = n then m else j) b'), (j, renB (fun i => if i = n then m else j) c')] := by
  have := h.ren (fun i => if i = n then m else j) (by
    intro x y hx hy e
    simp only [keysP, List.map_cons, List.map_nil, List.mem_cons, List.not_mem_nil, or_false] at hx hy
    rcases hx with rfl | rfl <;> rcases hy with rfl | rfl <;> simp_all [Ne.symm])
  simpa only [renP, if_true, if_neg (Ne.symm hne)] using this
theorem ph2s (f t : GrpT) (m j : Nat) (hmj : m ≠ j) : (GrpB 1000 f ∧ GrpB 1000 t) → Sx.Spec Tryz.prog GG 39 [.ptr m 0, .ptr j 0] [(m, .box (grpL f)), (j, .box (grpL t))] (.tup [.agg (grpL (deliverG f t).1), .d (.int .i64 (deliverG f t).2)]) [(m, .box (grpL f)), (j, .box (grpL t))] := by
  intro h
  have key : Sx.Spec Tryz.prog GG 39 [.ptr 1000 0, .ptr 1001 0] [(1000, .box (grpL f)), (1001, .box (grpL t))] (.tup [.agg (grpL (deliverG f t).1), .d (.int .i64 (deliverG f t).2)]) [(1000, .box (grpL f)), (1001, .box (grpL t))] := by
    refine spec_intro (E := EE) (fn := Tryz.f39) eok (by kernel_rfl) (by kernel_rfl) Tryz.call39 (by kernel_rfl) (by kernel_rfl) ?_
    conv => whnf
    repeat' first
      | (refine call_if (deliverp_spec f t) (by first | exact .inl rfl | exact .inr ⟨rfl, rfl⟩) (need_intro ?_ ?_); (conv => whnf))
      | (refine bc_true (by assumption) ?_; (conv => whnf))
      | (refine bc_false (by assumption) ?_; (conv => whnf))
      | (refine bc_intro (fun _ => ?_) (fun _ => ?_) <;> (conv => whnf))
      | (refine need_intro ?_ ?_; (conv => whnf))
      | (refine wk_refl ?_; (conv => whnf))
      | (refine draw_intro (by kernel_rfl) ?_; (conv => whnf))
      | (refine ord_intro (by kernel_rfl) ?_; (conv => whnf))
    all_goals first
      | exact h
      | exact ⟨LeS.refl _, LeL.refl _, LeL.refl _, trivial⟩
      | exact ⟨LeS.refl _, LeL.refl _, trivial⟩
      | trace_state
  exact at2 key m j (by decide) hmj
theorem ph4s (f t : GrpT) (m j : Nat) (hmj : m ≠ j) : (GrpB 1000 f ∧ GrpB 1000 t) → Sx.Spec Tryz.prog GG 41 [.ptr m 0, .ptr j 0] [(m, .box (grpL f)), (j, .box (grpL t))] (.tup [.agg (grpL (releaseG f t).1), .d (.int .i64 (releaseG f t).2)]) [(m, .box (grpL f)), (j, .box (grpL t))] := by
  intro h
  have key : Sx.Spec Tryz.prog GG 41 [.ptr 1000 0, .ptr 1001 0] [(1000, .box (grpL f)), (1001, .box (grpL t))] (.tup [.agg (grpL (releaseG f t).1), .d (.int .i64 (releaseG f t).2)]) [(1000, .box (grpL f)), (1001, .box (grpL t))] := by
    refine spec_intro (E := EE) (fn := Tryz.f41) eok (by kernel_rfl) (by kernel_rfl) Tryz.call41 (by kernel_rfl) (by kernel_rfl) ?_
    conv => whnf
    repeat' first
      | (refine call_if (releasep_spec f t) (by first | exact .inl rfl | exact .inr ⟨rfl, rfl⟩) (need_intro ?_ ?_); (conv => whnf))
      | (refine bc_true (by assumption) ?_; (conv => whnf))
      | (refine bc_false (by assumption) ?_; (conv => whnf))
      | (refine bc_intro (fun _ => ?_) (fun _ => ?_) <;> (conv => whnf))
      | (refine need_intro ?_ ?_; (conv => whnf))
      | (refine wk_refl ?_; (conv => whnf))
      | (refine draw_intro (by kernel_rfl) ?_; (conv => whnf))
      | (refine ord_intro (by kernel_rfl) ?_; (conv => whnf))
    all_goals first
      | exact h
      | exact ⟨LeS.refl _, LeL.refl _, LeL.refl _, trivial⟩
      | exact ⟨LeS.refl _, LeL.refl _, trivial⟩
      | trace_state
  exact at2 key m j (by decide) hmj
theorem ph5s (f t : GrpT) (m j : Nat) (hmj : m ≠ j) : (GrpB 1000 f ∧ GrpB 1000 t) → Sx.Spec Tryz.prog GG 42 [.ptr m 0, .ptr j 0] [(m, .box (grpL f)), (j, .box (grpL t))] (.tup [.agg (grpL (forgetG f t).1), .d (.int .i64 (forgetG f t).2)]) [(m, .box (grpL f)), (j, .box (grpL t))] := by
  intro h
  have key : Sx.Spec Tryz.prog GG 42 [.ptr 1000 0, .ptr 1001 0] [(1000, .box (grpL f)), (1001, .box (grpL t))] (.tup [.agg (grpL (forgetG f t).1), .d (.int .i64 (forgetG f t).2)]) [(1000, .box (grpL f)), (1001, .box (grpL t))] := by
    refine spec_intro (E := EE) (fn := Tryz.f42) eok (by kernel_rfl) (by kernel_rfl) Tryz.call42 (by kernel_rfl) (by kernel_rfl) ?_
    conv => whnf
    repeat' first
      | (refine call_if (forgetp_spec f t) (by first | exact .inl rfl | exact .inr ⟨rfl, rfl⟩) (need_intro ?_ ?_); (conv => whnf))
      | (refine bc_true (by assumption) ?_; (conv => whnf))
      | (refine bc_false (by assumption) ?_; (conv => whnf))
      | (refine bc_intro (fun _ => ?_) (fun _ => ?_) <;> (conv => whnf))
      | (refine need_intro ?_ ?_; (conv => whnf))
      | (refine wk_refl ?_; (conv => whnf))
      | (refine draw_intro (by kernel_rfl) ?_; (conv => whnf))
      | (refine ord_intro (by kernel_rfl) ?_; (conv => whnf))
    all_goals first
      | exact h
      | exact ⟨LeS.refl _, LeL.refl _, LeL.refl _, trivial⟩
      | exact ⟨LeS.refl _, LeL.refl _, trivial⟩
      | trace_state
  exact at2 key m j (by decide) hmj
theorem ph3s (t : GrpT) (m : Nat) : GrpB 1000 t → Sx.Spec Tryz.prog GG 40 [.ptr m 0] [(m, .box (grpL t))] (.tup [.agg (grpL (installG t).1), .d (.int .i64 (installG t).2)]) [(m, .box (grpL t))] := by
  intro h
  have key : Sx.Spec Tryz.prog GG 40 [.ptr 1000 0] [(1000, .box (grpL t))] (.tup [.agg (grpL (installG t).1), .d (.int .i64 (installG t).2)]) [(1000, .box (grpL t))] := by
    refine spec_intro (E := EE) (fn := Tryz.f40) eok (by kernel_rfl) (by kernel_rfl) Tryz.call40 (by kernel_rfl) (by kernel_rfl) ?_
    conv => whnf
    repeat' first
      | (refine call_if (installp_spec t) (by first | exact .inl rfl | exact .inr ⟨rfl, rfl⟩) (need_intro ?_ ?_); (conv => whnf))
      | (refine bc_true (by assumption) ?_; (conv => whnf))
      | (refine bc_false (by assumption) ?_; (conv => whnf))
      | (refine bc_intro (fun _ => ?_) (fun _ => ?_) <;> (conv => whnf))
      | (refine need_intro ?_ ?_; (conv => whnf))
      | (refine wk_refl ?_; (conv => whnf))
      | (refine draw_intro (by kernel_rfl) ?_; (conv => whnf))
      | (refine ord_intro (by kernel_rfl) ?_; (conv => whnf))
    all_goals first
      | exact h
      | exact ⟨LeS.refl _, LeL.refl _, LeL.refl _, trivial⟩
      | exact ⟨LeS.refl _, LeL.refl _, trivial⟩
      | trace_state
  exact key.at m
end Go.Proofs.YtngdpchhogfhfaaGreatDoor

namespace Go.Proofs.YtngdpchhogfhfaaGreatDoor
open Go Go.Sx Go.ChangeShapes Go.WideShapes Go.ChangeAt Go.RowKit
set_option linter.unusedVariables false
set_option linter.unusedSimpArgs false
set_option maxRecDepth 100000
set_option maxHeartbeats 8000000 in
theorem runp_spec (f t : GrpT) (bk : List UInt8) (bt : Bool) (side ser : Int) : (GrpB 1000 f ∧ GrpB 1000 t) → Sx.Spec Tryz.prog GG 14 [.agg (grpL f), .agg (grpL t), .agg [.d (.str bk), .d (.bool bt)], .d (.int .i64 side), .d (.int .i64 ser)] [] (.tup [.agg (grpL (runG f t bk bt side ser).1.1), .agg (grpL (runG f t bk bt side ser).1.2), .d (.int .i64 (runG f t bk bt side ser).2)]) [] := by
  rintro ⟨h, h2⟩
  rw [run_eq]
  refine spec_intro (E := EP) (fn := Tryz.f14) eokP (by kernel_rfl) (by kernel_rfl) Tryz.call14 (by kernel_rfl) (by kernel_rfl) ?_
  conv => whnf
  repeat' first
    | (refine bc_true (by assumption) ?_; (conv => whnf))
    | (refine bc_false (by assumption) ?_; (conv => whnf))
    | (refine need_intro ?_ ?_; (conv => whnf))
    | (refine wk_refl ?_; (conv => whnf))
    | (refine draw_intro (by kernel_rfl) ?_; (conv => whnf))
    | (refine ord_intro (by kernel_rfl) ?_; (conv => whnf))
  refine loop_auto [5, 6, 7, 8, 9, 10, 11, 12, 29, 30] [7, 8, 9, 10, 11, 28] (fun z : Nat × RunA => [(31, .d (.int .i64 z.1))]) (fun z => [(5, .box (grpL z.2.f)), (6, .box (grpL z.2.t))]) (fun z => (z.1 ≤ 5 ∧ runR bk bt side ser 5 0 ⟨f, t⟩ = runR bk bt side ser (5 - z.1) z.1 z.2) ∧ GrpB 1000 z.2.f ∧ GrpB 1000 z.2.t) (fun z => 5 - z.1) (0, ⟨f, t⟩) ?_ (fun z hz => ?_) ⟨⟨by omega, rfl⟩, h, h2⟩
  · conv => whnf
    repeat' first
      | (refine bc_true (by assumption) ?_; (conv => whnf))
      | (refine bc_false (by assumption) ?_; (conv => whnf))
      | (refine bc_intro (fun _ => ?_) (fun _ => ?_) <;> (conv => whnf))
      | (refine need_intro ?_ ?_; (conv => whnf))
      | (refine wk_refl ?_; (conv => whnf))
      | (refine draw_intro (by kernel_rfl) ?_; (conv => whnf))
      | (refine ord_intro (by kernel_rfl) ?_; (conv => whnf))
    all_goals first | exact trivial | exact DLe.refl _ | exact ⟨rfl, rfl, rfl⟩ | exact rfl | trace_state
  obtain ⟨i, x⟩ := z
  obtain ⟨⟨hi, hr⟩, hb⟩ := hz
  simp only at hi hr hb
  rw [hr]
  have hst := fun j => step_b (bk := bk) (bt := bt) (side := side) (ser := ser) hb j
  match i, hi with
  | 5, _ =>
    conv => whnf
    repeat' first
      | (refine bc_true (by assumption) ?_; (conv => whnf))
      | (refine bc_false (by assumption) ?_; (conv => whnf))
      | (refine bc_intro (fun _ => ?_) (fun _ => ?_) <;> (conv => whnf))
      | (refine need_intro ?_ ?_; (conv => whnf))
      | (refine wk_refl ?_; (conv => whnf))
      | (refine draw_intro (by kernel_rfl) ?_; (conv => whnf))
      | (refine ord_intro (by kernel_rfl) ?_; (conv => whnf))
    all_goals first
      | exact ⟨LeS.refl _, trivial⟩
      | exact ⟨rfl, rfl, rfl⟩
      | trace_state
  | 0, _ =>
    conv => whnf
    repeat' first
      | (refine call_if (ph1 x.f x.t bk bt side ser) (by first | exact .inl rfl | exact .inr ⟨rfl, rfl⟩) (need_intro ?_ ?_); (conv => whnf))
      | (refine call_if (recoverp_spec (stepR bk bt side ser x 0).1) (by first | exact .inl rfl | exact .inr ⟨rfl, rfl⟩) (need_intro ?_ ?_); (conv => whnf))
      | (refine NextVC.mk (1, putR 0 x (recoverG (stepR bk bt side ser x 0).1).1.1) ?_ ?_ ?_; (conv => whnf))
      | (refine bc_true (by assumption) ?_; (conv => whnf))
      | (refine bc_false (by assumption) ?_; (conv => whnf))
      | (refine bc_intro (fun _ => ?_) (fun _ => ?_) <;> (conv => whnf))
      | (refine need_intro ?_ ?_; (conv => whnf))
      | (refine wk_refl ?_; (conv => whnf))
      | (refine draw_intro (by kernel_rfl) ?_; (conv => whnf))
      | (refine ord_intro (by kernel_rfl) ?_; (conv => whnf))
    all_goals try dsimp only at *
    all_goals first
      | exact trivial
      | exact DLe.refl _
      | exact hst 0
      | exact rfl
      | exact ⟨rfl, rfl, rfl⟩
      | exact hb.1
      | exact hb.2
      | exact hb
      | exact ⟨hb.2, hb.1⟩
      | exact ⟨⟨by omega, run_go (n := 4 - 0) (i := 0) (x := x) (eq_of_beq (by assumption)) (by first | exact eq_of_beq (by assumption) | assumption | (simp only [bne_eq_false_iff_eq] at *; assumption))⟩, put_b hb (recover_b (hst 0))⟩
      | omega
      | (rw [show 5 - 0 = (4 - 0) + 1 from rfl, run_no1 (i := 0) (x := x) (ne_of_beq_false (by assumption))]
         (refine ⟨LeS.tup (LeL.cons (LeS.agg ?_) (LeL.cons (LeS.agg ?_) (LeL.cons (LeS.refl _) LeL.nil))), trivial⟩
          all_goals repeat' first
            | exact LeL.nil
            | refine LeL.cons ?_ ?_
          all_goals first
            | exact LeS.refl _
            | exact les_nil rfl)
         done)
      | (rw [show 5 - 0 = (4 - 0) + 1 from rfl, run_no2 (i := 0) (x := x) (eq_of_beq (by assumption)) (by first | exact ne_of_beq_false (by assumption) | assumption | (simp only [bne_iff_ne] at *; assumption))]
         (refine ⟨LeS.tup (LeL.cons (LeS.agg ?_) (LeL.cons (LeS.agg ?_) (LeL.cons (LeS.refl _) LeL.nil))), trivial⟩
          all_goals repeat' first
            | exact LeL.nil
            | refine LeL.cons ?_ ?_
          all_goals first
            | exact LeS.refl _
            | exact les_nil rfl)
         done)
      | (exfalso; simp only [bne_eq_false_iff_eq, beq_eq_false_iff_ne, ne_eq] at *; contradiction)
      | trace_state
  | 1, _ =>
    conv => whnf
    repeat' first
      | (refine call_if (ph2s x.f x.t 5 6 (by decide)) (by first | exact .inl rfl | exact .inr ⟨rfl, rfl⟩) (need_intro ?_ ?_); (conv => whnf))
      | (refine call_if (recoverp_spec (stepR bk bt side ser x 1).1) (by first | exact .inl rfl | exact .inr ⟨rfl, rfl⟩) (need_intro ?_ ?_); (conv => whnf))
      | (refine NextVC.mk (2, putR 1 x (recoverG (stepR bk bt side ser x 1).1).1.1) ?_ ?_ ?_; (conv => whnf))
      | (refine bc_true (by assumption) ?_; (conv => whnf))
      | (refine bc_false (by assumption) ?_; (conv => whnf))
      | (refine bc_intro (fun _ => ?_) (fun _ => ?_) <;> (conv => whnf))
      | (refine need_intro ?_ ?_; (conv => whnf))
      | (refine wk_refl ?_; (conv => whnf))
      | (refine draw_intro (by kernel_rfl) ?_; (conv => whnf))
      | (refine ord_intro (by kernel_rfl) ?_; (conv => whnf))
    all_goals try dsimp only at *
    all_goals first
      | exact trivial
      | exact DLe.refl _
      | exact hst 1
      | exact rfl
      | exact ⟨rfl, rfl, rfl⟩
      | exact hb.1
      | exact hb.2
      | exact hb
      | exact ⟨hb.2, hb.1⟩
      | exact ⟨⟨by omega, run_go (n := 4 - 1) (i := 1) (x := x) (eq_of_beq (by assumption)) (by first | exact eq_of_beq (by assumption) | assumption | (simp only [bne_eq_false_iff_eq] at *; assumption))⟩, put_b hb (recover_b (hst 1))⟩
      | omega
      | (rw [show 5 - 1 = (4 - 1) + 1 from rfl, run_no1 (i := 1) (x := x) (ne_of_beq_false (by assumption))]
         (refine ⟨LeS.tup (LeL.cons (LeS.agg ?_) (LeL.cons (LeS.agg ?_) (LeL.cons (LeS.refl _) LeL.nil))), trivial⟩
          all_goals repeat' first
            | exact LeL.nil
            | refine LeL.cons ?_ ?_
          all_goals first
            | exact LeS.refl _
            | exact les_nil rfl)
         done)
      | (rw [show 5 - 1 = (4 - 1) + 1 from rfl, run_no2 (i := 1) (x := x) (eq_of_beq (by assumption)) (by first | exact ne_of_beq_false (by assumption) | assumption | (simp only [bne_iff_ne] at *; assumption))]
         (refine ⟨LeS.tup (LeL.cons (LeS.agg ?_) (LeL.cons (LeS.agg ?_) (LeL.cons (LeS.refl _) LeL.nil))), trivial⟩
          all_goals repeat' first
            | exact LeL.nil
            | refine LeL.cons ?_ ?_
          all_goals first
            | exact LeS.refl _
            | exact les_nil rfl)
         done)
      | (exfalso; simp only [bne_eq_false_iff_eq, beq_eq_false_iff_ne, ne_eq] at *; contradiction)
      | trace_state
  | 2, _ =>
    conv => whnf
    repeat' first
      | (refine call_if (ph3s x.t 6) (by first | exact .inl rfl | exact .inr ⟨rfl, rfl⟩) (need_intro ?_ ?_); (conv => whnf))
      | (refine call_if (recoverp_spec (stepR bk bt side ser x 2).1) (by first | exact .inl rfl | exact .inr ⟨rfl, rfl⟩) (need_intro ?_ ?_); (conv => whnf))
      | (refine NextVC.mk (3, putR 2 x (recoverG (stepR bk bt side ser x 2).1).1.1) ?_ ?_ ?_; (conv => whnf))
      | (refine bc_true (by assumption) ?_; (conv => whnf))
      | (refine bc_false (by assumption) ?_; (conv => whnf))
      | (refine bc_intro (fun _ => ?_) (fun _ => ?_) <;> (conv => whnf))
      | (refine need_intro ?_ ?_; (conv => whnf))
      | (refine wk_refl ?_; (conv => whnf))
      | (refine draw_intro (by kernel_rfl) ?_; (conv => whnf))
      | (refine ord_intro (by kernel_rfl) ?_; (conv => whnf))
    all_goals try dsimp only at *
    all_goals first
      | exact trivial
      | exact DLe.refl _
      | exact hst 2
      | exact rfl
      | exact ⟨rfl, rfl, rfl⟩
      | exact hb.1
      | exact hb.2
      | exact hb
      | exact ⟨hb.2, hb.1⟩
      | exact ⟨⟨by omega, run_go (n := 4 - 2) (i := 2) (x := x) (eq_of_beq (by assumption)) (by first | exact eq_of_beq (by assumption) | assumption | (simp only [bne_eq_false_iff_eq] at *; assumption))⟩, put_b hb (recover_b (hst 2))⟩
      | omega
      | (rw [show 5 - 2 = (4 - 2) + 1 from rfl, run_no1 (i := 2) (x := x) (ne_of_beq_false (by assumption))]
         (refine ⟨LeS.tup (LeL.cons (LeS.agg ?_) (LeL.cons (LeS.agg ?_) (LeL.cons (LeS.refl _) LeL.nil))), trivial⟩
          all_goals repeat' first
            | exact LeL.nil
            | refine LeL.cons ?_ ?_
          all_goals first
            | exact LeS.refl _
            | exact les_nil rfl)
         done)
      | (rw [show 5 - 2 = (4 - 2) + 1 from rfl, run_no2 (i := 2) (x := x) (eq_of_beq (by assumption)) (by first | exact ne_of_beq_false (by assumption) | assumption | (simp only [bne_iff_ne] at *; assumption))]
         (refine ⟨LeS.tup (LeL.cons (LeS.agg ?_) (LeL.cons (LeS.agg ?_) (LeL.cons (LeS.refl _) LeL.nil))), trivial⟩
          all_goals repeat' first
            | exact LeL.nil
            | refine LeL.cons ?_ ?_
          all_goals first
            | exact LeS.refl _
            | exact les_nil rfl)
         done)
      | (exfalso; simp only [bne_eq_false_iff_eq, beq_eq_false_iff_ne, ne_eq] at *; contradiction)
      | trace_state
  | 3, _ =>
    conv => whnf
    repeat' first
      | (refine call_if (ph4s x.f x.t 5 6 (by decide)) (by first | exact .inl rfl | exact .inr ⟨rfl, rfl⟩) (need_intro ?_ ?_); (conv => whnf))
      | (refine call_if (recoverp_spec (stepR bk bt side ser x 3).1) (by first | exact .inl rfl | exact .inr ⟨rfl, rfl⟩) (need_intro ?_ ?_); (conv => whnf))
      | (refine NextVC.mk (4, putR 3 x (recoverG (stepR bk bt side ser x 3).1).1.1) ?_ ?_ ?_; (conv => whnf))
      | (refine bc_true (by assumption) ?_; (conv => whnf))
      | (refine bc_false (by assumption) ?_; (conv => whnf))
      | (refine bc_intro (fun _ => ?_) (fun _ => ?_) <;> (conv => whnf))
      | (refine need_intro ?_ ?_; (conv => whnf))
      | (refine wk_refl ?_; (conv => whnf))
      | (refine draw_intro (by kernel_rfl) ?_; (conv => whnf))
      | (refine ord_intro (by kernel_rfl) ?_; (conv => whnf))
    all_goals try dsimp only at *
    all_goals first
      | exact trivial
      | exact DLe.refl _
      | exact hst 3
      | exact rfl
      | exact ⟨rfl, rfl, rfl⟩
      | exact hb.1
      | exact hb.2
      | exact hb
      | exact ⟨hb.2, hb.1⟩
      | exact ⟨⟨by omega, run_go (n := 4 - 3) (i := 3) (x := x) (eq_of_beq (by assumption)) (by first | exact eq_of_beq (by assumption) | assumption | (simp only [bne_eq_false_iff_eq] at *; assumption))⟩, put_b hb (recover_b (hst 3))⟩
      | omega
      | (rw [show 5 - 3 = (4 - 3) + 1 from rfl, run_no1 (i := 3) (x := x) (ne_of_beq_false (by assumption))]
         (refine ⟨LeS.tup (LeL.cons (LeS.agg ?_) (LeL.cons (LeS.agg ?_) (LeL.cons (LeS.refl _) LeL.nil))), trivial⟩
          all_goals repeat' first
            | exact LeL.nil
            | refine LeL.cons ?_ ?_
          all_goals first
            | exact LeS.refl _
            | exact les_nil rfl)
         done)
      | (rw [show 5 - 3 = (4 - 3) + 1 from rfl, run_no2 (i := 3) (x := x) (eq_of_beq (by assumption)) (by first | exact ne_of_beq_false (by assumption) | assumption | (simp only [bne_iff_ne] at *; assumption))]
         (refine ⟨LeS.tup (LeL.cons (LeS.agg ?_) (LeL.cons (LeS.agg ?_) (LeL.cons (LeS.refl _) LeL.nil))), trivial⟩
          all_goals repeat' first
            | exact LeL.nil
            | refine LeL.cons ?_ ?_
          all_goals first
            | exact LeS.refl _
            | exact les_nil rfl)
         done)
      | (exfalso; simp only [bne_eq_false_iff_eq, beq_eq_false_iff_ne, ne_eq] at *; contradiction)
      | trace_state
  | 4, _ =>
    conv => whnf
    repeat' first
      | (refine call_if (ph5s x.t x.f 6 5 (by decide)) (by first | exact .inl rfl | exact .inr ⟨rfl, rfl⟩) (need_intro ?_ ?_); (conv => whnf))
      | (refine call_if (recoverp_spec (stepR bk bt side ser x 4).1) (by first | exact .inl rfl | exact .inr ⟨rfl, rfl⟩) (need_intro ?_ ?_); (conv => whnf))
      | (refine NextVC.mk (5, putR 4 x (recoverG (stepR bk bt side ser x 4).1).1.1) ?_ ?_ ?_; (conv => whnf))
      | (refine bc_true (by assumption) ?_; (conv => whnf))
      | (refine bc_false (by assumption) ?_; (conv => whnf))
      | (refine bc_intro (fun _ => ?_) (fun _ => ?_) <;> (conv => whnf))
      | (refine need_intro ?_ ?_; (conv => whnf))
      | (refine wk_refl ?_; (conv => whnf))
      | (refine draw_intro (by kernel_rfl) ?_; (conv => whnf))
      | (refine ord_intro (by kernel_rfl) ?_; (conv => whnf))
    all_goals try dsimp only at *
    all_goals first
      | exact trivial
      | exact DLe.refl _
      | exact hst 4
      | exact rfl
      | exact ⟨rfl, rfl, rfl⟩
      | exact hb.1
      | exact hb.2
      | exact hb
      | exact ⟨hb.2, hb.1⟩
      | exact ⟨⟨by omega, run_go (n := 4 - 4) (i := 4) (x := x) (eq_of_beq (by assumption)) (by first | exact eq_of_beq (by assumption) | assumption | (simp only [bne_eq_false_iff_eq] at *; assumption))⟩, put_b hb (recover_b (hst 4))⟩
      | omega
      | (rw [show 5 - 4 = (4 - 4) + 1 from rfl, run_no1 (i := 4) (x := x) (ne_of_beq_false (by assumption))]
         (refine ⟨LeS.tup (LeL.cons (LeS.agg ?_) (LeL.cons (LeS.agg ?_) (LeL.cons (LeS.refl _) LeL.nil))), trivial⟩
          all_goals repeat' first
            | exact LeL.nil
            | refine LeL.cons ?_ ?_
          all_goals first
            | exact LeS.refl _
            | exact les_nil rfl)
         done)
      | (rw [show 5 - 4 = (4 - 4) + 1 from rfl, run_no2 (i := 4) (x := x) (eq_of_beq (by assumption)) (by first | exact ne_of_beq_false (by assumption) | assumption | (simp only [bne_iff_ne] at *; assumption))]
         (refine ⟨LeS.tup (LeL.cons (LeS.agg ?_) (LeL.cons (LeS.agg ?_) (LeL.cons (LeS.refl _) LeL.nil))), trivial⟩
          all_goals repeat' first
            | exact LeL.nil
            | refine LeL.cons ?_ ?_
          all_goals first
            | exact LeS.refl _
            | exact les_nil rfl)
         done)
      | (exfalso; simp only [bne_eq_false_iff_eq, beq_eq_false_iff_ne, ne_eq] at *; contradiction)
      | trace_state
end Go.Proofs.YtngdpchhogfhfaaGreatDoor

namespace Go.Proofs.YtngdpchhogfhfaaGreatDoor
open Go Go.Sx Go.ChangeShapes Go.WideShapes Go.ChangeAt Go.RowKit
set_option linter.unusedVariables false
set_option linter.unusedSimpArgs false
set_option maxRecDepth 100000
theorem ownsp_spec (g : GrpT) (k : List UInt8) : GrpB 1000 g → Sx.Spec Tryz.prog GG 15 [.agg (grpL g), .d (.str k)] [] (.d (.bool (ownsG g k))) [] := by
  intro h
  have hN := net_one h
  cases ho : (ownerG g).2 with
  | false =>
    refine spec_intro (E := EE) (fn := Tryz.f15) eok (by kernel_rfl) (by kernel_rfl) Tryz.call15 (by kernel_rfl) (by kernel_rfl) ?_
    conv => whnf
    repeat' first
      | (refine call_if (cp1_no ho) (by first | exact .inl rfl | exact .inr ⟨rfl, rfl⟩) (need_intro ?_ ?_); (conv => whnf))
      | (refine bc_true (by assumption) ?_; (conv => whnf))
      | (refine bc_false (by assumption) ?_; (conv => whnf))
      | (refine bc_intro (fun _ => ?_) (fun _ => ?_) <;> (conv => whnf))
      | (refine need_intro ?_ ?_; (conv => whnf))
      | (refine wk_refl ?_; (conv => whnf))
      | (refine draw_intro (by kernel_rfl) ?_; (conv => whnf))
      | (refine ord_intro (by kernel_rfl) ?_; (conv => whnf))
    all_goals try simp only [cellsMem, bytesMem, decide_eq_true_eq, decide_eq_false_iff_not, bne_iff_ne, ne_eq, Decidable.not_not, Bool.not_eq_true', Bool.not_eq_false', bne_eq_false_iff_eq] at *
    all_goals first
      | exact ⟨⟨trivial, row_g1⟩, hN⟩
      | (refine ⟨LeS.of_eq ?_, trivial⟩
         simp [ownsG, ho]
         done)
      | (exfalso; simp at *; done)
      | trace_state
  | true =>
    refine spec_intro (E := EE) (fn := Tryz.f15) eok (by kernel_rfl) (by kernel_rfl) Tryz.call15 (by kernel_rfl) (by kernel_rfl) ?_
    conv => whnf
    repeat' first
      | (refine call_if (cp1_ok ho) (by first | exact .inl rfl | exact .inr ⟨rfl, rfl⟩) (need_intro ?_ ?_); (conv => whnf))
      | (refine call_intro (containsRp_spec (ownerG g).1.copy.lk (ownerG g).1.copy.lt (ownerG g).1.copy.hk (ownerG g).1.copy.ht k) ?_ (by first | exact .inl rfl | exact .inr ⟨rfl, rfl⟩); (conv => whnf))
      | (refine bc_true (by assumption) ?_; (conv => whnf))
      | (refine bc_false (by assumption) ?_; (conv => whnf))
      | (refine bc_intro (fun _ => ?_) (fun _ => ?_) <;> (conv => whnf))
      | (refine need_intro ?_ ?_; (conv => whnf))
      | (refine wk_refl ?_; (conv => whnf))
      | (refine draw_intro (by kernel_rfl) ?_; (conv => whnf))
      | (refine ord_intro (by kernel_rfl) ?_; (conv => whnf))
    all_goals try simp only [cellsMem, bytesMem, decide_eq_true_eq, decide_eq_false_iff_not, bne_iff_ne, ne_eq, Decidable.not_not, Bool.not_eq_true', Bool.not_eq_false', bne_eq_false_iff_eq] at *
    all_goals first
      | exact ⟨⟨trivial, row_g1⟩, hN⟩
      | exact ⟨by omega, by simp⟩
      | (refine ⟨LeS.of_eq ?_, trivial⟩
         simp [ownsG, ho, *]
         done)
      | trace_state
end Go.Proofs.YtngdpchhogfhfaaGreatDoor

namespace Go.Proofs.YtngdpchhogfhfaaGreatDoor
open Go Go.Sx Go.ChangeShapes Go.WideShapes Go.ChangeAt Go.RowKit
set_option linter.unusedVariables false
set_option linter.unusedSimpArgs false
set_option maxRecDepth 100000
end Go.Proofs.YtngdpchhogfhfaaGreatDoor
