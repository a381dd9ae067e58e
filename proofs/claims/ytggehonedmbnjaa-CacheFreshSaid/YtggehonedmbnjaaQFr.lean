/- Contracts of functions that the law reaches: YtggehonedmbnjaaQFr. Written for this claim. -/
import Derived.Test.YtggehonedmbnjaaQTb
import Derived.Test.YtggehonedmbnjaaSxCac
import Derived.ProofKit
import Derived.OpenShut
namespace Go.Proofs.Ytggehonedmbnjaa
open Go Go.Sx Go.ChangeShapes Go.WideShapes Go.ChangeAt Go.RowKit
set_option linter.unusedVariables false
set_option linter.unusedSimpArgs false
set_option maxRecDepth 100000
theorem three_ex {i : Nat} (h : i < 3) : ∃ q : List UInt8, [D.str [97], D.str [98], D.str [99]].getD (i * Try.prog.cellsOf 9 + 0) default = .str q := by
  rw [show Try.prog.cellsOf 9 = 1 by kernel_rfl]
  match i, h with
  | 0, _ => exact ⟨_, rfl⟩
  | 1, _ => exact ⟨_, rfl⟩
  | 2, _ => exact ⟨_, rfl⟩
theorem wrap1 {v : Int} (h : 0 ≤ v) (h2 : v < 100 ∨ v = 0) : IntKind.i64.wrap (1 + v) = 1 + v := wrap_of (by omega) (by omega)
theorem apply_one (rows : List Row) (a b : List UInt8) (c : Bool) {g : Nat → Nat → D} (hg : RowLe 1 3 g (cellOf encWr [(a, b, c)])) : Sx.Spec Try.prog GG 18 [.d (encL encRow 2 rows), .d (.list 1 3 g)] [] (.tup [.d (encL encRow 2 (applyF rows [(a, b, c)]).1), .d (.int .i64 (applyF rows [(a, b, c)]).2)]) [] :=
  (applyr_spec rows [(a, b, c)] (by simp)).arg (LeL.cons (LeS.refl _) (LeL.cons (LeS.d (DLe.rows rfl hg)) LeL.nil))
def encS (s : List UInt8) : List D := [.str s]
def FrJ (i : Nat) (rows : List Row) (y : List LseT) (e : Int) (r : List Row) : Prop := (e = 0 → FrI (i + 1) y r) ∧ (¬ e = 0 → r = rows)
set_option maxHeartbeats 8000000 in
theorem cacheFresh_law (l : List Int) (hl : ∀ x ∈ l, -9223372036854775808 ≤ x ∧ x < 9223372036854775808) : Sx.Spec Try.prog GG 4 [.d (encL encI 1 l)] [] (.d (.bool true)) [] := by
  refine spec_intro (E := EE) (fn := Try.f4) eok (by kernel_rfl) (by kernel_rfl) Try.call4 (by kernel_rfl) (by kernel_rfl) ?_
  conv => whnf
  repeat' first
    | (refine call_some (new_ex 2000 hl) (fun _ => by first | exact .inl rfl | exact .inr ⟨rfl, rfl⟩) ?_; rintro ⟨tl, ta⟩ hT; (conv => whnf))
    | (refine bc_true (by assumption) ?_; (conv => whnf))
    | (refine bc_false (by assumption) ?_; (conv => whnf))
    | (refine need_intro ?_ ?_; (conv => whnf))
    | (refine wk_refl ?_; (conv => whnf))
    | (refine draw_intro (by kernel_rfl) ?_; (conv => whnf))
    | (refine ord_intro (by kernel_rfl) ?_; (conv => whnf))
  refine loop_auto [2, 3] [] (fun x : Nat × (List LseT × List Row) × Nat => [(6, .d (.int .i64 x.1)), (4, .d (encL encLse 9 x.2.1.1)), (5, .d (encL encRow 2 x.2.1.2))]) (fun x => [(2000, tapeB tl x.2.2)])
    (fun x => x.1 ≤ 80 ∧ FrI x.1 x.2.1.1 x.2.1.2 ∧ TapeOk tl x.2.2) (fun x => 80 - x.1) (0, ([], []), ta) ?_ (fun x hx => ?_) ⟨by simp, fr_zero, hT⟩
  · conv => whnf
    repeat' first
      | (refine bc_true (by assumption) ?_; (conv => whnf))
      | (refine bc_false (by assumption) ?_; (conv => whnf))
      | (refine bc_intro (fun _ => ?_) (fun _ => ?_) <;> (conv => whnf))
      | (refine need_intro ?_ ?_; (conv => whnf))
      | (refine wk_refl ?_; (conv => whnf))
      | (refine draw_intro (by kernel_rfl) ?_; (conv => whnf))
      | (refine ord_intro (by kernel_rfl) ?_; (conv => whnf))
    all_goals first | exact trivial | exact DLe.refl _ | exact DLe.nil | trace_state
  obtain ⟨i, ⟨x, rows⟩, b⟩ := x
  obtain ⟨hi, hI, hb⟩ := hx
  simp only at hi hI hb
  have hsi : IntKind.i64.wrap ((i : Int) + 1) = ((i + 1 : Nat) : Int) := wrap_succ (n := 100) (by omega) (by omega)
  have hl9 : x.length ≤ 900000 := by have := hI.ls.len; omega
  have hxb := hI.ls.b
  have hrl : rows.length ≤ 1099511627776 := by have := hI.len; omega
  conv => whnf
  repeat' first
    | (refine call_some_if (left_ex _) (fun _ => by first | exact .inl rfl | exact .inr ⟨rfl, rfl⟩) (need_intro ?_ ?_); rintro ⟨v, b⟩ h6; (conv => whnf))
    | (refine call_some_if (next_ex _ (n := 3)) (fun _ => by first | exact .inl rfl | exact .inr ⟨rfl, rfl⟩) (need_intro ?_ ?_); rintro ⟨u, b⟩ ⟨⟨u1, u2⟩, h6⟩; (conv => whnf))
    | (refine call_intro (awake_spec) ?_ (by first | exact .inl rfl | exact .inr ⟨rfl, rfl⟩); (conv => whnf))
    | (refine bc_true (by assumption) ?_; (conv => whnf))
    | (refine bc_false (by assumption) ?_; (conv => whnf))
    | (refine bc_intro (fun _ => ?_) (fun _ => ?_) <;> (conv => whnf))
    | (refine need_intro ?_ ?_; (conv => whnf))
    | (refine wk_refl ?_; (conv => whnf))
    | (refine draw_intro (by kernel_rfl) ?_; (conv => whnf))
    | (refine ord_intro (by kernel_rfl) ?_; (conv => whnf))
  all_goals try dsimp only at h6 u1 u2
  all_goals try first
    | assumption
    | exact ⟨LeS.refl _, trivial⟩
    | exact ⟨by assumption, by omega, by omega⟩
    | exact ⟨by assumption⟩
    | (dsimp only at *; omega)
    | (dsimp only at *; exact ⟨by omega, by omega⟩)
  rename_i u0 b0 g6 g1 g2
  dsimp only at g1 g2 g6
  obtain ⟨q, hq⟩ := three_ex (i := u.toNat) (by omega)
  conv => whnf
  repeat' first
    | (refine call_some_if (next_ex _ (n := 8)) (fun _ => by first | exact .inl rfl | exact .inr ⟨rfl, rfl⟩) (need_intro ?_ ?_); rintro ⟨v, b⟩ ⟨⟨q1, q2⟩, h6⟩; (conv => whnf))
    | (refine bc_true (by assumption) ?_; (conv => whnf))
    | (refine bc_false (by assumption) ?_; (conv => whnf))
    | (refine need_intro ?_ ?_; (conv => whnf))
    | (refine wk_refl ?_; (conv => whnf))
    | (refine draw_intro (by kernel_rfl) ?_; (conv => whnf))
    | (refine ord_intro (by kernel_rfl) ?_; (conv => whnf))
  all_goals try dsimp only at h6 q1 q2
  all_goals try first
    | exact ⟨by assumption, by omega, by omega⟩
  refine join_auto [2, 3, 4, 5, 6, 7, 9, 10, 11, 41] [11, 2000] (fun x : List UInt8 × Bool => [(8, .d (.str x.1)), (42, .d (.bool x.2))]) (fun _ => []) (fun _ => True) (fun _ => ?_) (fun _ => ?_) ?_
  · conv => whnf
    repeat' first
      | (refine JoinVC.mk (q, true) ?_ ?_; (conv => whnf))
      | (refine bc_true (by assumption) ?_; (conv => whnf))
      | (refine bc_false (by assumption) ?_; (conv => whnf))
      | (refine need_intro ?_ ?_; (conv => whnf))
      | (refine wk_refl ?_; (conv => whnf))
      | (refine draw_intro (by kernel_rfl) ?_; (conv => whnf))
      | (refine ord_intro (by kernel_rfl) ?_; (conv => whnf))
    all_goals first
      | exact trivial
      | exact DLe.refl _
      | exact DLe.of_eq hq
      | exact DLe.of_eq (congrArg D.bool (by assumption))
      | trace_state
  · conv => whnf
    repeat' first
      | (refine JoinVC.mk (q, v == 1) ?_ ?_; (conv => whnf))
      | (refine bc_true (by assumption) ?_; (conv => whnf))
      | (refine bc_false (by assumption) ?_; (conv => whnf))
      | (refine need_intro ?_ ?_; (conv => whnf))
      | (refine wk_refl ?_; (conv => whnf))
      | (refine draw_intro (by kernel_rfl) ?_; (conv => whnf))
      | (refine ord_intro (by kernel_rfl) ?_; (conv => whnf))
    all_goals first
      | exact trivial
      | exact DLe.refl _
      | exact DLe.of_eq hq
      | trace_state
  rintro ⟨k, c⟩ _
  conv => whnf
  repeat' first
    | (refine bc_true (by assumption) ?_; (conv => whnf))
    | (refine bc_false (by assumption) ?_; (conv => whnf))
    | (refine need_intro ?_ ?_; (conv => whnf))
    | (refine wk_refl ?_; (conv => whnf))
    | (refine draw_intro (by kernel_rfl) ?_; (conv => whnf))
    | (refine ord_intro (by kernel_rfl) ?_; (conv => whnf))
  refine join_auto [2, 3, 4, 6] [] (fun z : (List LseT × Int × List Row) × Nat => [(9, .d (encL encLse 9 z.1.1)), (10, .d (.int .i64 z.1.2.1)), (5, .d (encL encRow 2 z.1.2.2))]) (fun z => [(2000, tapeB tl z.2)]) (fun z => FrJ i rows z.1.1 z.1.2.1 z.1.2.2 ∧ TapeOk tl z.2) (fun _ => ?_) (fun _ => ?_) ?_
  · conv => whnf
    repeat' first
      | (refine call_if (getr_spec rows _) (by first | exact .inl rfl | exact .inr ⟨rfl, rfl⟩) (need_intro ?_ ?_); (conv => whnf))
      | (refine call_if (sendp_spec x _ _ _ _) (by first | exact .inl rfl | exact .inr ⟨rfl, rfl⟩) (need_intro ?_ ?_); (conv => whnf))
      | (refine JoinVC.mk (((sendL x (IntKind.i64.wrap (1 + u0)) k (getF rows k).1 (getF rows k).2).1, (sendL x (IntKind.i64.wrap (1 + u0)) k (getF rows k).1 (getF rows k).2).2, rows), b) ?_ ?_; (conv => whnf))
      | (refine bc_true (by assumption) ?_; (conv => whnf))
      | (refine bc_false (by assumption) ?_; (conv => whnf))
      | (refine need_intro ?_ ?_; (conv => whnf))
      | (refine wk_refl ?_; (conv => whnf))
      | (refine draw_intro (by kernel_rfl) ?_; (conv => whnf))
      | (refine ord_intro (by kernel_rfl) ?_; (conv => whnf))
    all_goals first
      | exact trivial
      | exact hxb
      | exact hrl
      | exact DLe.refl _
      | exact ⟨⟨fun e => (fr_send hI e).mono (by omega), fun _ => rfl⟩, h6⟩
      | trace_state
  · conv => whnf
    repeat' first
      | (refine call_some_if (value_ex _) (fun _ => by first | exact .inl rfl | exact .inr ⟨rfl, rfl⟩) (need_intro ?_ ?_); rintro ⟨w, b⟩ ⟨h1, h6⟩; (conv => whnf))
      | (refine call_some_if (bool_ex _) (fun _ => by first | exact .inl rfl | exact .inr ⟨rfl, rfl⟩) (need_intro ?_ ?_); rintro ⟨w2, b⟩ h6; (conv => whnf))
      | (refine call_if (arrivep_spec x _ _) (by first | exact .inl rfl | exact .inr ⟨rfl, rfl⟩) (need_intro ?_ ?_); (conv => whnf))
      | (refine call_if (beginp_spec x _ _ _) (by first | exact .inl rfl | exact .inr ⟨rfl, rfl⟩) (need_intro ?_ ?_); (conv => whnf))
      | (refine call_if (dropp_spec x _ _) (by first | exact .inl rfl | exact .inr ⟨rfl, rfl⟩) (need_intro ?_ ?_); (conv => whnf))
      | (refine call_if (finishp_spec x _) (by first | exact .inl rfl | exact .inr ⟨rfl, rfl⟩) (need_intro ?_ ?_); (conv => whnf))
      | (refine call_intro (apply_one rows _ _ _ (row_one (x := ((finishL x k).1.2.1, (finishL x k).1.2.2.1, (finishL x k).1.2.2.2)) (jlt3 (DLe.of_eq rfl) (DLe.of_eq rfl) (DLe.of_eq rfl)))) ?_ (by first | exact .inl rfl | exact .inr ⟨rfl, rfl⟩); (conv => whnf))
      | (refine call_if (crashp_spec x _) (by first | exact .inl rfl | exact .inr ⟨rfl, rfl⟩) (need_intro ?_ ?_); (conv => whnf))
      | (refine JoinVC.mk ((fun _ => ((arriveL x (IntKind.i64.wrap (1 + u0)) k).1, (arriveL x (IntKind.i64.wrap (1 + u0)) k).2, rows)) (show (v == 2) = true by assumption), b) ?_ ?_; (conv => whnf))
      | (refine JoinVC.mk ((fun _ => ((arriveL x (IntKind.i64.wrap (1 + u0)) k).1, (arriveL x (IntKind.i64.wrap (1 + u0)) k).2, rows)) (show (v == 3) = true by assumption), b) ?_ ?_; (conv => whnf))
      | (refine JoinVC.mk ((fun _ => ((beginL x (k, [], true)).1, (beginL x (k, [], true)).2, rows)) (show w2 = true by assumption), b) ?_ ?_; (conv => whnf))
      | (refine JoinVC.mk ((fun _ => ((beginL x (k, w, false)).1, (beginL x (k, w, false)).2, rows)) (show w2 = false by assumption), b) ?_ ?_; (conv => whnf))
      | (refine JoinVC.mk ((fun _ => ((dropL x (IntKind.i64.wrap (1 + u0)) k).1, (dropL x (IntKind.i64.wrap (1 + u0)) k).2, rows)) (show (v == 5) = true by assumption), b) ?_ ?_; (conv => whnf))
      | (refine JoinVC.mk ((fun _ => ((finishL x k).1.1, (applyF rows [(finishL x k).1.2]).2, (applyF rows [(finishL x k).1.2]).1)) (show ((finishL x k).2 == 0) = true by assumption), b) ?_ ?_; (conv => whnf))
      | (refine JoinVC.mk ((fun _ => ((finishL x k).1.1, (finishL x k).2, rows)) (show ((finishL x k).2 == 0) = false by assumption), b) ?_ ?_; (conv => whnf))
      | (refine JoinVC.mk ((fun _ => (crashL x (IntKind.i64.wrap (1 + u0)), 0, rows)) (show (v == 7) = true by assumption), b) ?_ ?_; (conv => whnf))
      | (refine JoinVC.mk ((x, 0, rows), b) ?_ ?_; (conv => whnf))
      | (refine bc_true (by assumption) ?_; (conv => whnf))
      | (refine bc_false (by assumption) ?_; (conv => whnf))
      | (refine bc_intro (fun _ => ?_) (fun _ => ?_) <;> (conv => whnf))
      | (refine need_intro ?_ ?_; (conv => whnf))
      | (refine wk_refl ?_; (conv => whnf))
      | (refine draw_intro (by kernel_rfl) ?_; (conv => whnf))
      | (refine ord_intro (by kernel_rfl) ?_; (conv => whnf))
    all_goals try dsimp only at *
    all_goals first
      | exact trivial
      | assumption
      | exact hxb
      | exact ⟨hxb, hl9⟩
      | exact DLe.refl _
      | exact ⟨by assumption, by omega, by omega⟩
      | exact ⟨⟨fun e => (fr_arrive hI e).mono (by omega), fun _ => rfl⟩, h6⟩
      | exact ⟨⟨fun e => (fr_begin hI e).mono (by omega), fun _ => rfl⟩, h6⟩
      | exact ⟨⟨fun e => (fr_drop hI e).mono (by omega), fun _ => rfl⟩, h6⟩
      | exact ⟨⟨fun e => (fr_finish hI (by omega) (eq_of_beq ‹((finishL x k).2 == 0) = true›)).2, fun e => absurd (fr_finish hI (by omega) (eq_of_beq ‹((finishL x k).2 == 0) = true›)).1 e⟩, h6⟩
      | exact ⟨⟨fun e => absurd e (by simpa using ‹((finishL x k).2 == 0) = false›), fun _ => rfl⟩, h6⟩
      | exact ⟨⟨fun _ => (fr_crash hI).mono (by omega), fun _ => rfl⟩, h6⟩
      | exact ⟨⟨fun _ => hI.mono (by omega), fun _ => rfl⟩, h6⟩
      | trace_state
  rintro ⟨⟨y, e, r⟩, b⟩ ⟨⟨hJ1, hJ2⟩, hb2⟩
  dsimp only at hJ1 hJ2 hb2
  conv => whnf
  repeat' first
    | (refine bc_true (by assumption) ?_; (conv => whnf))
    | (refine bc_false (by assumption) ?_; (conv => whnf))
    | (refine need_intro ?_ ?_; (conv => whnf))
    | (refine wk_refl ?_; (conv => whnf))
    | (refine draw_intro (by kernel_rfl) ?_; (conv => whnf))
    | (refine ord_intro (by kernel_rfl) ?_; (conv => whnf))
  refine join_auto [2, 3, 5, 6] [2000] (fun z : List LseT => [(4, .d (encL encLse 9 z))]) (fun z => []) (fun z => FrI (i + 1) z r) (fun he => ?_) (fun he => ?_) ?_
  · conv => whnf
    repeat' first
      | (refine JoinVC.mk y ?_ ?_; (conv => whnf))
      | (refine bc_true (by assumption) ?_; (conv => whnf))
      | (refine bc_false (by assumption) ?_; (conv => whnf))
      | (refine need_intro ?_ ?_; (conv => whnf))
      | (refine wk_refl ?_; (conv => whnf))
      | (refine draw_intro (by kernel_rfl) ?_; (conv => whnf))
      | (refine ord_intro (by kernel_rfl) ?_; (conv => whnf))
    all_goals first
      | exact DLe.refl _
      | exact trivial
      | exact hJ1 (eq_of_beq he)
      | trace_state
  · conv => whnf
    repeat' first
      | (refine JoinVC.mk x ?_ ?_; (conv => whnf))
      | (refine bc_true (by assumption) ?_; (conv => whnf))
      | (refine bc_false (by assumption) ?_; (conv => whnf))
      | (refine need_intro ?_ ?_; (conv => whnf))
      | (refine wk_refl ?_; (conv => whnf))
      | (refine draw_intro (by kernel_rfl) ?_; (conv => whnf))
      | (refine ord_intro (by kernel_rfl) ?_; (conv => whnf))
    all_goals first
      | exact DLe.refl _
      | exact trivial
      | (have e1 := hJ2 (by simpa using he); rw [e1]; exact hI.mono (by omega))
      | trace_state
  rintro z hz
  have hzb := hz.ls.b
  have hrb : r.length ≤ 1099511627776 := by have := hz.len; omega
  conv => whnf
  repeat' first
    | (refine bc_true (by assumption) ?_; (conv => whnf))
    | (refine bc_false (by assumption) ?_; (conv => whnf))
    | (refine need_intro ?_ ?_; (conv => whnf))
    | (refine wk_refl ?_; (conv => whnf))
    | (refine draw_intro (by kernel_rfl) ?_; (conv => whnf))
    | (refine ord_intro (by kernel_rfl) ?_; (conv => whnf))
  refine loop_auto [2, 3, 4, 5, 6] [2000] (fun j : Nat × Unit => [(14, .d (.int .i64 ((j.1 + 1 : Nat) : Int)))]) (fun _ => []) (fun j => j.1 ≤ 3) (fun j => 3 - j.1) (0, ()) ?_ (fun j hj => ?_) (by simp)
  · conv => whnf
    repeat' first
      | (refine bc_true (by assumption) ?_; (conv => whnf))
      | (refine bc_false (by assumption) ?_; (conv => whnf))
      | (refine bc_intro (fun _ => ?_) (fun _ => ?_) <;> (conv => whnf))
      | (refine need_intro ?_ ?_; (conv => whnf))
      | (refine wk_refl ?_; (conv => whnf))
      | (refine draw_intro (by kernel_rfl) ?_; (conv => whnf))
      | (refine ord_intro (by kernel_rfl) ?_; (conv => whnf))
    all_goals first | exact trivial | exact DLe.refl _ | exact DLe.of_eq rfl | trace_state
  obtain ⟨j, u⟩ := j
  simp only at hj
  have hsj : IntKind.i64.wrap (((j + 1 : Nat) : Int) + 1) = ((j + 1 + 1 : Nat) : Int) := wrap_succ (n := 100) (by omega) (by omega)
  conv => whnf
  repeat' first
    | (refine NextVC.mk (i + 1, (z, r), b) ?_ ?_ ?_; (conv => whnf))
    | (refine bc_true (by assumption) ?_; (conv => whnf))
    | (refine bc_false (by assumption) ?_; (conv => whnf))
    | (refine bc_intro (fun _ => ?_) (fun _ => ?_) <;> (conv => whnf))
    | (refine need_intro ?_ ?_; (conv => whnf))
    | (refine wk_refl ?_; (conv => whnf))
    | (refine draw_intro (by kernel_rfl) ?_; (conv => whnf))
    | (refine ord_intro (by kernel_rfl) ?_; (conv => whnf))
  all_goals try dsimp only at *
  all_goals try simp only [decide_eq_true_eq, decide_eq_false_iff_not] at *
  all_goals try first
    | exact trivial
    | assumption
    | omega
    | exact DLe.refl _
    | exact DLe.of_eq (by rw [hsi])
    | exact ⟨by omega, hz, by assumption⟩
  refine loop_auto [2, 3, 4, 5, 6, 14, 126] [2000] (fun m : Nat => [(125, .d (encL encS 1 [[97], [98], [99]])), (127, .d (.int .i64 m))]) (fun _ => []) (fun m => m ≤ 3) (fun m => 3 - m) 0 ?_ (fun m hm => ?_) (by omega)
  · conv => whnf
    repeat' first
      | (refine bc_true (by assumption) ?_; (conv => whnf))
      | (refine bc_false (by assumption) ?_; (conv => whnf))
      | (refine bc_intro (fun _ => ?_) (fun _ => ?_) <;> (conv => whnf))
      | (refine need_intro ?_ ?_; (conv => whnf))
      | (refine wk_refl ?_; (conv => whnf))
      | (refine draw_intro (by kernel_rfl) ?_; (conv => whnf))
      | (refine ord_intro (by kernel_rfl) ?_; (conv => whnf))
    all_goals first | exact ⟨rfl, rfl⟩ | exact ⟨rfl, rfl, rfl⟩ | exact DLe.refl _ | exact RowLe.refl _ _ _ | exact trivial | (refine dle_lit (by kernel_rfl) rfl (.all ?_); (repeat' first | exact trivial | exact rfl | apply And.intro); done) | (refine dle_lit (by kernel_rfl) rfl (.allD ?_); (repeat' first | exact trivial | exact DLe.refl _ | exact DLe.nil | exact DLe.rows rfl row_zero | apply And.intro); done) | trace_state
  have hsm : IntKind.i64.wrap ((m : Int) + 1) = ((m + 1 : Nat) : Int) := wrap_succ (n := 100) (by omega) (by omega)
  conv => whnf
  repeat' first
    | (refine call_if (lookupp_spec z _ _) (by first | exact .inl rfl | exact .inr ⟨rfl, rfl⟩) (need_intro ?_ ?_); (conv => whnf))
    | (refine call_if (getr_spec r _) (by first | exact .inl rfl | exact .inr ⟨rfl, rfl⟩) (need_intro ?_ ?_); (conv => whnf))
    | (refine NextVC.mk (j + 1, ()) ?_ ?_ ?_; (conv => whnf))
    | (refine NextVC.mk (m + 1) ?_ ?_ ?_; (conv => whnf))
    | (refine bc_true (by assumption) ?_; (conv => whnf))
    | (refine bc_false (by assumption) ?_; (conv => whnf))
    | (refine bc_intro (fun _ => ?_) (fun _ => ?_) <;> (conv => whnf))
    | (refine need_intro ?_ ?_; (conv => whnf))
    | (refine wk_refl ?_; (conv => whnf))
    | (refine draw_intro (by kernel_rfl) ?_; (conv => whnf))
    | (refine ord_intro (by kernel_rfl) ?_; (conv => whnf))
  all_goals try dsimp only at *
  all_goals try simp only [decide_eq_true_eq, decide_eq_false_iff_not, bne_iff_ne, bne_eq_false_iff_eq, ne_eq, Bool.not_eq_true', Bool.not_eq_false', beq_eq_false_iff_ne, beq_iff_eq] at *
  all_goals first
    | exact trivial
    | assumption
    | omega
    | exact DLe.refl _
    | exact DLe.of_eq (by rw [hsm])
    | exact DLe.of_eq (by rw [hsj])
    | exact ⟨by omega, by omega⟩
    | (exfalso
       have e := fr_look hz (by assumption)
       have e1 := congrArg Prod.fst e
       have e2 := congrArg Prod.snd e
       simp only at e1 e2
       first
         | exact absurd e2 (by assumption)
         | exact absurd e1 (by assumption))
    | trace_state
theorem ints_arg {R : Nat} {ds : List D} (h : wfT Try.prog R 12 33 ds) : ∃ xs : List Int, (∀ x ∈ xs, -9223372036854775808 ≤ x ∧ x < 9223372036854775808) ∧ LeL (match ds with | [x] => [.d x] | _ => []) [.d (encL encI 1 xs)] ∧ svOf Try.prog 33 ds = (match ds with | [x] => .d x | _ => .junk) := by
  obtain ⟨len, get, rfl, _, _, hel⟩ := h
  have c : Try.prog.cellsOf 3 = 1 := by kernel_rfl
  obtain ⟨xs, h1, h2, h3⟩ := list_of (α := Int) (enc := encI) (Q := fun x => -9223372036854775808 ≤ x ∧ x < 9223372036854775808) (k := 1) (fun _ => rfl) (len := len) (get := get) (fun i hi => by
    have := hel i hi
    rw [c] at this
    obtain ⟨n, e, hw⟩ := this
    exact ⟨n, wf_i64 hw, e⟩)
  refine ⟨xs, h2, ?_, rfl⟩
  show LeL [.d (.list len (Try.prog.cellsOf 3) get)] _
  rw [c]
  exact LeL.cons (LeS.d h3) LeL.nil
theorem inv1 {P : Program} {R : Nat} {a : Nat} {dss : List (List D)} (h : All2 (wfT P R 12) [a] dss) : ∃ x, dss = [x] ∧ wfT P R 12 a x := by
  cases h with
  | cons h1 h => cases h; exact ⟨_, rfl, h1⟩
theorem cacheFresh_all (dss : List (List D)) (h : All2 (wfT Try.prog reachBytes 12) [33] dss) : Sx.Spec Try.prog GG 4 (svs Try.prog [33] dss) [] (.d (.bool true)) [] := by
  obtain ⟨x, rfl, hx⟩ := inv1 h
  obtain ⟨l, h1, h2, h3⟩ := ints_arg hx
  obtain ⟨_, _, rfl, _⟩ := hx
  exact (cacheFresh_law l h1).arg h2
end Go.Proofs.Ytggehonedmbnjaa
