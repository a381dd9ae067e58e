/- Contracts of functions that the law reaches: YtfjiffbacallhaaDoorReplL. Written for this claim. -/
import Derived.Test.YtfjiffbacallhaaDoorLay
import Derived.Test.YtfjiffbacallhaaDoorRep2
import Derived.Test.YtfjiffbacallhaaDoorSl7
namespace Go.Proofs.YtfjiffbacallhaaDoor
open Go Go.Sx Go.ChangeShapes Go.WideShapes Go.ChangeAt Go.WideMaps Go.WideElems Go.RowKit
set_option linter.unusedVariables false
set_option linter.unusedSimpArgs false
set_option maxRecDepth 100000
set_option maxHeartbeats 4000000 in
theorem tableReplaces_law (l : List Int) (raw : List Row) (hl : ∀ x ∈ l, -9223372036854775808 ≤ x ∧ x < 9223372036854775808) : Sx.Spec Tryd.prog GG 3 [.d (encL encI 1 l), .d (encL encRow 2 raw)] [] (.d (.bool true)) [] := by
  refine spec_intro (E := EE) (fn := Tryd.f3) eok (by kernel_rfl) (by kernel_rfl) Tryd.call3 (by kernel_rfl) (by kernel_rfl) ?_
  conv => whnf
  repeat' first
    | (refine call_some (new_ex 2000 hl) (fun _ => by first | exact .inl rfl | exact .inr ⟨rfl, rfl⟩) ?_; rintro ⟨tl, ta⟩ hT; (conv => whnf))
    | (refine bc_true (by assumption) ?_; (conv => whnf))
    | (refine bc_false (by assumption) ?_; (conv => whnf))
    | (refine need_intro ?_ ?_; (conv => whnf))
    | (refine wk_refl ?_; (conv => whnf))
    | (refine draw_intro (by kernel_rfl) ?_; (conv => whnf))
    | (refine ord_intro (by kernel_rfl) ?_; (conv => whnf))
  refine bc_intro (fun h60 => ?_) (fun h60 => ?_)
  · conv => whnf
    repeat' first
      | (refine call_intro (awake_spec) ?_ (by first | exact .inl rfl | exact .inr ⟨rfl, rfl⟩); (conv => whnf))
      | (refine bc_true (by assumption) ?_; (conv => whnf))
      | (refine bc_false (by assumption) ?_; (conv => whnf))
      | (refine bc_intro (fun _ => ?_) (fun _ => ?_) <;> (conv => whnf))
      | (refine need_intro ?_ ?_; (conv => whnf))
      | (refine wk_refl ?_; (conv => whnf))
      | (refine draw_intro (by kernel_rfl) ?_; (conv => whnf))
      | (refine ord_intro (by kernel_rfl) ?_; (conv => whnf))
    all_goals exact ⟨LeS.refl _, trivial⟩
  simp only [decide_eq_false_iff_not] at h60
  conv => whnf
  repeat' first
    | (refine call_some (new_ex 2000 hl) (fun _ => by first | exact .inl rfl | exact .inr ⟨rfl, rfl⟩) ?_; rintro ⟨tl, ta⟩ hT; (conv => whnf))
    | (refine call_some_if (rows_ex _) (fun _ => by first | exact .inl rfl | exact .inr ⟨rfl, rfl⟩) (need_intro ?_ ?_); rintro ⟨x, b⟩ ⟨⟨h1, h2⟩, h3⟩; (conv => whnf))
    | (refine call_some_if (proper_ex _) (fun _ => by first | exact .inl rfl | exact .inr ⟨rfl, rfl⟩) (need_intro ?_ ?_); rintro ⟨lk, lt, hk, ht, b⟩ ⟨⟨g1, g2, g3⟩, h3⟩; (conv => whnf))
    | (refine call_some_if (rowsIn_ex _) (fun _ => by first | exact .inl rfl | exact .inr ⟨rfl, rfl⟩) (need_intro ?_ ?_); rintro ⟨i0, b⟩ ⟨g4, h3⟩; (conv => whnf))
    | (refine call_some_if (bool_ex _) (fun _ => by first | exact .inl rfl | exact .inr ⟨rfl, rfl⟩) (need_intro ?_ ?_); rintro ⟨v, b⟩ h3; (conv => whnf))
    | (refine bc_true (by assumption) ?_; (conv => whnf))
    | (refine bc_false (by assumption) ?_; (conv => whnf))
    | (refine need_intro ?_ ?_; (conv => whnf))
    | (refine wk_refl ?_; (conv => whnf))
    | (refine draw_intro (by kernel_rfl) ?_; (conv => whnf))
    | (refine ord_intro (by kernel_rfl) ?_; (conv => whnf))
  all_goals try dsimp only at *
  all_goals try first
    | assumption
    | exact ⟨by assumption, by omega, by omega⟩
  have g5 := g4.len
  refine join_auto [1, 5, 6, 7] [7] (fun z : List Row × Nat => [(8, .d (encL encRow 2 z.1))]) (fun z => [(2000, tapeB tl z.2)]) (fun z => z.1.length ≤ 5 ∧ TapeOk tl z.2) (fun _ => ?_) (fun _ => ?_) ?_
  · conv => whnf
    repeat' first
      | (refine call_some_if (oddRows_ex _) (fun _ => by first | exact .inl rfl | exact .inr ⟨rfl, rfl⟩) (need_intro ?_ ?_); rintro ⟨y, c⟩ ⟨h4, h5⟩; (conv => whnf))
      | (refine JoinVC.mk (y, c) ?_ ?_; (conv => whnf))
      | (refine bc_true (by assumption) ?_; (conv => whnf))
      | (refine bc_false (by assumption) ?_; (conv => whnf))
      | (refine need_intro ?_ ?_; (conv => whnf))
      | (refine wk_refl ?_; (conv => whnf))
      | (refine draw_intro (by kernel_rfl) ?_; (conv => whnf))
      | (refine ord_intro (by kernel_rfl) ?_; (conv => whnf))
    all_goals try dsimp only at *
    all_goals first
      | exact trivial
      | assumption
      | omega
      | exact DLe.refl _
      | exact RowLe.refl _ _ _
      | exact ⟨rfl, rfl⟩
      | exact ⟨by assumption, by omega⟩
      | exact ⟨by omega, by assumption⟩
      | trace_state
  · conv => whnf
    repeat' first
      | (refine JoinVC.mk (i0, b) ?_ ?_; (conv => whnf))
      | (refine bc_true (by assumption) ?_; (conv => whnf))
      | (refine bc_false (by assumption) ?_; (conv => whnf))
      | (refine need_intro ?_ ?_; (conv => whnf))
      | (refine wk_refl ?_; (conv => whnf))
      | (refine draw_intro (by kernel_rfl) ?_; (conv => whnf))
      | (refine ord_intro (by kernel_rfl) ?_; (conv => whnf))
    all_goals try dsimp only at *
    all_goals first
      | exact trivial
      | assumption
      | omega
      | exact DLe.refl _
      | exact RowLe.refl _ _ _
      | exact ⟨rfl, rfl⟩
      | exact ⟨by assumption, by omega⟩
      | exact ⟨by omega, by assumption⟩
      | trace_state
  rintro ⟨i1, b1⟩ ⟨hi1, hb1⟩
  dsimp only at hi1 hb1
  conv => whnf
  repeat' first
    | (refine call_some_if (bool_ex _) (fun _ => by first | exact .inl rfl | exact .inr ⟨rfl, rfl⟩) (need_intro ?_ ?_); rintro ⟨v, b⟩ h3; (conv => whnf))
    | (refine bc_true (by assumption) ?_; (conv => whnf))
    | (refine bc_false (by assumption) ?_; (conv => whnf))
    | (refine need_intro ?_ ?_; (conv => whnf))
    | (refine wk_refl ?_; (conv => whnf))
    | (refine draw_intro (by kernel_rfl) ?_; (conv => whnf))
    | (refine ord_intro (by kernel_rfl) ?_; (conv => whnf))
  all_goals try dsimp only at *
  all_goals try first
    | assumption
    | exact ⟨by assumption, by omega, by omega⟩
  refine join_auto [1, 5, 7, 8] [7] (fun z : List Row × Nat => [(6, .d (encL encRow 2 z.1))]) (fun z => [(2000, tapeB tl z.2)]) (fun z => z.1.length ≤ 7 ∧ TapeOk tl z.2) (fun _ => ?_) (fun _ => ?_) ?_
  · conv => whnf
    repeat' first
      | (refine call_some_if (oddRows_ex _) (fun _ => by first | exact .inl rfl | exact .inr ⟨rfl, rfl⟩) (need_intro ?_ ?_); rintro ⟨y, c⟩ ⟨h4, h5⟩; (conv => whnf))
      | (refine JoinVC.mk (y, c) ?_ ?_; (conv => whnf))
      | (refine bc_true (by assumption) ?_; (conv => whnf))
      | (refine bc_false (by assumption) ?_; (conv => whnf))
      | (refine need_intro ?_ ?_; (conv => whnf))
      | (refine wk_refl ?_; (conv => whnf))
      | (refine draw_intro (by kernel_rfl) ?_; (conv => whnf))
      | (refine ord_intro (by kernel_rfl) ?_; (conv => whnf))
    all_goals try dsimp only at *
    all_goals first
      | exact trivial
      | assumption
      | omega
      | exact DLe.refl _
      | exact RowLe.refl _ _ _
      | exact ⟨rfl, rfl⟩
      | exact ⟨by assumption, by omega⟩
      | exact ⟨by omega, by assumption⟩
      | trace_state
  · conv => whnf
    repeat' first
      | (refine JoinVC.mk (x, b) ?_ ?_; (conv => whnf))
      | (refine bc_true (by assumption) ?_; (conv => whnf))
      | (refine bc_false (by assumption) ?_; (conv => whnf))
      | (refine need_intro ?_ ?_; (conv => whnf))
      | (refine wk_refl ?_; (conv => whnf))
      | (refine draw_intro (by kernel_rfl) ?_; (conv => whnf))
      | (refine ord_intro (by kernel_rfl) ?_; (conv => whnf))
    all_goals try dsimp only at *
    all_goals first
      | exact trivial
      | assumption
      | omega
      | exact DLe.refl _
      | exact RowLe.refl _ _ _
      | exact ⟨rfl, rfl⟩
      | exact ⟨by assumption, by omega⟩
      | exact ⟨by omega, by assumption⟩
      | trace_state
  rintro ⟨x1, b2⟩ ⟨hx1, hb2⟩
  dsimp only at hx1 hb2
  conv => whnf
  repeat' first
    | (refine call_some_if (range_ex _) (fun _ => by first | exact .inl rfl | exact .inr ⟨rfl, rfl⟩) (need_intro ?_ ?_); rintro ⟨lk2, lt2, hk2, ht2, b⟩ ⟨g6, g7, h3⟩; (conv => whnf))
    | (refine bc_true (by assumption) ?_; (conv => whnf))
    | (refine bc_false (by assumption) ?_; (conv => whnf))
    | (refine need_intro ?_ ?_; (conv => whnf))
    | (refine wk_refl ?_; (conv => whnf))
    | (refine draw_intro (by kernel_rfl) ?_; (conv => whnf))
    | (refine ord_intro (by kernel_rfl) ?_; (conv => whnf))
  all_goals try dsimp only at *
  all_goals try first
    | assumption
  refine loop_auto [1, 6, 8, 46] [] (fun j : Nat => [(45, .d (encL encRng 4 [(lk, lt, hk, ht), (lk2, lt2, hk2, ht2)])), (47, .d (.int .i64 j))]) (fun j => []) (fun j => j ≤ 2) (fun j => 2 - j) 0 ?_ (fun j hj => ?_) (by omega)
  · conv => whnf
    repeat' first
      | (refine bc_true (by assumption) ?_; (conv => whnf))
      | (refine bc_false (by assumption) ?_; (conv => whnf))
      | (refine bc_intro (fun _ => ?_) (fun _ => ?_) <;> (conv => whnf))
      | (refine need_intro ?_ ?_; (conv => whnf))
      | (refine wk_refl ?_; (conv => whnf))
      | (refine draw_intro (by kernel_rfl) ?_; (conv => whnf))
      | (refine ord_intro (by kernel_rfl) ?_; (conv => whnf))
    all_goals first | exact ⟨rfl, rfl⟩ | exact ⟨rfl, rfl, rfl⟩ | exact DLe.refl _ | exact RowLe.refl _ _ _ | exact trivial | (refine dle_lit (by kernel_rfl) rfl (.all ?_); (repeat' first | exact trivial | exact rfl | apply And.intro); done) | (refine dle_lit (by kernel_rfl) rfl (.allD ?_); (repeat' first | exact trivial | exact DLe.refl _ | exact DLe.nil | exact DLe.rows rfl row_zero | apply And.intro); done) | trace_state
  have hs : IntKind.i64.wrap ((j : Int) + 1) = ((j + 1 : Nat) : Int) := wrap_succ (n := 10) (by omega) (by omega)
  have hr := fun (t rows : List Row) lk lt hk ht => rep_len (t := t) (rows := rows) (lk := lk) (lt := lt) (hk := hk) (ht := ht)
  conv => whnf
  repeat' first
    | (refine call_intro (replacep_spec sliceAt x1 i1 _ _ _ _) ?_ (by first | exact .inl rfl | exact .inr ⟨rfl, rfl⟩); (conv => whnf))
    | (refine call_if (replacer_spec x1 i1 _ _ _ _) (by first | exact .inl rfl | exact .inr ⟨rfl, rfl⟩) (need_intro ?_ ?_); (conv => whnf))
    | (refine call_intro (replacep_spec sliceAt x1 raw _ _ _ _) ?_ (by first | exact .inl rfl | exact .inr ⟨rfl, rfl⟩); (conv => whnf))
    | (refine call_if (replacer_spec x1 raw _ _ _ _) (by first | exact .inl rfl | exact .inr ⟨rfl, rfl⟩) (need_intro ?_ ?_); (conv => whnf))
    | (refine call_if (sameR_spec _ _) (by first | exact .inl rfl | exact .inr ⟨rfl, rfl⟩) (need_intro ?_ ?_); (conv => whnf))
    | (refine call_intro (awake_spec) ?_ (by first | exact .inl rfl | exact .inr ⟨rfl, rfl⟩); (conv => whnf))
    | (refine NextVC.mk (j + 1) ?_ ?_ ?_; (conv => whnf))
    | (refine bc_true (by assumption) ?_; (conv => whnf))
    | (refine bc_false (by assumption) ?_; (conv => whnf))
    | (refine bc_intro (fun _ => ?_) (fun _ => ?_) <;> (conv => whnf))
    | (refine need_intro ?_ ?_; (conv => whnf))
    | (refine wk_refl ?_; (conv => whnf))
    | (refine draw_intro (by kernel_rfl) ?_; (conv => whnf))
    | (refine ord_intro (by kernel_rfl) ?_; (conv => whnf))
  all_goals try simp only [decide_eq_true_eq, decide_eq_false_iff_not] at *
  all_goals first
    | exact trivial
    | omega
    | exact DLe.refl _
    | exact RowLe.refl _ _ _
    | exact DLe.of_eq (by rw [hs])
    | exact ⟨by omega, by omega⟩
    | exact ⟨Nat.le_trans rep_len (by omega), Nat.le_trans rep_len (by omega)⟩
    | exact ⟨LeS.refl _, trivial⟩
    | (exfalso; simp only [same_refl] at *; simp at *; done)
    | (exfalso; simp at *; done)
    | trace_state
theorem tableReplaces_all (dss : List (List D)) (h : All2 (wfT Tryd.prog reachBytes 12) [22, 23] dss) : Sx.Spec Tryd.prog GG 3 (svs Tryd.prog [22, 23] dss) [] (.d (.bool true)) [] := by
  obtain ⟨x, y, rfl, hx, hy⟩ := inv2 h
  obtain ⟨l, h1, h2, h3⟩ := ints_arg hx
  obtain ⟨raw, h4, h5, h6, h7⟩ := rows_arg hy
  obtain ⟨_, _, rfl, _⟩ := hx
  obtain ⟨_, _, rfl, _⟩ := hy
  exact (tableReplaces_law l raw h1).arg (leL_app h2 (leL_app h6 LeL.nil))
end Go.Proofs.YtfjiffbacallhaaDoor
