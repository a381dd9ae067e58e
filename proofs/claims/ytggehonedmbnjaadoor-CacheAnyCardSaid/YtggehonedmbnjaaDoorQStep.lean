/- Contracts of functions that the law reaches: YtggehonedmbnjaaDoorQStep. Written for this claim. -/
import Derived.Test.YtggehonedmbnjaaDoorQTap
namespace Go.Proofs.YtggehonedmbnjaaDoor
open Go Go.Sx Go.ChangeShapes Go.WideShapes Go.ChangeAt Go.RowKit
set_option linter.unusedVariables false
set_option linter.unusedSimpArgs false
set_option maxRecDepth 100000
/-! one drawn step; what is read -/
theorem lsB_nil : LsB [] := ⟨by simp, by simp, by simp⟩
theorem four_ex (k : List UInt8) {i : Nat} (h : i < 4) : ∃ q : List UInt8, [D.str [97], D.str [98], D.str [], D.str k].getD (i * Tryd.prog.cellsOf 9 + 0) default = .str q := by
  rw [show Tryd.prog.cellsOf 9 = 1 by kernel_rfl]
  match i, h with
  | 0, _ => exact ⟨_, rfl⟩
  | 1, _ => exact ⟨_, rfl⟩
  | 2, _ => exact ⟨_, rfl⟩
  | 3, _ => exact ⟨_, rfl⟩
theorem send_b {l : List LseT} {node : Int} {k v : List UInt8} {has : Bool} (h : LsB l) : LsB (sendL l node k v has).1 := by
  by_cases he : (sendL l node k v has).2 = 0
  · exact (StepL.send he).b h
  · have : (sendL l node k v has).1 = [] := by
      revert he; unfold sendL; simp only
      repeat' split
      all_goals simp
    rw [this]; exact lsB_nil
theorem arrive_b {l : List LseT} {node : Int} {k : List UInt8} (h : LsB l) : LsB (arriveL l node k).1 := by
  by_cases he : (arriveL l node k).2 = 0
  · exact (StepL.arrive he).b h
  · have : (arriveL l node k).1 = [] := by
      revert he; unfold arriveL; simp only
      repeat' split
      all_goals simp
    rw [this]; exact lsB_nil
theorem begin_b {l : List LseT} {w : Wr} (h : LsB l) : LsB (beginL l w).1 := by
  by_cases he : (beginL l w).2 = 0
  · exact (StepL.begin he).b h
  · have : (beginL l w).1 = [] := by
      revert he; unfold beginL; simp only
      repeat' split
      all_goals simp
    rw [this]; exact lsB_nil
theorem drop_b {l : List LseT} {node : Int} {k : List UInt8} (h : LsB l) : LsB (dropL l node k).1 := by
  by_cases he : (dropL l node k).2 = 0
  · exact (StepL.drop he).b h
  · have : (dropL l node k).1 = [] := by
      revert he; unfold dropL; simp only
      repeat' split
      all_goals simp
    rw [this]; exact lsB_nil
theorem finish_b {l : List LseT} {k : List UInt8} (h : LsB l) : LsB (finishL l k).1.1 := by
  by_cases he : (finishL l k).2 = 0
  · exact (StepL.finish he).b h
  · have : (finishL l k).1.1 = [] := by
      revert he; unfold finishL; simp only
      repeat' split
      all_goals simp
    rw [this]; exact lsB_nil
set_option maxHeartbeats 4000000 in
theorem step0 {l : List Int} {a : Nat} (x : List LseT) : (TapeOk l a ∧ LsB x ∧ x.length ≤ 900000) → ∃ y : List LseT × Nat, (StepL x y.1 ∧ TapeOk l y.2) ∧
    Sx.Spec Tryd.prog GG 8 [.ptr 1000 0, .d (encL encLse 9 x)] [(1000, tapeB l a)] (.tup [.d (encL encLse 9 y.1), .d (.bool true)]) [(1000, tapeB l y.2)] := by
  rintro ⟨hT, hb, hl⟩
  refine spec_some (E := EE) (fn := Tryd.f8) _ _ _ false eok (by kernel_rfl) (by kernel_rfl) Tryd.call8 (by kernel_rfl) (fun _ => by kernel_rfl) (fun _ => by kernel_rfl) ?_
  conv => whnf
  repeat' first
    | (refine call_some_if (pickQ_ex _ (fun _ => True)) (fun _ => by first | exact .inl rfl | exact .inr ⟨rfl, rfl⟩) (need_intro ?_ ?_); rintro ⟨node, b1⟩ ⟨q1, q2⟩; (conv => whnf))
    | (refine call_some_if (oddKey_ex _) (fun _ => by first | exact .inl rfl | exact .inr ⟨rfl, rfl⟩) (need_intro ?_ ?_); rintro ⟨k, b2⟩ ⟨h1, h2⟩; (conv => whnf))
    | (refine call_some_if (next_ex _ (n := 4)) (fun _ => by first | exact .inl rfl | exact .inr ⟨rfl, rfl⟩) (need_intro ?_ ?_); rintro ⟨u, b3⟩ ⟨⟨q3, q4⟩, h5⟩; (conv => whnf))
    | (refine call_some_if (next_ex _ (n := 9)) (fun _ => by first | exact .inl rfl | exact .inr ⟨rfl, rfl⟩) (need_intro ?_ ?_); rintro ⟨v, b4⟩ ⟨⟨q1, q2⟩, h6⟩; (conv => whnf))
    | (refine bc_true (by assumption) ?_; (conv => whnf))
    | (refine bc_false (by assumption) ?_; (conv => whnf))
    | (refine need_intro ?_ ?_; (conv => whnf))
    | (refine wk_refl ?_; (conv => whnf))
    | (refine draw_intro (by kernel_rfl) ?_; (conv => whnf))
    | (refine ord_intro (by kernel_rfl) ?_; (conv => whnf))
  all_goals try dsimp only at h6 q1 q2 h1 h2 q3 q4 h5
  all_goals try first
    | assumption
    | exact ⟨by assumption, by omega, by omega⟩
    | exact ⟨by assumption, ⟨by omega, by omega⟩, by repeat' first | exact trivial | exact ⟨_, rfl, trivial⟩ | apply And.intro⟩
    | (dsimp only at *; omega)
    | (dsimp only at *; exact ⟨by omega, by omega⟩)
  obtain ⟨q, hq⟩ := four_ex k (i := u.toNat) (by omega)
  refine join_auto [0, 1, 6, 8, 9, 10, 11, 12, 13, 28] [12, 13, 1000] (fun x : List UInt8 × Bool => [(7, .d (.str x.1)), (29, .d (.bool x.2))]) (fun _ => []) (fun x => (x.2 = true → v = 0 ∨ v = 1) ∧ (x.2 = false → v ≠ 0 ∧ v ≠ 1)) (fun _ => ?_) (fun _ => ?_) ?_
  · conv => whnf
    repeat' first
      | (refine JoinVC.mk (q, true) ?_ ?_; (conv => whnf))
      | (refine bc_true (by assumption) ?_; (conv => whnf))
      | (refine bc_false (by assumption) ?_; (conv => whnf))
      | (refine need_intro ?_ ?_; (conv => whnf))
      | (refine wk_refl ?_; (conv => whnf))
      | (refine draw_intro (by kernel_rfl) ?_; (conv => whnf))
      | (refine ord_intro (by kernel_rfl) ?_; (conv => whnf))
    all_goals first
      | exact trivial
      | exact DLe.refl _
      | exact DLe.of_eq hq
      | exact DLe.of_eq (congrArg D.bool (by assumption))
      | exact ⟨fun _ => .inl (by simpa using ‹(v == 0) = true›), fun h => by cases h⟩
      | trace_state
  · conv => whnf
    repeat' first
      | (refine JoinVC.mk (q, v == 1) ?_ ?_; (conv => whnf))
      | (refine bc_true (by assumption) ?_; (conv => whnf))
      | (refine bc_false (by assumption) ?_; (conv => whnf))
      | (refine need_intro ?_ ?_; (conv => whnf))
      | (refine wk_refl ?_; (conv => whnf))
      | (refine draw_intro (by kernel_rfl) ?_; (conv => whnf))
      | (refine ord_intro (by kernel_rfl) ?_; (conv => whnf))
    all_goals first
      | exact trivial
      | exact DLe.refl _
      | exact DLe.of_eq hq
      | exact ⟨fun h => .inr (by simpa using h), fun h => ⟨by simpa using ‹(v == 0) = false›, by simpa using h⟩⟩
      | trace_state
  rintro ⟨k, c⟩ ⟨hc1, hc2⟩
  simp only at hc1 hc2
  conv => whnf
  repeat' first
    | (refine call_some_if (next_ex _) (fun _ => by first | exact .inl rfl | exact .inr ⟨rfl, rfl⟩) (need_intro ?_ ?_); rintro ⟨v, b⟩ ⟨⟨q1, q2⟩, h6⟩; (conv => whnf))
    | (refine call_some_if (oddValue_ex _) (fun _ => by first | exact .inl rfl | exact .inr ⟨rfl, rfl⟩) (need_intro ?_ ?_); rintro ⟨v, b⟩ ⟨h1, h2⟩; (conv => whnf))
    | (refine call_some_if (bool_ex _) (fun _ => by first | exact .inl rfl | exact .inr ⟨rfl, rfl⟩) (need_intro ?_ ?_); rintro ⟨v, b⟩ h1; (conv => whnf))
    | (refine call_some_if (write_ex _) (fun _ => by first | exact .inl rfl | exact .inr ⟨rfl, rfl⟩) (need_intro ?_ ?_); rintro ⟨⟨wk, wv, wd⟩, b⟩ ⟨⟨h7, h8⟩, h6⟩; (conv => whnf))
    | (refine call_if (sendp_spec x _ _ _ _) (by first | exact .inl rfl | exact .inr ⟨rfl, rfl⟩) (need_intro ?_ ?_); (conv => whnf))
    | (refine call_if (sendr_spec x _ _ _ _) (by first | exact .inl rfl | exact .inr ⟨rfl, rfl⟩) (need_intro ?_ ?_); (conv => whnf))
    | (refine call_if (arrivep_spec x _ _) (by first | exact .inl rfl | exact .inr ⟨rfl, rfl⟩) (need_intro ?_ ?_); (conv => whnf))
    | (refine call_if (arriver_spec x _ _) (by first | exact .inl rfl | exact .inr ⟨rfl, rfl⟩) (need_intro ?_ ?_); (conv => whnf))
    | (refine call_if (beginp_spec x _ _ _) (by first | exact .inl rfl | exact .inr ⟨rfl, rfl⟩) (need_intro ?_ ?_); (conv => whnf))
    | (refine call_if (beginr_spec x _ _ _) (by first | exact .inl rfl | exact .inr ⟨rfl, rfl⟩) (need_intro ?_ ?_); (conv => whnf))
    | (refine call_if (dropp_spec x _ _) (by first | exact .inl rfl | exact .inr ⟨rfl, rfl⟩) (need_intro ?_ ?_); (conv => whnf))
    | (refine call_if (dropr_spec x _ _) (by first | exact .inl rfl | exact .inr ⟨rfl, rfl⟩) (need_intro ?_ ?_); (conv => whnf))
    | (refine call_if (finishp_spec x _) (by first | exact .inl rfl | exact .inr ⟨rfl, rfl⟩) (need_intro ?_ ?_); (conv => whnf))
    | (refine call_if (finishr_spec x _) (by first | exact .inl rfl | exact .inr ⟨rfl, rfl⟩) (need_intro ?_ ?_); (conv => whnf))
    | (refine call_if (crashp_spec x _) (by first | exact .inl rfl | exact .inr ⟨rfl, rfl⟩) (need_intro ?_ ?_); (conv => whnf))
    | (refine call_if (crashr_spec x _) (by first | exact .inl rfl | exact .inr ⟨rfl, rfl⟩) (need_intro ?_ ?_); (conv => whnf))
    | (refine call_if (sameL_refl _) (by first | exact .inl rfl | exact .inr ⟨rfl, rfl⟩) (need_intro ?_ ?_); (conv => whnf))
    | (refine bc_true (by assumption) ?_; (conv => whnf))
    | (refine bc_false (by assumption) ?_; (conv => whnf))
    | (refine bc_intro (fun _ => ?_) (fun _ => ?_) <;> (conv => whnf))
    | (refine need_intro ?_ ?_; (conv => whnf))
    | (refine wk_refl ?_; (conv => whnf))
    | (refine draw_intro (by kernel_rfl) ?_; (conv => whnf))
    | (refine ord_intro (by kernel_rfl) ?_; (conv => whnf))
  all_goals try dsimp only at *
  all_goals try simp only [beq_self_eq_true, Bool.not_true, Bool.not_false, bne_iff_ne, bne_eq_false_iff_eq, beq_iff_eq, beq_eq_false_iff_ne, ne_eq, Decidable.not_not, Bool.not_eq_true', Bool.not_eq_false', Bool.true_eq_false, Bool.false_eq_true] at *
  all_goals first
    | assumption
    | contradiction
    | omega
    | exact ⟨by assumption, by omega, by omega⟩
    | (exfalso; have := hc2 (by assumption); omega)
    | exact ⟨hb, hl⟩
    | exact send_b hb
    | exact arrive_b hb
    | exact begin_b hb
    | exact drop_b hb
    | exact finish_b hb
    | exact crash_b hb
    | exact ⟨(_, _), ⟨.stay, by assumption⟩, LeS.refl _, LeL.refl _, trivial⟩
    | exact ⟨(_, _), ⟨.send (by assumption), by assumption⟩, LeS.refl _, LeL.refl _, trivial⟩
    | exact ⟨(_, _), ⟨.arrive (by assumption), by assumption⟩, LeS.refl _, LeL.refl _, trivial⟩
    | exact ⟨(_, _), ⟨.begin (by assumption), by assumption⟩, LeS.refl _, LeL.refl _, trivial⟩
    | exact ⟨(_, _), ⟨.drop (by assumption), by assumption⟩, LeS.refl _, LeL.refl _, trivial⟩
    | exact ⟨(_, _), ⟨.finish (by assumption), by assumption⟩, LeS.refl _, LeL.refl _, trivial⟩
    | exact ⟨(_, _), ⟨.crash, by assumption⟩, LeS.refl _, LeL.refl _, trivial⟩
    | trace_state
theorem step_ex (m : Nat) {l : List Int} {a : Nat} (x : List LseT) : (TapeOk l a ∧ LsB x ∧ x.length ≤ 900000) → ∃ y : List LseT × Nat, (StepL x y.1 ∧ TapeOk l y.2) ∧
    Sx.Spec Tryd.prog GG 8 [.ptr m 0, .d (encL encLse 9 x)] [(m, tapeB l a)] (.tup [.d (encL encLse 9 y.1), .d (.bool true)]) [(m, tapeB l y.2)] := fun h => by
  obtain ⟨y, hy, hs⟩ := step0 x h
  exact ⟨y, hy, hs.at m⟩
end Go.Proofs.YtggehonedmbnjaaDoor
