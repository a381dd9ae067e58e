/- Contracts of functions that the law reaches: YtegbenagmciegaaGreatDoorLawT. Written for this claim. -/
import Derived.Test.YtegbenagmciegaaGreatDoorTko4
import Derived.Test.YtegbenagmciegaaGreatDoorLawG
import Derived.Test.YtegbenagmciegaaGreatDoorSxGrp
namespace Go.Proofs.YtegbenagmciegaaGreatDoor
open Go Go.Sx Go.ChangeShapes Go.WideShapes Go.ChangeAt Go.WideMaps Go.WideElems Go.RowKit
set_option linter.unusedVariables false
set_option linter.unusedSimpArgs false
set_option maxRecDepth 100000
/-! chapter 26: all functions agree; one drawn event -/
theorem same26_spec (g : GrpT) (e : Int) : GrpB 1000 g → Sx.Spec Tryz.prog GG 107 [.agg (grpL g), .d (.int .i64 e), .agg (grpL g), .d (.int .i64 e)] [] (.d (.bool true)) [] := by
  intro h
  refine spec_intro (E := EE) (fn := Tryz.f107) eok (by kernel_rfl) (by kernel_rfl) Tryz.call107 (by kernel_rfl) (by kernel_rfl) ?_
  have he : (e == e) = true := by simp
  conv => whnf
  repeat' first
    | (refine call_intro (sameG_spec g h) ?_ (by first | exact .inl rfl | exact .inr ⟨rfl, rfl⟩); (conv => whnf))
    | (refine bc_true (by assumption) ?_; (conv => whnf))
    | (refine bc_false (by assumption) ?_; (conv => whnf))
    | (refine bc_intro (fun _ => ?_) (fun _ => ?_) <;> (conv => whnf))
    | (refine need_intro ?_ ?_; (conv => whnf))
    | (refine wk_refl ?_; (conv => whnf))
    | (refine draw_intro (by kernel_rfl) ?_; (conv => whnf))
    | (refine ord_intro (by kernel_rfl) ?_; (conv => whnf))
  all_goals first
    | exact ⟨LeS.refl _, trivial⟩
    | (exfalso; simp at *; done)
    | trace_state
theorem sameWr_self (l : List Wr) : l.length ≤ 1000000 → Sx.Spec Tryz.prog GG 42 [.d (encL encWr 3 l), .d (encL encWr 3 l)] [] (.d (.bool true)) [] := fun h => by
  have := sameWr_spec l l ⟨by omega, by omega⟩
  rw [same_refl] at this
  exact this
set_option maxHeartbeats 4000000 in
theorem agree_spec (g : GrpT) (c : CopyT) (l : List (Int × Int)) : (GrpB 1000 g ∧ Small c ∧ l.length ≤ 1000000) → Sx.Spec Tryz.prog GG 44 [.agg (grpL g), .agg (copyL c), .d (encL encStp 2 l)] [] (.d (.bool true)) [] := by
  rintro ⟨h, hs, hl⟩
  have hln := h.len
  have s1 := same26_spec (changeG g c l).1 (changeG g c l).2 (change_b h hs)
  have s2 := same26_spec (takeG g).1 (takeG g).2 (take_b h)
  have s3 := same26_spec (finishG g).1.1 (finishG g).2 (finish_b h)
  have s4 := same26_spec (recoverG g).1.1 (recoverG g).2 (recover_b h)
  have s5 := sameWr_self (finishG g).1.2 (finish_pend h)
  have s6 := sameWr_self (recoverG g).1.2 (recover_pend h)
  have e1 : ((candG g).1 == (candG g).1) = true := by simp
  have e2 : ((candG g).2 == (candG g).2) = true := by simp
  have e3 : (readyG g == readyG g) = true := by simp
  refine spec_intro (E := EE) (fn := Tryz.f44) eok (by kernel_rfl) (by kernel_rfl) Tryz.call44 (by kernel_rfl) (by kernel_rfl) ?_
  conv => whnf
  repeat' first
    | (refine call_intro (changep_spec g c l ⟨h, hs, hl⟩) ?_ (by first | exact .inl rfl | exact .inr ⟨rfl, rfl⟩); (conv => whnf))
    | (refine call_intro (changer_spec g c l ⟨h, hs, hl⟩) ?_ (by first | exact .inl rfl | exact .inr ⟨rfl, rfl⟩); (conv => whnf))
    | (refine call_intro (candp_spec g hln) ?_ (by first | exact .inl rfl | exact .inr ⟨rfl, rfl⟩); (conv => whnf))
    | (refine call_intro (candr_spec g hln) ?_ (by first | exact .inl rfl | exact .inr ⟨rfl, rfl⟩); (conv => whnf))
    | (refine call_intro (takep_spec g h) ?_ (by first | exact .inl rfl | exact .inr ⟨rfl, rfl⟩); (conv => whnf))
    | (refine call_intro (taker_spec g h) ?_ (by first | exact .inl rfl | exact .inr ⟨rfl, rfl⟩); (conv => whnf))
    | (refine call_intro (finishp_spec g h) ?_ (by first | exact .inl rfl | exact .inr ⟨rfl, rfl⟩); (conv => whnf))
    | (refine call_intro (finishr_spec g h) ?_ (by first | exact .inl rfl | exact .inr ⟨rfl, rfl⟩); (conv => whnf))
    | (refine call_intro (recoverp_spec g h) ?_ (by first | exact .inl rfl | exact .inr ⟨rfl, rfl⟩); (conv => whnf))
    | (refine call_intro (recoverr_spec g h) ?_ (by first | exact .inl rfl | exact .inr ⟨rfl, rfl⟩); (conv => whnf))
    | (refine call_intro (s1) ?_ (by first | exact .inl rfl | exact .inr ⟨rfl, rfl⟩); (conv => whnf))
    | (refine call_intro (s2) ?_ (by first | exact .inl rfl | exact .inr ⟨rfl, rfl⟩); (conv => whnf))
    | (refine call_intro (readyp_spec g h) ?_ (by first | exact .inl rfl | exact .inr ⟨rfl, rfl⟩); (conv => whnf))
    | (refine call_intro (readyr_spec g h) ?_ (by first | exact .inl rfl | exact .inr ⟨rfl, rfl⟩); (conv => whnf))
    | (refine call_intro (s3) ?_ (by first | exact .inl rfl | exact .inr ⟨rfl, rfl⟩); (conv => whnf))
    | (refine call_intro (s5) ?_ (by first | exact .inl rfl | exact .inr ⟨rfl, rfl⟩); (conv => whnf))
    | (refine call_intro (s4) ?_ (by first | exact .inl rfl | exact .inr ⟨rfl, rfl⟩); (conv => whnf))
    | (refine call_intro (s6) ?_ (by first | exact .inl rfl | exact .inr ⟨rfl, rfl⟩); (conv => whnf))
    | (refine bc_true (by assumption) ?_; (conv => whnf))
    | (refine bc_false (by assumption) ?_; (conv => whnf))
    | (refine bc_intro (fun _ => ?_) (fun _ => ?_) <;> (conv => whnf))
    | (refine need_intro ?_ ?_; (conv => whnf))
    | (refine wk_refl ?_; (conv => whnf))
    | (refine draw_intro (by kernel_rfl) ?_; (conv => whnf))
    | (refine ord_intro (by kernel_rfl) ?_; (conv => whnf))
  all_goals first
    | exact ⟨LeS.refl _, trivial⟩
    | (exfalso; simp at *; done)
    | trace_state
theorem agree_nil (g : GrpT) (c : CopyT) : (GrpB 1000 g ∧ Small c) → Sx.Spec Tryz.prog GG 44 [.agg (grpL g), .agg (copyL c), .d (.val (.slice none 0 0))] [] (.d (.bool true)) [] := fun ⟨h, hs⟩ =>
  (agree_spec g c [] ⟨h, hs, by simp⟩).arg (LeL.cons (LeS.refl _) (LeL.cons (LeS.refl _) (LeL.cons (les_nil rfl) LeL.nil)))
theorem changer_nil (g : GrpT) (c : CopyT) : (GrpB 1000 g ∧ Small c) → Sx.Spec Tryz.prog GG 91 [.agg (grpL g), .agg (copyL c), .d (.val (.slice none 0 0))] [] (.tup [.agg (grpL (changeG g c []).1), .d (.int .i64 (changeG g c []).2)]) [] := fun ⟨h, hs⟩ =>
  (changer_spec g c [] ⟨h, hs, by simp⟩).arg (LeL.cons (LeS.refl _) (LeL.cons (LeS.refl _) (LeL.cons (les_nil rfl) LeL.nil)))
theorem of_neq0 {n : Int} (h : (n != 0) = false) : n = 0 := by simpa using h
set_option maxHeartbeats 4000000 in
theorem event0 {l : List Int} {a : Nat} (r : Rng) (n : Nat) (g : GrpT) : (TapeOk l a ∧ EvM r n g.mem ∧ emptyR r.1 r.2.1 r.2.2.1 r.2.2.2 = false) → ∃ x : GrpT × Nat, (EvM r (n + 1) x.1.mem ∧ TapeOk l x.2) ∧
    Sx.Spec Tryz.prog GG 38 [.ptr 1000 0, .agg (grpL g)] [(1000, tapeB l a)] (.agg (grpL x.1)) [(1000, tapeB l x.2)] := by
  rintro ⟨hT, hE, he⟩
  have hb := hE.b
  have hn1 := hE.n1
  have hlen := hb.len
  have hpos : decide (((g.mem.length : Nat) : Int) > 0) = true := decide_eq_true (by omega)
  have hrng := (hE.at (i := 0) (by omega)).rng
  have hem : emptyR (own0 g).copy.lk (own0 g).copy.lt (own0 g).copy.hk (own0 g).copy.ht = false := by rw [← hrng] at he; exact he
  have hsm : Small (own0 g).copy := mem_small hb 0
  refine spec_some (E := EE) (fn := Tryz.f38) _ _ _ false eok (by kernel_rfl) (by kernel_rfl) Tryz.call38 (by kernel_rfl) (fun _ => by kernel_rfl) (fun _ => by kernel_rfl) ?_
  conv => whnf
  repeat' first
    | (refine call_some_if (next_ex _) (fun _ => by first | exact .inl rfl | exact .inr ⟨rfl, rfl⟩) (need_intro ?_ ?_); rintro ⟨v, b⟩ ⟨⟨q1, q2⟩, h6⟩; (conv => whnf))
    | (refine call_some_if (writeIn_ex _) (fun _ => by first | exact .inl rfl | exact .inr ⟨rfl, rfl⟩) (need_intro ?_ ?_); rintro ⟨⟨wk, wv, wd⟩, b⟩ ⟨⟨h7, h8⟩, h6⟩; (conv => whnf))
    | (refine call_some_if (member_ex _ g) (fun _ => by first | exact .inl rfl | exact .inr ⟨rfl, rfl⟩) (need_intro ?_ ?_); rintro ⟨id, b⟩ h6; (conv => whnf))
    | (refine call_if (propr_spec g (_, _, _)) (by first | exact .inl rfl | exact .inr ⟨rfl, rfl⟩) (need_intro ?_ ?_); (conv => whnf))
    | (refine call_if (replr_spec g _) (by first | exact .inl rfl | exact .inr ⟨rfl, rfl⟩) (need_intro ?_ ?_); (conv => whnf))
    | (refine call_if (commr_spec g) (by first | exact .inl rfl | exact .inr ⟨rfl, rfl⟩) (need_intro ?_ ?_); (conv => whnf))
    | (refine call_if (crashr_spec g _) (by first | exact .inl rfl | exact .inr ⟨rfl, rfl⟩) (need_intro ?_ ?_); (conv => whnf))
    | (refine call_if (taker_spec g) (by first | exact .inl rfl | exact .inr ⟨rfl, rfl⟩) (need_intro ?_ ?_); (conv => whnf))
    | (refine call_if (finishr_spec g) (by first | exact .inl rfl | exact .inr ⟨rfl, rfl⟩) (need_intro ?_ ?_); (conv => whnf))
    | (refine call_if (changer_nil g (own0 g).copy) (by first | exact .inl rfl | exact .inr ⟨rfl, rfl⟩) (need_intro ?_ ?_); (conv => whnf))
    | (refine bc_true (by assumption) ?_; (conv => whnf))
    | (refine bc_false (by assumption) ?_; (conv => whnf))
    | (refine bc_intro (fun _ => ?_) (fun _ => ?_) <;> (conv => whnf))
    | (refine need_intro ?_ ?_; (conv => whnf))
    | (refine wk_refl ?_; (conv => whnf))
    | (refine draw_intro (by kernel_rfl) ?_; (conv => whnf))
    | (refine ord_intro (by kernel_rfl) ?_; (conv => whnf))
  all_goals try first
    | assumption
    | exact ⟨by assumption, by omega, by omega⟩
    | exact ⟨by assumption, hem⟩
    | exact ⟨by assumption, by omega⟩
    | exact ⟨hb, hsm⟩
    | exact ⟨Int.le_refl 0, by omega⟩
  all_goals first
    | exact ⟨(_, _), ⟨ev_propose hE (of_neq0 (by assumption)), by assumption⟩, LeS.refl _, LeL.refl _, trivial⟩
    | exact ⟨(_, _), ⟨ev_replicate hE (of_neq0 (by assumption)), by assumption⟩, LeS.refl _, LeL.refl _, trivial⟩
    | exact ⟨(_, _), ⟨ev_commitG hE (of_neq0 (by assumption)), by assumption⟩, LeS.refl _, LeL.refl _, trivial⟩
    | exact ⟨(_, _), ⟨ev_crash hE (of_neq0 (by assumption)), by assumption⟩, LeS.refl _, LeL.refl _, trivial⟩
    | exact ⟨(_, _), ⟨ev_take hE (of_neq0 (by assumption)), by assumption⟩, LeS.refl _, LeL.refl _, trivial⟩
    | exact ⟨(_, _), ⟨ev_finish hE (of_neq0 (by assumption)), by assumption⟩, LeS.refl _, LeL.refl _, trivial⟩
    | exact ⟨(_, _), ⟨ev_change hE (of_neq0 (by assumption)), by assumption⟩, LeS.refl _, LeL.refl _, trivial⟩
    | exact ⟨(_, _), ⟨hE.mono (by omega), by assumption⟩, LeS.refl _, LeL.refl _, trivial⟩
    | trace_state
theorem event_ex (m : Nat) {l : List Int} {a : Nat} (r : Rng) (n : Nat) (g : GrpT) : (TapeOk l a ∧ EvM r n g.mem ∧ emptyR r.1 r.2.1 r.2.2.1 r.2.2.2 = false) → ∃ x : GrpT × Nat, (EvM r (n + 1) x.1.mem ∧ TapeOk l x.2) ∧
    Sx.Spec Tryz.prog GG 38 [.ptr m 0, .agg (grpL g)] [(m, tapeB l a)] (.agg (grpL x.1)) [(m, tapeB l x.2)] := fun h => by
  obtain ⟨x, hx, hs⟩ := event0 r n g h
  exact ⟨x, hx, hs.at m⟩
end Go.Proofs.YtegbenagmciegaaGreatDoor
