/- Contracts of functions that the law reaches: YtapddnfjngfloaaGreatDoorStepsL. Written for this claim. -/
import Derived.Test.YtapddnfjngfloaaGreatDoorNtx
import Derived.Test.YtapddnfjngfloaaGreatDoorLay
namespace Go.Proofs.YtapddnfjngfloaaGreatDoor
open Go Go.Sx Go.ChangeShapes Go.WideShapes Go.ChangeAt Go.WideMaps Go.WideElems Go.RowKit
set_option linter.unusedVariables false
set_option linter.unusedSimpArgs false
set_option maxRecDepth 100000
set_option maxHeartbeats 8000000 in
theorem handoverSteps_law (l : List Int) (hl : ∀ x ∈ l, -9223372036854775808 ≤ x ∧ x < 9223372036854775808) : Sx.Spec Tryz.prog GG 4 [.d (encL encI 1 l)] [] (.d (.bool true)) [] := by
  refine spec_intro (E := EE) (fn := Tryz.f4) eok (by kernel_rfl) (by kernel_rfl) Tryz.call4 (by kernel_rfl) (by kernel_rfl) ?_
  conv => whnf
  repeat' first
    | (refine call_some (new_ex 2000 hl) (fun _ => by first | exact .inl rfl | exact .inr ⟨rfl, rfl⟩) ?_; rintro ⟨tl, ta⟩ hT; (conv => whnf))
    | (refine call_some_if (start_ex 2000 4000 5000 (by decide) (by decide) (by decide)) (fun _ => by first | exact .inl rfl | exact .inr ⟨rfl, rfl⟩) (need_intro ?_ ?_); rintro ⟨gs0, b⟩ ⟨hq, h6⟩; (conv => whnf))
    | (refine bc_true (by assumption) ?_; (conv => whnf))
    | (refine bc_false (by assumption) ?_; (conv => whnf))
    | (refine need_intro ?_ ?_; (conv => whnf))
    | (refine wk_refl ?_; (conv => whnf))
    | (refine draw_intro (by kernel_rfl) ?_; (conv => whnf))
    | (refine ord_intro (by kernel_rfl) ?_; (conv => whnf))
  all_goals try first
    | assumption
    | exact ⟨hT, by omega, by omega⟩
  obtain ⟨⟨T0, hT0, _, bs, hbs, htop⟩, hle, hge⟩ := hq
  dsimp only at hle hge hbs htop h6
  have hI0 := tile_inv hbs htop
  refine loop_auto [3, 4] [] (fun z : (Nat × List GrpT × Int) × Nat => [(5, .d (.int .i64 z.1.1))]) (fun z => [(4000, .box [.osl 5000 3 0 gs0.length, .d (.int .i64 z.1.2.2)]), (5000, .row 33 3 gs0.length (cellOf encGrp z.1.2.1)), (2000, tapeB tl z.2)])
    (fun z => (z.1.1 ≤ 40 ∧ z.1.2.1.length = gs0.length ∧ InvN z.1.2.2 z.1.2.1 ∧ z.1.2.2 ≤ z.1.1) ∧ TapeOk tl z.2) (fun z => 40 - z.1.1) ((0, gs0, 0), b) ?_ (fun z hz => ?_) ⟨⟨by simp, rfl, hI0, by simp⟩, h6⟩
  · conv => whnf
    repeat' first
      | (refine bc_true (by assumption) ?_; (conv => whnf))
      | (refine bc_false (by assumption) ?_; (conv => whnf))
      | (refine bc_intro (fun _ => ?_) (fun _ => ?_) <;> (conv => whnf))
      | (refine need_intro ?_ ?_; (conv => whnf))
      | (refine wk_refl ?_; (conv => whnf))
      | (refine draw_intro (by kernel_rfl) ?_; (conv => whnf))
      | (refine ord_intro (by kernel_rfl) ?_; (conv => whnf))
    all_goals first | exact trivial | exact DLe.refl _ | exact DLe.nil | exact RowLe.refl _ _ _ | exact ⟨rfl, rfl⟩ | exact ⟨rfl, rfl, rfl⟩ | trace_state
  obtain ⟨⟨k, gs, N⟩, b⟩ := z
  obtain ⟨⟨hk, hgl, hI, hNk⟩, hb⟩ := hz
  dsimp only at hk hgl hI hNk hb
  have hsk : IntKind.i64.wrap ((k : Int) + 1) = ((k + 1 : Nat) : Int) := wrap_succ (n := 100) (by omega) (by omega)
  have hE : ∀ u1 u2 ev, u1 < gs0.length → u2 < gs0.length → InvN (evN N ev) (evS N gs u1 u2 ev) := fun u1 u2 ev h1 h2 => inv_ev hI (by omega) (by omega)
  have hEl : ∀ u1 u2 ev, (evS N gs u1 u2 ev).length = gs0.length := fun u1 u2 ev => by rw [evS_len, hgl]
  have hEn : ∀ ev, evN N ev ≤ ((k + 1 : Nat) : Int) := fun ev => by have := (evN_le (N := N) (e := ev)).2; omega
  conv => whnf
  repeat' first
    | (refine call_some_if (left_ex _) (fun _ => by first | exact .inl rfl | exact .inr ⟨rfl, rfl⟩) (need_intro ?_ ?_); rintro ⟨v, b⟩ h6; (conv => whnf))
    | (refine call_intro (awake27_spec) ?_ (by first | exact .inl rfl | exact .inr ⟨rfl, rfl⟩); (conv => whnf))
    | (refine call_some_if (act_ex 4000 2000 5000 (by decide) (by decide) (by decide) gs N) (fun _ => by first | exact .inl rfl | exact .inr ⟨rfl, rfl⟩) (need_intro ?_ ?_); rintro ⟨⟨u1, u2, ev⟩, b⟩ ⟨⟨hu1, hu2⟩, h6⟩; (conv => whnf))
    | (refine call_if (sound_ex 4000 5000 (by decide) (evS N gs u1 u2 ev) (evN N ev) gs0.length) (by first | exact .inl rfl | exact .inr ⟨rfl, rfl⟩) (need_intro ?_ ?_); (conv => whnf))
    | (refine call_some_if (bound_ex _) (fun _ => by first | exact .inl rfl | exact .inr ⟨rfl, rfl⟩) (need_intro ?_ ?_); rintro ⟨bk, bt, b⟩ ⟨_, h6⟩; (conv => whnf))
    | (refine call_some_if (next_ex _ (n := 3)) (fun _ => by first | exact .inl rfl | exact .inr ⟨rfl, rfl⟩) (need_intro ?_ ?_); rintro ⟨w, b⟩ ⟨_, h6⟩; (conv => whnf))
    | (refine call_some_if (key_ex _) (fun _ => by first | exact .inl rfl | exact .inr ⟨rfl, rfl⟩) (need_intro ?_ ?_); rintro ⟨q, b⟩ ⟨_, h6⟩; (conv => whnf))
    | (refine call_if (agree_spec ((evS N gs u1 u2 ev).getD (0 + u1) default) ((evS N gs u1 u2 ev).getD (0 + u2) default) _ _ _ _ _) (by first | exact .inl rfl | exact .inr ⟨rfl, rfl⟩) (need_intro ?_ ?_); (conv => whnf))
    | (refine NextVC.mk ((k + 1, evS N gs u1 u2 ev, evN N ev), b) ?_ ?_ ?_; (conv => whnf))
    | (refine bc_true (by assumption) ?_; (conv => whnf))
    | (refine bc_false (by assumption) ?_; (conv => whnf))
    | (refine bc_intro (fun _ => ?_) (fun _ => ?_) <;> (conv => whnf))
    | (refine need_intro ?_ ?_; (conv => whnf))
    | (refine wk_refl ?_; (conv => whnf))
    | (refine draw_intro (by kernel_rfl) ?_; (conv => whnf))
    | (refine ord_intro (by kernel_rfl) ?_; (conv => whnf))
  all_goals try dsimp only at *
  all_goals try simp only [decide_eq_true_eq, decide_eq_false_iff_not] at *
  all_goals try first
    | exact trivial
    | assumption
    | contradiction
    | omega
    | exact DLe.refl _
    | exact RowLe.refl _ _ _
    | exact DLe.of_eq (by rw [hsk])
    | exact ⟨LeS.refl _, trivial⟩
    | exact ⟨rfl, rfl, rfl⟩
    | exact ⟨trivial, trivial, trivial⟩
    | exact ⟨by assumption, by omega, by omega⟩
    | exact ⟨by omega, by omega⟩
    | exact ⟨by assumption, hgl, hge, by omega, hI, by omega⟩
    | exact ⟨hEl _ _ _, by omega, fun i hi => by have := ((hE u1 u2 ev hu1 hu2).wf i (by rw [hEl]; omega)).n1; omega⟩
    | exact ⟨((hE u1 u2 ev hu1 hu2).wf _ (by rw [hEl]; omega)).b, ((hE u1 u2 ev hu1 hu2).wf _ (by rw [hEl]; omega)).b⟩
    | exact ⟨⟨by omega, hEl _ _ _, hE u1 u2 ev hu1 hu2, hEn _⟩, by assumption⟩
  all_goals trace_state
theorem handoverSteps_all (dss : List (List D)) (h : All2 (wfT Tryz.prog reachBytes 12) [22] dss) : Sx.Spec Tryz.prog GG 4 (svs Tryz.prog [22] dss) [] (.d (.bool true)) [] := by
  obtain ⟨x, rfl, hx⟩ := inv1 h
  obtain ⟨l, h1, h2, h3⟩ := ints_arg hx
  obtain ⟨_, _, rfl, _⟩ := hx
  exact (handoverSteps_law l h1).arg h2
end Go.Proofs.YtapddnfjngfloaaGreatDoor
