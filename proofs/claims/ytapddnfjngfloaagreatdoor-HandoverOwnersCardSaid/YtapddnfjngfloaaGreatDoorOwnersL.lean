/- Contracts of functions that the law reaches: YtapddnfjngfloaaGreatDoorOwnersL. Written for this claim. -/
import Derived.Test.YtapddnfjngfloaaGreatDoorStepsL
import Derived.Test.YtapddnfjngfloaaGreatDoorLay
namespace Go.Proofs.YtapddnfjngfloaaGreatDoor
open Go Go.Sx Go.ChangeShapes Go.WideShapes Go.ChangeAt Go.WideMaps Go.WideElems Go.RowKit
set_option linter.unusedVariables false
set_option linter.unusedSimpArgs false
set_option maxRecDepth 100000
theorem fil_yes {p : GrpT → Bool} {l : List GrpT} {i : Nat} (h : i < l.length) (hp : p (l.getD i default) = true) : ((l.take (i + 1)).filter p).length = ((l.take i).filter p).length + 1 := by
  rw [take_succ' h, List.filter_append, List.filter_cons, if_pos hp, List.length_append]; rfl
theorem fil_no {p : GrpT → Bool} {l : List GrpT} {i : Nat} (h : i < l.length) (hp : p (l.getD i default) = false) : ((l.take (i + 1)).filter p).length = ((l.take i).filter p).length := by
  rw [take_succ' h, List.filter_append, List.filter_cons, if_neg (by rw [hp]; simp), List.length_append]; rfl
set_option maxHeartbeats 8000000 in
theorem handoverOwners_law (l : List Int) (key : List UInt8) (hl : ∀ x ∈ l, -9223372036854775808 ≤ x ∧ x < 9223372036854775808) : Sx.Spec Tryz.prog GG 5 [.d (encL encI 1 l), .d (.str key)] [] (.d (.bool true)) [] := by
  refine spec_intro (E := EE) (fn := Tryz.f5) eok (by kernel_rfl) (by kernel_rfl) Tryz.call5 (by kernel_rfl) (by kernel_rfl) ?_
  conv => whnf
  repeat' first
    | (refine call_some (new_ex 2000 hl) (fun _ => by first | exact .inl rfl | exact .inr ⟨rfl, rfl⟩) ?_; rintro ⟨tl, ta⟩ hT; (conv => whnf))
    | (refine call_some_if (start_ex 2000 4000 5000 (by decide) (by decide) (by decide)) (fun _ => by first | exact .inl rfl | exact .inr ⟨rfl, rfl⟩) (need_intro ?_ ?_); rintro ⟨gs0, b⟩ ⟨hq, h6⟩; (conv => whnf))
    | (refine bc_true (by assumption) ?_; (conv => whnf))
    | (refine bc_false (by assumption) ?_; (conv => whnf))
    | (refine need_intro ?_ ?_; (conv => whnf))
    | (refine wk_refl ?_; (conv => whnf))
    | (refine draw_intro (by kernel_rfl) ?_; (conv => whnf))
    | (refine ord_intro (by kernel_rfl) ?_; (conv => whnf))
  all_goals try first
    | assumption
    | exact ⟨hT, by omega, by omega⟩
  obtain ⟨⟨T0, hT0, _, bs, hbs, htop⟩, hle, hge⟩ := hq
  dsimp only at hle hge hbs htop h6
  have hI0 := tile_inv hbs htop
  refine loop_auto [1, 5, 6] [] (fun z : (Nat × List GrpT × Int) × Nat => [(7, .d (.int .i64 z.1.1))]) (fun z => [(4000, .box [.osl 5000 3 0 gs0.length, .d (.int .i64 z.1.2.2)]), (5000, .row 33 3 gs0.length (cellOf encGrp z.1.2.1)), (2000, tapeB tl z.2)])
    (fun z => (z.1.1 ≤ 80 ∧ z.1.2.1.length = gs0.length ∧ InvN z.1.2.2 z.1.2.1 ∧ z.1.2.2 ≤ z.1.1) ∧ TapeOk tl z.2) (fun z => 80 - z.1.1) ((0, gs0, 0), b) ?_ (fun z hz => ?_) ⟨⟨by simp, rfl, hI0, by simp⟩, h6⟩
  · conv => whnf
    repeat' first
      | (refine bc_true (by assumption) ?_; (conv => whnf))
      | (refine bc_false (by assumption) ?_; (conv => whnf))
      | (refine bc_intro (fun _ => ?_) (fun _ => ?_) <;> (conv => whnf))
      | (refine need_intro ?_ ?_; (conv => whnf))
      | (refine wk_refl ?_; (conv => whnf))
      | (refine draw_intro (by kernel_rfl) ?_; (conv => whnf))
      | (refine ord_intro (by kernel_rfl) ?_; (conv => whnf))
    all_goals first | exact trivial | exact DLe.refl _ | exact DLe.nil | exact RowLe.refl _ _ _ | exact ⟨rfl, rfl⟩ | exact ⟨rfl, rfl, rfl⟩ | trace_state
  obtain ⟨⟨k, gs, N⟩, b⟩ := z
  obtain ⟨⟨hk, hgl, hI, hNk⟩, hb⟩ := hz
  dsimp only at hk hgl hI hNk hb
  have hsk : IntKind.i64.wrap ((k : Int) + 1) = ((k + 1 : Nat) : Int) := wrap_succ (n := 100) (by omega) (by omega)
  have hE : ∀ u1 u2 ev, u1 < gs0.length → u2 < gs0.length → InvN (evN N ev) (evS N gs u1 u2 ev) := fun u1 u2 ev h1 h2 => inv_ev hI (by omega) (by omega)
  have hEl : ∀ u1 u2 ev, (evS N gs u1 u2 ev).length = gs0.length := fun u1 u2 ev => by rw [evS_len, hgl]
  have hEn : ∀ ev, evN N ev ≤ ((k + 1 : Nat) : Int) := fun ev => by have := (evN_le (N := N) (e := ev)).2; omega
  conv => whnf
  repeat' first
    | (refine call_some_if (left_ex _) (fun _ => by first | exact .inl rfl | exact .inr ⟨rfl, rfl⟩) (need_intro ?_ ?_); rintro ⟨v, b⟩ h6; (conv => whnf))
    | (refine call_intro (awake27_spec) ?_ (by first | exact .inl rfl | exact .inr ⟨rfl, rfl⟩); (conv => whnf))
    | (refine call_some_if (act_ex 4000 2000 5000 (by decide) (by decide) (by decide) gs N) (fun _ => by first | exact .inl rfl | exact .inr ⟨rfl, rfl⟩) (need_intro ?_ ?_); rintro ⟨⟨u1, u2, ev⟩, b⟩ ⟨⟨hu1, hu2⟩, h6⟩; (conv => whnf))
    | (refine call_if (sound_ex 4000 5000 (by decide) (evS N gs u1 u2 ev) (evN N ev) gs0.length) (by first | exact .inl rfl | exact .inr ⟨rfl, rfl⟩) (need_intro ?_ ?_); (conv => whnf))
    | (refine call_some_if (key_ex _) (fun _ => by first | exact .inl rfl | exact .inr ⟨rfl, rfl⟩) (need_intro ?_ ?_); rintro ⟨q, b⟩ ⟨_, h6⟩; (conv => whnf))
    | (refine bc_true (by assumption) ?_; (conv => whnf))
    | (refine bc_false (by assumption) ?_; (conv => whnf))
    | (refine bc_intro (fun _ => ?_) (fun _ => ?_) <;> (conv => whnf))
    | (refine need_intro ?_ ?_; (conv => whnf))
    | (refine wk_refl ?_; (conv => whnf))
    | (refine draw_intro (by kernel_rfl) ?_; (conv => whnf))
    | (refine ord_intro (by kernel_rfl) ?_; (conv => whnf))
  all_goals try dsimp only at *
  all_goals try simp only [decide_eq_true_eq, decide_eq_false_iff_not] at *
  all_goals try first
    | assumption
    | contradiction
    | omega
    | exact ⟨LeS.refl _, trivial⟩
    | exact ⟨by assumption, by omega, by omega⟩
    | exact ⟨by assumption, hgl, hge, by omega, hI, by omega⟩
    | exact ⟨hEl _ _ _, by omega, fun i hi => by have := ((hE u1 u2 ev hu1 hu2).wf i (by rw [hEl]; omega)).n1; omega⟩
  refine loop_auto [1, 5, 6, 7, 34, 35] [4000, 5000, 2000] (fun x : Nat × Unit => [(36, .d (.int .i64 x.1))]) (fun x => []) (fun x => x.1 ≤ 3) (fun x => 3 - x.1) (0, ()) ?_ (fun x hx => ?_) (by simp)
  · conv => whnf
    repeat' first
      | (refine bc_true (by assumption) ?_; (conv => whnf))
      | (refine bc_false (by assumption) ?_; (conv => whnf))
      | (refine bc_intro (fun _ => ?_) (fun _ => ?_) <;> (conv => whnf))
      | (refine need_intro ?_ ?_; (conv => whnf))
      | (refine wk_refl ?_; (conv => whnf))
      | (refine draw_intro (by kernel_rfl) ?_; (conv => whnf))
      | (refine ord_intro (by kernel_rfl) ?_; (conv => whnf))
    all_goals first | exact trivial | exact DLe.refl _ | exact DLe.nil | exact RowLe.refl _ _ _ | exact ⟨rfl, rfl⟩ | exact ⟨rfl, rfl, rfl⟩ | trace_state
  obtain ⟨x, _⟩ := x
  dsimp only at hx ⊢
  have hsx : IntKind.i64.wrap ((x : Int) + 1) = ((x + 1 : Nat) : Int) := wrap_succ (n := 100) (by omega) (by omega)
  match x, hx, hsx with
  | 0, _, hsx =>
    conv => whnf
    repeat' first
      | (refine bc_true (by assumption) ?_; (conv => whnf))
      | (refine bc_false (by assumption) ?_; (conv => whnf))
      | (refine need_intro ?_ ?_; (conv => whnf))
      | (refine wk_refl ?_; (conv => whnf))
      | (refine draw_intro (by kernel_rfl) ?_; (conv => whnf))
      | (refine ord_intro (by kernel_rfl) ?_; (conv => whnf))
    all_goals try first
      | decide
      | exact ⟨by decide, by decide⟩
    refine loop_auto [1, 5, 6, 7, 9, 34, 35, 36, 43, 44] [4000, 5000, 2000] (fun i : Nat => [(45, .d (.int .i64 i)), (10, .d (.int .i64 (((evS N gs u1 u2 ev).take i).filter (ownsG · key)).length))]) (fun i => []) (fun i => i ≤ gs0.length) (fun i => gs0.length - i) 0 ?_ (fun i hi => ?_) (by omega)
    · conv => whnf
      repeat' first
        | (refine bc_true (by assumption) ?_; (conv => whnf))
        | (refine bc_false (by assumption) ?_; (conv => whnf))
        | (refine bc_intro (fun _ => ?_) (fun _ => ?_) <;> (conv => whnf))
        | (refine need_intro ?_ ?_; (conv => whnf))
        | (refine wk_refl ?_; (conv => whnf))
        | (refine draw_intro (by kernel_rfl) ?_; (conv => whnf))
        | (refine ord_intro (by kernel_rfl) ?_; (conv => whnf))
      all_goals first | exact trivial | exact DLe.refl _ | exact DLe.nil | exact RowLe.refl _ _ _ | exact ⟨rfl, rfl⟩ | exact ⟨rfl, rfl, rfl⟩ | trace_state
    · have hs : IntKind.i64.wrap ((i : Int) + 1) = ((i + 1 : Nat) : Int) := wrap_succ (n := 2000) (by omega) (by omega)
      have hle2 : (((evS N gs u1 u2 ev).take i).filter (ownsG · key)).length ≤ 4 := by
        have := List.length_filter_le (ownsG · key) ((evS N gs u1 u2 ev).take i)
        rw [List.length_take, hEl] at this
        omega
      have hc : IntKind.i64.wrap ((((((evS N gs u1 u2 ev).take i).filter (ownsG · key)).length : Nat) : Int) + 1) = (((((evS N gs u1 u2 ev).take i).filter (ownsG · key)).length + 1 : Nat) : Int) := wrap_succ (n := 100) (by omega) (by omega)
      have hy := fun (h : i < (evS N gs u1 u2 ev).length) (h2 : ownsG ((evS N gs u1 u2 ev).getD i default) key = true) => fil_yes (p := (ownsG · key)) h h2
      have hn := fun (h : i < (evS N gs u1 u2 ev).length) (h2 : ownsG ((evS N gs u1 u2 ev).getD i default) key = false) => fil_no (p := (ownsG · key)) h h2
      conv => whnf
      repeat' first
        | (refine call_if (ownsp_spec ((evS N gs u1 u2 ev).getD (0 + i) default) key) (by first | exact .inl rfl | exact .inr ⟨rfl, rfl⟩) (need_intro ?_ ?_); (conv => whnf))
        | (refine NextVC.mk (0 + 1, ()) ?_ ?_ ?_; (conv => whnf))
        | (refine NextVC.mk (i + 1) ?_ ?_ ?_; (conv => whnf))
        | (refine bc_true (by assumption) ?_; (conv => whnf))
        | (refine bc_false (by assumption) ?_; (conv => whnf))
        | (refine bc_intro (fun _ => ?_) (fun _ => ?_) <;> (conv => whnf))
        | (refine need_intro ?_ ?_; (conv => whnf))
        | (refine wk_refl ?_; (conv => whnf))
        | (refine draw_intro (by kernel_rfl) ?_; (conv => whnf))
        | (refine ord_intro (by kernel_rfl) ?_; (conv => whnf))
      all_goals try dsimp only at *
      all_goals try simp only [decide_eq_true_eq, decide_eq_false_iff_not, Nat.zero_add] at *
      all_goals try first
        | exact trivial
        | assumption
        | contradiction
        | omega
        | exact DLe.refl _
        | exact RowLe.refl _ _ _
        | exact DLe.of_eq (by rw [hs])
        | exact DLe.of_eq (by rw [hsx])
        | exact ⟨LeS.refl _, trivial⟩
        | exact ⟨rfl, rfl, rfl⟩
        | exact ⟨trivial, trivial, trivial⟩
        | exact ⟨by omega, by omega⟩
        | exact DLe.of_eq (by rw [hy (by rw [hEl]; omega) (by assumption), hc])
        | exact DLe.of_eq (by rw [hn (by rw [hEl]; omega) (by assumption)])
        | exact ((hE u1 u2 ev hu1 hu2).wf _ (by rw [hEl]; omega)).b
        | exact (by decide : 0 + 1 ≤ 3)
        | (exfalso
           have h11 : (evS N gs u1 u2 ev).take i = evS N gs u1 u2 ev := List.take_of_length_le (by rw [hEl]; omega)
           have h12 : (((evS N gs u1 u2 ev).take i).filter (ownsG · key)).length ≤ 1 := by rw [h11]; exact owns_count (hE u1 u2 ev hu1 hu2)
           omega)
      all_goals trace_state
  | 1, _, hsx =>
    conv => whnf
    repeat' first
      | (refine bc_true (by assumption) ?_; (conv => whnf))
      | (refine bc_false (by assumption) ?_; (conv => whnf))
      | (refine need_intro ?_ ?_; (conv => whnf))
      | (refine wk_refl ?_; (conv => whnf))
      | (refine draw_intro (by kernel_rfl) ?_; (conv => whnf))
      | (refine ord_intro (by kernel_rfl) ?_; (conv => whnf))
    all_goals try first
      | decide
      | exact ⟨by decide, by decide⟩
    refine loop_auto [1, 5, 6, 7, 9, 34, 35, 36, 43, 44] [4000, 5000, 2000] (fun i : Nat => [(45, .d (.int .i64 i)), (10, .d (.int .i64 (((evS N gs u1 u2 ev).take i).filter (ownsG · ([] : List UInt8))).length))]) (fun i => []) (fun i => i ≤ gs0.length) (fun i => gs0.length - i) 0 ?_ (fun i hi => ?_) (by omega)
    · conv => whnf
      repeat' first
        | (refine bc_true (by assumption) ?_; (conv => whnf))
        | (refine bc_false (by assumption) ?_; (conv => whnf))
        | (refine bc_intro (fun _ => ?_) (fun _ => ?_) <;> (conv => whnf))
        | (refine need_intro ?_ ?_; (conv => whnf))
        | (refine wk_refl ?_; (conv => whnf))
        | (refine draw_intro (by kernel_rfl) ?_; (conv => whnf))
        | (refine ord_intro (by kernel_rfl) ?_; (conv => whnf))
      all_goals first | exact trivial | exact DLe.refl _ | exact DLe.nil | exact RowLe.refl _ _ _ | exact ⟨rfl, rfl⟩ | exact ⟨rfl, rfl, rfl⟩ | trace_state
    · have hs : IntKind.i64.wrap ((i : Int) + 1) = ((i + 1 : Nat) : Int) := wrap_succ (n := 2000) (by omega) (by omega)
      have hle2 : (((evS N gs u1 u2 ev).take i).filter (ownsG · ([] : List UInt8))).length ≤ 4 := by
        have := List.length_filter_le (ownsG · ([] : List UInt8)) ((evS N gs u1 u2 ev).take i)
        rw [List.length_take, hEl] at this
        omega
      have hc : IntKind.i64.wrap ((((((evS N gs u1 u2 ev).take i).filter (ownsG · ([] : List UInt8))).length : Nat) : Int) + 1) = (((((evS N gs u1 u2 ev).take i).filter (ownsG · ([] : List UInt8))).length + 1 : Nat) : Int) := wrap_succ (n := 100) (by omega) (by omega)
      have hy := fun (h : i < (evS N gs u1 u2 ev).length) (h2 : ownsG ((evS N gs u1 u2 ev).getD i default) ([] : List UInt8) = true) => fil_yes (p := (ownsG · ([] : List UInt8))) h h2
      have hn := fun (h : i < (evS N gs u1 u2 ev).length) (h2 : ownsG ((evS N gs u1 u2 ev).getD i default) ([] : List UInt8) = false) => fil_no (p := (ownsG · ([] : List UInt8))) h h2
      conv => whnf
      repeat' first
        | (refine call_if (ownsp_spec ((evS N gs u1 u2 ev).getD (0 + i) default) ([] : List UInt8)) (by first | exact .inl rfl | exact .inr ⟨rfl, rfl⟩) (need_intro ?_ ?_); (conv => whnf))
        | (refine NextVC.mk (1 + 1, ()) ?_ ?_ ?_; (conv => whnf))
        | (refine NextVC.mk (i + 1) ?_ ?_ ?_; (conv => whnf))
        | (refine bc_true (by assumption) ?_; (conv => whnf))
        | (refine bc_false (by assumption) ?_; (conv => whnf))
        | (refine bc_intro (fun _ => ?_) (fun _ => ?_) <;> (conv => whnf))
        | (refine need_intro ?_ ?_; (conv => whnf))
        | (refine wk_refl ?_; (conv => whnf))
        | (refine draw_intro (by kernel_rfl) ?_; (conv => whnf))
        | (refine ord_intro (by kernel_rfl) ?_; (conv => whnf))
      all_goals try dsimp only at *
      all_goals try simp only [decide_eq_true_eq, decide_eq_false_iff_not, Nat.zero_add] at *
      all_goals try first
        | exact trivial
        | assumption
        | contradiction
        | omega
        | exact DLe.refl _
        | exact RowLe.refl _ _ _
        | exact DLe.of_eq (by rw [hs])
        | exact DLe.of_eq (by rw [hsx])
        | exact ⟨LeS.refl _, trivial⟩
        | exact ⟨rfl, rfl, rfl⟩
        | exact ⟨trivial, trivial, trivial⟩
        | exact ⟨by omega, by omega⟩
        | exact DLe.of_eq (by rw [hy (by rw [hEl]; omega) (by assumption), hc])
        | exact DLe.of_eq (by rw [hn (by rw [hEl]; omega) (by assumption)])
        | exact ((hE u1 u2 ev hu1 hu2).wf _ (by rw [hEl]; omega)).b
        | exact (by decide : 1 + 1 ≤ 3)
        | (exfalso
           have h11 : (evS N gs u1 u2 ev).take i = evS N gs u1 u2 ev := List.take_of_length_le (by rw [hEl]; omega)
           have h12 : (((evS N gs u1 u2 ev).take i).filter (ownsG · ([] : List UInt8))).length ≤ 1 := by rw [h11]; exact owns_count (hE u1 u2 ev hu1 hu2)
           omega)
      all_goals trace_state
  | 2, _, hsx =>
    conv => whnf
    repeat' first
      | (refine bc_true (by assumption) ?_; (conv => whnf))
      | (refine bc_false (by assumption) ?_; (conv => whnf))
      | (refine need_intro ?_ ?_; (conv => whnf))
      | (refine wk_refl ?_; (conv => whnf))
      | (refine draw_intro (by kernel_rfl) ?_; (conv => whnf))
      | (refine ord_intro (by kernel_rfl) ?_; (conv => whnf))
    all_goals try first
      | decide
      | exact ⟨by decide, by decide⟩
    refine loop_auto [1, 5, 6, 7, 9, 34, 35, 36, 43, 44] [4000, 5000, 2000] (fun i : Nat => [(45, .d (.int .i64 i)), (10, .d (.int .i64 (((evS N gs u1 u2 ev).take i).filter (ownsG · q)).length))]) (fun i => []) (fun i => i ≤ gs0.length) (fun i => gs0.length - i) 0 ?_ (fun i hi => ?_) (by omega)
    · conv => whnf
      repeat' first
        | (refine bc_true (by assumption) ?_; (conv => whnf))
        | (refine bc_false (by assumption) ?_; (conv => whnf))
        | (refine bc_intro (fun _ => ?_) (fun _ => ?_) <;> (conv => whnf))
        | (refine need_intro ?_ ?_; (conv => whnf))
        | (refine wk_refl ?_; (conv => whnf))
        | (refine draw_intro (by kernel_rfl) ?_; (conv => whnf))
        | (refine ord_intro (by kernel_rfl) ?_; (conv => whnf))
      all_goals first | exact trivial | exact DLe.refl _ | exact DLe.nil | exact RowLe.refl _ _ _ | exact ⟨rfl, rfl⟩ | exact ⟨rfl, rfl, rfl⟩ | trace_state
    · have hs : IntKind.i64.wrap ((i : Int) + 1) = ((i + 1 : Nat) : Int) := wrap_succ (n := 2000) (by omega) (by omega)
      have hle2 : (((evS N gs u1 u2 ev).take i).filter (ownsG · q)).length ≤ 4 := by
        have := List.length_filter_le (ownsG · q) ((evS N gs u1 u2 ev).take i)
        rw [List.length_take, hEl] at this
        omega
      have hc : IntKind.i64.wrap ((((((evS N gs u1 u2 ev).take i).filter (ownsG · q)).length : Nat) : Int) + 1) = (((((evS N gs u1 u2 ev).take i).filter (ownsG · q)).length + 1 : Nat) : Int) := wrap_succ (n := 100) (by omega) (by omega)
      have hy := fun (h : i < (evS N gs u1 u2 ev).length) (h2 : ownsG ((evS N gs u1 u2 ev).getD i default) q = true) => fil_yes (p := (ownsG · q)) h h2
      have hn := fun (h : i < (evS N gs u1 u2 ev).length) (h2 : ownsG ((evS N gs u1 u2 ev).getD i default) q = false) => fil_no (p := (ownsG · q)) h h2
      conv => whnf
      repeat' first
        | (refine call_if (ownsp_spec ((evS N gs u1 u2 ev).getD (0 + i) default) q) (by first | exact .inl rfl | exact .inr ⟨rfl, rfl⟩) (need_intro ?_ ?_); (conv => whnf))
        | (refine NextVC.mk (2 + 1, ()) ?_ ?_ ?_; (conv => whnf))
        | (refine NextVC.mk (i + 1) ?_ ?_ ?_; (conv => whnf))
        | (refine bc_true (by assumption) ?_; (conv => whnf))
        | (refine bc_false (by assumption) ?_; (conv => whnf))
        | (refine bc_intro (fun _ => ?_) (fun _ => ?_) <;> (conv => whnf))
        | (refine need_intro ?_ ?_; (conv => whnf))
        | (refine wk_refl ?_; (conv => whnf))
        | (refine draw_intro (by kernel_rfl) ?_; (conv => whnf))
        | (refine ord_intro (by kernel_rfl) ?_; (conv => whnf))
      all_goals try dsimp only at *
      all_goals try simp only [decide_eq_true_eq, decide_eq_false_iff_not, Nat.zero_add] at *
      all_goals try first
        | exact trivial
        | assumption
        | contradiction
        | omega
        | exact DLe.refl _
        | exact RowLe.refl _ _ _
        | exact DLe.of_eq (by rw [hs])
        | exact DLe.of_eq (by rw [hsx])
        | exact ⟨LeS.refl _, trivial⟩
        | exact ⟨rfl, rfl, rfl⟩
        | exact ⟨trivial, trivial, trivial⟩
        | exact ⟨by omega, by omega⟩
        | exact DLe.of_eq (by rw [hy (by rw [hEl]; omega) (by assumption), hc])
        | exact DLe.of_eq (by rw [hn (by rw [hEl]; omega) (by assumption)])
        | exact ((hE u1 u2 ev hu1 hu2).wf _ (by rw [hEl]; omega)).b
        | exact (by decide : 2 + 1 ≤ 3)
        | (exfalso
           have h11 : (evS N gs u1 u2 ev).take i = evS N gs u1 u2 ev := List.take_of_length_le (by rw [hEl]; omega)
           have h12 : (((evS N gs u1 u2 ev).take i).filter (ownsG · q)).length ≤ 1 := by rw [h11]; exact owns_count (hE u1 u2 ev hu1 hu2)
           omega)
      all_goals trace_state
  | 3, _, hsx =>
    conv => whnf
    repeat' first
      | (refine NextVC.mk ((k + 1, evS N gs u1 u2 ev, evN N ev), b) ?_ ?_ ?_; (conv => whnf))
      | (refine bc_true (by assumption) ?_; (conv => whnf))
      | (refine bc_false (by assumption) ?_; (conv => whnf))
      | (refine bc_intro (fun _ => ?_) (fun _ => ?_) <;> (conv => whnf))
      | (refine need_intro ?_ ?_; (conv => whnf))
      | (refine wk_refl ?_; (conv => whnf))
      | (refine draw_intro (by kernel_rfl) ?_; (conv => whnf))
      | (refine ord_intro (by kernel_rfl) ?_; (conv => whnf))
    all_goals try dsimp only at *
    all_goals try simp only [decide_eq_true_eq, decide_eq_false_iff_not] at *
    all_goals first
      | exact trivial
      | omega
      | exact DLe.refl _
      | exact RowLe.refl _ _ _
      | exact DLe.of_eq (by rw [hsk])
      | exact ⟨rfl, rfl, rfl⟩
      | exact ⟨trivial, trivial, trivial⟩
      | exact ⟨⟨by omega, hEl _ _ _, hE u1 u2 ev hu1 hu2, hEn _⟩, by assumption⟩
      | (exfalso; simp at *; done)
      | trace_state
  | x + 4, hx, _ => omega
theorem handoverOwners_all (dss : List (List D)) (h : All2 (wfT Tryz.prog reachBytes 12) [22, 9] dss) : Sx.Spec Tryz.prog GG 5 (svs Tryz.prog [22, 9] dss) [] (.d (.bool true)) [] := by
  obtain ⟨x, y, rfl, hx, hy⟩ := inv2 h
  obtain ⟨l, h1, h2, h3⟩ := ints_arg hx
  obtain ⟨_, _, rfl, _⟩ := hx
  obtain ⟨key, rfl, _⟩ := hy
  exact (handoverOwners_law l key h1).arg (leL_app h2 (LeL.cons (LeS.refl _) LeL.nil))
end Go.Proofs.YtapddnfjngfloaaGreatDoor
