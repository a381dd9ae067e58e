/- Contracts of functions that the law reaches: YtohenbaodklohaaDoorSafeL. Written for this claim. -/
import Derived.Test.YtohenbaodklohaaDoorColF
import Derived.Test.YtohenbaodklohaaDoorSxCol
namespace Go.Proofs.YtohenbaodklohaaDoor
open Go Go.Sx Go.ChangeShapes Go.WideShapes Go.ChangeAt Go.WideMaps Go.WideElems Go.RowKit
set_option linter.unusedVariables false
set_option linter.unusedSimpArgs false
set_option maxRecDepth 100000
set_option maxHeartbeats 16000000 in
theorem collectSafe_law (l : List Int) (hl : ∀ x ∈ l, -9223372036854775808 ≤ x ∧ x < 9223372036854775808) : Sx.Spec Tryd.prog GG 3 [.d (encL encI 1 l)] [] (.d (.bool true)) [] := by
  refine spec_intro (E := EE) (fn := Tryd.f3) eok (by kernel_rfl) (by kernel_rfl) Tryd.call3 (by kernel_rfl) (by kernel_rfl) ?_
  conv => whnf
  repeat' first
    | (refine call_some (new_ex 2000 hl) (fun _ => by first | exact .inl rfl | exact .inr ⟨rfl, rfl⟩) ?_; rintro ⟨tl, ta⟩ hT; (conv => whnf))
    | (refine call_some_if (net_ex 2000 4000 (by decide)) (fun _ => by first | exact .inl rfl | exact .inr ⟨rfl, rfl⟩) (need_intro ?_ ?_); rintro ⟨gs0, b⟩ ⟨⟨hq, hn1, hn2⟩, h6⟩; (conv => whnf))
    | (refine bc_true (by assumption) ?_; (conv => whnf))
    | (refine bc_false (by assumption) ?_; (conv => whnf))
    | (refine need_intro ?_ ?_; (conv => whnf))
    | (refine wk_refl ?_; (conv => whnf))
    | (refine draw_intro (by kernel_rfl) ?_; (conv => whnf))
    | (refine ord_intro (by kernel_rfl) ?_; (conv => whnf))
  all_goals try first
    | assumption
    | exact ⟨hT, by omega, by omega⟩
  have hgl : (gs0.length : Int) ≤ 3 := hn2
  have hn1 : 1 ≤ gs0.length := hn1
  have hN0 : SafN gs0.length gs0 := ⟨rfl, fun j hj => ⟨(hq.all j hj).num, (hq.all j hj).snd, (hq.all j hj).rng⟩⟩
  refine loop_auto [2, 3, 4, 6, 19, 20] [4000, 2000] (fun x : Nat × List StoT => [(21, .d (.int .i64 x.1)), (5, .d (encL encSto 33 x.2))]) (fun x => []) (fun x => x.1 ≤ gs0.length ∧ x.2 = saveAll [] 1 (gs0.take x.1) ∧ StoB (5 * x.1) x.2) (fun x => gs0.length - x.1) (0, []) ?_ (fun x hx => ?_) ⟨by simp, by simp [saveAll], stob_nil⟩
  · conv => whnf
    repeat' first
      | (refine bc_true (by assumption) ?_; (conv => whnf))
      | (refine bc_false (by assumption) ?_; (conv => whnf))
      | (refine bc_intro (fun _ => ?_) (fun _ => ?_) <;> (conv => whnf))
      | (refine need_intro ?_ ?_; (conv => whnf))
      | (refine wk_refl ?_; (conv => whnf))
      | (refine draw_intro (by kernel_rfl) ?_; (conv => whnf))
      | (refine ord_intro (by kernel_rfl) ?_; (conv => whnf))
    all_goals first | exact trivial | exact DLe.refl _ | exact DLe.nil | exact RowLe.refl _ _ _ | exact ⟨rfl, rfl⟩ | exact ⟨rfl, rfl, rfl⟩ | trace_state
  obtain ⟨i, x⟩ := x
  obtain ⟨hi, hx, hxb⟩ := hx
  simp only at hi hx hxb
  have hs : IntKind.i64.wrap ((i : Int) + 1) = ((i + 1 : Nat) : Int) := wrap_succ (n := 2000000) (by omega) (by omega)
  have hxb9 : StoB 900000 x := hxb.mono (by omega)
  have hNb : NetB gs0 := netq_b hq
  conv => whnf
  repeat' first
    | (refine call_if (save0 x (gs0.getD (0 + i) default) 1) (by first | exact .inl rfl | exact .inr ⟨rfl, rfl⟩) (need_intro ?_ ?_); (conv => whnf))
    | (refine call_if (begin_row 4000 gs0 1) (by first | exact .inl rfl | exact .inr ⟨rfl, rfl⟩) (need_intro ?_ ?_); (conv => whnf))
    | (refine NextVC.mk (i + 1, saveS x (gs0.getD i default).num 1 (gs0.getD i default).mem) ?_ ?_ ?_; (conv => whnf))
    | (refine bc_true (by assumption) ?_; (conv => whnf))
    | (refine bc_false (by assumption) ?_; (conv => whnf))
    | (refine bc_intro (fun _ => ?_) (fun _ => ?_) <;> (conv => whnf))
    | (refine need_intro ?_ ?_; (conv => whnf))
    | (refine wk_refl ?_; (conv => whnf))
    | (refine draw_intro (by kernel_rfl) ?_; (conv => whnf))
    | (refine ord_intro (by kernel_rfl) ?_; (conv => whnf))
  all_goals try dsimp only at *
  all_goals try simp only [decide_eq_true_eq, decide_eq_false_iff_not, Int.toNat_natCast, Nat.zero_add] at *
  all_goals try first
    | exact trivial
    | assumption
    | omega
    | exact DLe.refl _
    | exact RowLe.refl _ _ _
    | exact DLe.of_eq (by rw [hs])
    | exact ⟨by omega, by omega⟩
    | exact ⟨rfl, rfl, rfl⟩
    | exact ⟨trivial, trivial, trivial⟩
    | exact ⟨hxb9, ((hN0.all _ (by omega)).snd).b⟩
    | (refine ⟨by omega, ?_, (stob_save hxb (fun m hm => ((hN0.all i (by omega)).snd.all m hm).2.2)).mono (by have := (hN0.all i (by omega)).snd.n5; omega)⟩
       rw [saveAll_take (d := default) (by omega), ← hx])
  obtain rfl : i = gs0.length := by omega
  rw [List.take_length] at hx
  have hI0 : SafI gs0.length 0 gs0 x (beginS gs0 1) 1 := by
    refine ⟨?_, hN0, hxb.mono (by omega), by omega⟩
    rw [hx]; exact safe_all hN0.ids hN0.nums
  refine loop_auto [2, 3, 4, 9] [] (fun z : Nat × (List GrpT × List StoT × SwpT × Int) × Nat => [(10, .d (.int .i64 z.1)), (5, .d (encL encSto 33 z.2.1.2.1)), (6, .d (.int .i64 z.2.1.2.2.2))]) (fun z => [(4000, .row 30 3 gs0.length (cellOf encGrp z.2.1.1)), (9, .box (swpL z.2.1.2.2.1)), (2000, tapeB tl z.2.2)])
    (fun z => z.1 ≤ 50 ∧ (SafI gs0.length z.1 z.2.1.1 z.2.1.2.1 z.2.1.2.2.1 z.2.1.2.2.2 ∧ MrkB z.2.1.2.2.1.marks) ∧ TapeOk tl z.2.2) (fun z => 50 - z.1) (0, (gs0, x, beginS gs0 1, 1), b) ?_ (fun z hz => ?_) ⟨by simp, ⟨hI0, marks_b hNb⟩, by assumption⟩
  · conv => whnf
    repeat' first
      | (refine bc_true (by assumption) ?_; (conv => whnf))
      | (refine bc_false (by assumption) ?_; (conv => whnf))
      | (refine bc_intro (fun _ => ?_) (fun _ => ?_) <;> (conv => whnf))
      | (refine need_intro ?_ ?_; (conv => whnf))
      | (refine wk_refl ?_; (conv => whnf))
      | (refine draw_intro (by kernel_rfl) ?_; (conv => whnf))
      | (refine ord_intro (by kernel_rfl) ?_; (conv => whnf))
    all_goals first | exact trivial | exact DLe.refl _ | exact DLe.nil | exact RowLe.refl _ _ _ | exact ⟨rfl, rfl⟩ | exact ⟨rfl, rfl, rfl⟩ | trace_state
  obtain ⟨k, ⟨gs, x, c, ser⟩, b⟩ := z
  obtain ⟨hk, ⟨hI, hM⟩, hb⟩ := hz
  simp only at hk hI hM hb
  have hsk : IntKind.i64.wrap ((k : Int) + 1) = ((k + 1 : Nat) : Int) := wrap_succ (n := 100) (by omega) (by omega)
  conv => whnf
  repeat' first
    | (refine call_some_if (left_ex _) (fun _ => by first | exact .inl rfl | exact .inr ⟨rfl, rfl⟩) (need_intro ?_ ?_); rintro ⟨v, b⟩ h6; (conv => whnf))
    | (refine call_intro (awake34_spec) ?_ (by first | exact .inl rfl | exact .inr ⟨rfl, rfl⟩); (conv => whnf))
    | (refine call_some_if (next_ex _ (n := gs0.length)) (fun _ => by first | exact .inl rfl | exact .inr ⟨rfl, rfl⟩) (need_intro ?_ ?_); rintro ⟨u, b⟩ ⟨⟨u1, u2⟩, h6⟩; (conv => whnf))
    | (refine bc_true (by assumption) ?_; (conv => whnf))
    | (refine bc_false (by assumption) ?_; (conv => whnf))
    | (refine bc_intro (fun _ => ?_) (fun _ => ?_) <;> (conv => whnf))
    | (refine need_intro ?_ ?_; (conv => whnf))
    | (refine wk_refl ?_; (conv => whnf))
    | (refine draw_intro (by kernel_rfl) ?_; (conv => whnf))
    | (refine ord_intro (by kernel_rfl) ?_; (conv => whnf))
  all_goals try dsimp only at h6 u1 u2
  all_goals try first
    | assumption
    | exact ⟨LeS.refl _, trivial⟩
    | exact ⟨by assumption, by omega, by omega⟩
  all_goals try (dsimp only at *; omega)
  all_goals try (dsimp only at *; exact ⟨by omega, by omega⟩)
  have hg : SafG u.toNat (gs.getD (0 + u.toNat) default) := by rw [Nat.zero_add]; exact hI.grp.all _ (by omega)
  have hgb := hg.snd.b
  have hgn1 := hg.snd.n1
  have hxb : StoB 900000 x := hI.sto.mono (by omega)
  have hem : emptyR (own0 (gs.getD (0 + u.toNat) default)).copy.lk (own0 (gs.getD (0 + u.toNat) default)).copy.lt (own0 (gs.getD (0 + u.toNat) default)).copy.hk (own0 (gs.getD (0 + u.toNat) default)).copy.ht = false := hg.rng
  have hgl2 := hI.grp.len
  have hNb : NetB gs := ⟨by rw [hgl2]; omega, fun g hg => (hI.grp.mem g hg).b⟩
  conv => whnf
  repeat' first
    | (refine call_some_if (next_ex _ (n := 9)) (fun _ => by first | exact .inl rfl | exact .inr ⟨rfl, rfl⟩) (need_intro ?_ ?_); rintro ⟨v, b⟩ ⟨⟨q1, q2⟩, h6⟩; (conv => whnf))
    | (refine bc_true (by assumption) ?_; (conv => whnf))
    | (refine bc_false (by assumption) ?_; (conv => whnf))
    | (refine need_intro ?_ ?_; (conv => whnf))
    | (refine wk_refl ?_; (conv => whnf))
    | (refine draw_intro (by kernel_rfl) ?_; (conv => whnf))
    | (refine ord_intro (by kernel_rfl) ?_; (conv => whnf))
  all_goals try dsimp only at h6 q1 q2
  all_goals try first
    | exact ⟨by assumption, by omega, by omega⟩
  have hxm : StoB 1000000 x := hI.sto.mono (by omega)
  refine join_auto [2, 3, 4, 6, 10, 11, 13] [4000] (fun z : (GrpT × Int) × (List StoT × SwpT) × Nat => [(14, .d (.int .i64 z.1.2)), (5, .d (encL encSto 33 z.2.1.1)), (9, .ptr 9 0)]) (fun z => [(13, .box (grpL z.1.1)), (9, .box (swpL z.2.1.2)), (2000, tapeB tl z.2.2)]) (fun z => ((SafI gs0.length k gs z.2.1.1 z.2.1.2 ser ∧ MrkB z.2.1.2.marks) ∧ (z.1.2 = 0 → SafG u.toNat z.1.1)) ∧ TapeOk tl z.2.2) (fun _ => ?_) (fun _ => ?_) ?_
  · conv => whnf
    repeat' first
      | (refine call_some_if (writeIn_ex _) (fun _ => by first | exact .inl rfl | exact .inr ⟨rfl, rfl⟩) (need_intro ?_ ?_); rintro ⟨⟨wk, wv, wd⟩, b⟩ ⟨⟨h7, h8⟩, h6⟩; (conv => whnf))
      | (refine call_if (propr_spec (gs.getD (0 + u.toNat) default) (wk, wv, wd)) (by first | exact .inl rfl | exact .inr ⟨rfl, rfl⟩) (need_intro ?_ ?_); (conv => whnf))
      | (refine JoinVC.mk (((proposeG (gs.getD (0 + u.toNat) default) (wk, wv, wd)).1, (proposeG (gs.getD (0 + u.toNat) default) (wk, wv, wd)).2), (x, c), b) ?_ ?_; (conv => whnf))
      | (refine bc_true (by assumption) ?_; (conv => whnf))
      | (refine bc_false (by assumption) ?_; (conv => whnf))
      | (refine need_intro ?_ ?_; (conv => whnf))
      | (refine wk_refl ?_; (conv => whnf))
      | (refine draw_intro (by kernel_rfl) ?_; (conv => whnf))
      | (refine ord_intro (by kernel_rfl) ?_; (conv => whnf))
    all_goals try dsimp only at *
    all_goals try first
      | exact trivial
      | assumption
      | exact DLe.refl _
      | exact RowLe.refl _ _ _
      | exact ⟨rfl, rfl, rfl⟩
      | exact ⟨by assumption, hem⟩
      | exact ⟨Int.le_refl 0, by show (0 : Int) < (((gs.getD (0 + u.toNat) default).mem.length : Nat) : Int); omega⟩
      | exact ⟨⟨⟨hI, hM⟩, fun e => safg_propose hg e⟩, by assumption⟩
    all_goals trace_state
  · conv => whnf
    repeat' first
      | (refine call_some_if (member_ex _ (gs.getD (0 + u.toNat) default)) (fun _ => by first | exact .inl rfl | exact .inr ⟨rfl, rfl⟩) (need_intro ?_ ?_); rintro ⟨id, b⟩ h6; (conv => whnf))
      | (refine call_if (replr_spec (gs.getD (0 + u.toNat) default) _) (by first | exact .inl rfl | exact .inr ⟨rfl, rfl⟩) (need_intro ?_ ?_); (conv => whnf))
      | (refine call_if (commr_spec (gs.getD (0 + u.toNat) default)) (by first | exact .inl rfl | exact .inr ⟨rfl, rfl⟩) (need_intro ?_ ?_); (conv => whnf))
      | (refine call_if (crashr_spec (gs.getD (0 + u.toNat) default) _) (by first | exact .inl rfl | exact .inr ⟨rfl, rfl⟩) (need_intro ?_ ?_); (conv => whnf))
      | (refine call_some_if (pickQ_ex _ (fun _ => True)) (fun _ => by first | exact .inl rfl | exact .inr ⟨rfl, rfl⟩) (need_intro ?_ ?_); rintro ⟨id, b⟩ ⟨q1, h6⟩; (conv => whnf))
      | (refine call_if (recrr_spec (gs.getD (0 + u.toNat) default) _) (by first | exact .inl rfl | exact .inr ⟨rfl, rfl⟩) (need_intro ?_ ?_); (conv => whnf))
      | (refine call_if (dismr_spec (gs.getD (0 + u.toNat) default) _) (by first | exact .inl rfl | exact .inr ⟨rfl, rfl⟩) (need_intro ?_ ?_); (conv => whnf))
      | (refine call_if (begin_rowN 4000 gs0.length gs ser) (by first | exact .inl rfl | exact .inr ⟨rfl, rfl⟩) (need_intro ?_ ?_); (conv => whnf))
      | (refine call_if (stepp_spec c x) (by first | exact .inl rfl | exact .inr ⟨rfl, rfl⟩) (need_intro ?_ ?_); (conv => whnf))
      | (refine JoinVC.mk ((fun _ => (((replicateG (gs.getD (0 + u.toNat) default) id).1, (replicateG (gs.getD (0 + u.toNat) default) id).2), (x, c), b)) (show (v == 1) = true by assumption)) ?_ ?_; (conv => whnf))
      | (refine JoinVC.mk ((fun _ => (((commitG (gs.getD (0 + u.toNat) default)).1.1, (commitG (gs.getD (0 + u.toNat) default)).2), (x, c), b)) (show (v == 2) = true by assumption)) ?_ ?_; (conv => whnf))
      | (refine JoinVC.mk ((fun _ => (((crashG (gs.getD (0 + u.toNat) default) id).1, (crashG (gs.getD (0 + u.toNat) default) id).2), (x, c), b)) (show (v == 3) = true by assumption)) ?_ ?_; (conv => whnf))
      | (refine JoinVC.mk ((fun _ => (((recruitG (gs.getD (0 + u.toNat) default) id).1, (recruitG (gs.getD (0 + u.toNat) default) id).2), (x, c), b)) (show (v == 4) = true by assumption)) ?_ ?_; (conv => whnf))
      | (refine JoinVC.mk ((fun _ => (((dismissG (gs.getD (0 + u.toNat) default) id).1, (dismissG (gs.getD (0 + u.toNat) default) id).2), (x, c), b)) (show (v == 5) = true by assumption)) ?_ ?_; (conv => whnf))
      | (refine JoinVC.mk ((fun _ => (((gs.getD (0 + u.toNat) default), 7), (x, beginS gs ser), b)) (show (v == 6) = true by assumption)) ?_ ?_; (conv => whnf))
      | (refine JoinVC.mk (((gs.getD (0 + u.toNat) default), 7), ((stepS c x).1.2, (stepS c x).1.1), b) ?_ ?_; (conv => whnf))
      | (refine bc_true (by assumption) ?_; (conv => whnf))
      | (refine bc_false (by assumption) ?_; (conv => whnf))
      | (refine bc_intro (fun _ => ?_) (fun _ => ?_) <;> (conv => whnf))
      | (refine need_intro ?_ ?_; (conv => whnf))
      | (refine wk_refl ?_; (conv => whnf))
      | (refine draw_intro (by kernel_rfl) ?_; (conv => whnf))
      | (refine ord_intro (by kernel_rfl) ?_; (conv => whnf))
    all_goals try dsimp only at *
    all_goals try first
      | exact trivial
      | assumption
      | exact DLe.refl _
      | exact RowLe.refl _ _ _
      | exact ⟨rfl, rfl, rfl⟩
      | exact ⟨by assumption, hgn1⟩
      | exact ⟨by assumption, hgb.len⟩
      | exact ⟨hxm, hM⟩
      | exact ⟨hNb, hgl2⟩
      | exact ⟨by assumption, ⟨by omega, by omega⟩, by repeat' first | exact trivial | exact ⟨_, rfl, trivial⟩ | apply And.intro⟩
      | exact ⟨⟨⟨hI, hM⟩, fun e => safg_replicate hg e⟩, by assumption⟩
      | exact ⟨⟨⟨hI, hM⟩, fun e => safg_commit hg e⟩, by assumption⟩
      | exact ⟨⟨⟨hI, hM⟩, fun e => safg_crash hg e⟩, by assumption⟩
      | exact ⟨⟨⟨hI, hM⟩, fun e => safg_recruit hg e⟩, by assumption⟩
      | exact ⟨⟨⟨hI, hM⟩, fun e => safg_dismiss hg e⟩, by assumption⟩
      | exact ⟨⟨⟨safi_begin hI, marks_b hNb⟩, fun e => by cases e⟩, by assumption⟩
      | exact ⟨⟨⟨safi_step hI, by rw [step_keep.1]; exact hM⟩, fun e => by cases e⟩, by assumption⟩
    all_goals trace_state
  rintro ⟨⟨h, e⟩, ⟨x2, c2⟩, b⟩ ⟨⟨⟨hI2, hM2⟩, hJ⟩, hb2⟩
  dsimp only at hI2 hM2 hJ hb2
  have hser := hI.ser
  have hse : IntKind.i64.wrap (ser + 1) = ser + 1 := wrap_of (by omega) (by omega)
  have hx2b : StoB 900000 x2 := hI2.sto.mono (by omega)
  have hx2m : StoB 1000000 x2 := hI2.sto.mono (by omega)
  have hu : u.toNat < gs0.length := by omega
  have hu2 : u.toNat < gs.length := by omega
  conv => whnf
  repeat' first
    | (refine bc_true (by assumption) ?_; (conv => whnf))
    | (refine bc_false (by assumption) ?_; (conv => whnf))
    | (refine need_intro ?_ ?_; (conv => whnf))
    | (refine wk_refl ?_; (conv => whnf))
    | (refine draw_intro (by kernel_rfl) ?_; (conv => whnf))
    | (refine ord_intro (by kernel_rfl) ?_; (conv => whnf))
  refine bc_intro (fun he => ?_) (fun he => ?_)
  · have hh := hJ (eq_of_beq he)
    have hI3 := safi_save hI2 hu hh
    have hI4 := hI3
    rw [← hse] at hI4
    have e1 := safe_complete hI4.safe
    have hNs : NetB (gs.set u.toNat h) := ⟨by rw [List.length_set, hgl2]; omega, fun g hg => ((hI3.grp.mem g hg)).b⟩
    have hx3 : StoB 1000000 (saveS x2 h.num (IntKind.i64.wrap (ser + 1)) h.mem) := hI4.sto.mono (by omega)
    conv => whnf
    repeat' first
      | (refine call_if (save0 x2 h _) (by first | exact .inl rfl | exact .inr ⟨rfl, rfl⟩) (need_intro ?_ ?_); (conv => whnf))
      | (refine call_if (completep_at (saveS x2 h.num (IntKind.i64.wrap (ser + 1)) h.mem) (gs.set u.toNat h)) (by first | exact .inl rfl | exact .inr ⟨rfl, rfl⟩) (need_intro ?_ ?_); (conv => whnf))
      | (refine call_if (completer_at (saveS x2 h.num (IntKind.i64.wrap (ser + 1)) h.mem) (gs.set u.toNat h)) (by first | exact .inl rfl | exact .inr ⟨rfl, rfl⟩) (need_intro ?_ ?_); (conv => whnf))
      | (refine NextVC.mk (k + 1, (gs.set u.toNat h, saveS x2 h.num (IntKind.i64.wrap (ser + 1)) h.mem, c2, IntKind.i64.wrap (ser + 1)), b) ?_ ?_ ?_; (conv => whnf))
      | (refine bc_true (by assumption) ?_; (conv => whnf))
      | (refine bc_false (by assumption) ?_; (conv => whnf))
      | (refine bc_intro (fun _ => ?_) (fun _ => ?_) <;> (conv => whnf))
      | (refine need_intro ?_ ?_; (conv => whnf))
      | (refine wk_refl ?_; (conv => whnf))
      | (refine draw_intro (by kernel_rfl) ?_; (conv => whnf))
      | (refine ord_intro (by kernel_rfl) ?_; (conv => whnf))
    all_goals try dsimp only at *
    all_goals try simp only [e1, cellsGrp, bytesGrp, decide_eq_true_eq, decide_eq_false_iff_not] at *
    all_goals try first
      | exact trivial
      | assumption
      | contradiction
      | omega
      | exact DLe.refl _
      | exact RowLe.refl _ _ _
      | exact DLe.of_eq (by rw [hsk])
      | exact ⟨rfl, rfl, rfl⟩
      | exact ⟨trivial, trivial, trivial⟩
      | exact ⟨hx2b, hh.snd.b⟩
      | exact ⟨by omega, ⟨hI4, hM2⟩, by assumption⟩
      | exact ⟨by omega, by omega⟩
      | exact row_setGr rfl rfl rfl hu2
      | exact ⟨⟨trivial, RowLe.refl _ _ _⟩, ⟨by rw [List.length_set, hgl2], by have := row_setGr (n := gs0.length) (gs := gs) (p := u.toNat) (g := h) rfl rfl rfl hu2; simpa only [Nat.zero_add] using this⟩, hx3, hNs⟩
    all_goals trace_state
  · have e1 := safe_complete hI2.safe
    conv => whnf
    repeat' first
      | (refine call_if (completep_at x2 gs) (by first | exact .inl rfl | exact .inr ⟨rfl, rfl⟩) (need_intro ?_ ?_); (conv => whnf))
      | (refine call_if (completer_at x2 gs) (by first | exact .inl rfl | exact .inr ⟨rfl, rfl⟩) (need_intro ?_ ?_); (conv => whnf))
      | (refine NextVC.mk (k + 1, (gs, x2, c2, ser), b) ?_ ?_ ?_; (conv => whnf))
      | (refine bc_true (by assumption) ?_; (conv => whnf))
      | (refine bc_false (by assumption) ?_; (conv => whnf))
      | (refine bc_intro (fun _ => ?_) (fun _ => ?_) <;> (conv => whnf))
      | (refine need_intro ?_ ?_; (conv => whnf))
      | (refine wk_refl ?_; (conv => whnf))
      | (refine draw_intro (by kernel_rfl) ?_; (conv => whnf))
      | (refine ord_intro (by kernel_rfl) ?_; (conv => whnf))
    all_goals try dsimp only at *
    all_goals try simp only [e1, cellsGrp, bytesGrp, decide_eq_true_eq, decide_eq_false_iff_not] at *
    all_goals try first
      | exact trivial
      | assumption
      | contradiction
      | omega
      | exact DLe.refl _
      | exact RowLe.refl _ _ _
      | exact DLe.of_eq (by rw [hsk])
      | exact ⟨rfl, rfl, rfl⟩
      | exact ⟨trivial, trivial, trivial⟩
      | exact ⟨⟨trivial, RowLe.refl _ _ _⟩, ⟨hgl2.symm, row_zero⟩, hx2m, hNb⟩
      | exact ⟨by omega, ⟨hI2.mono (by omega), hM2⟩, by assumption⟩
    all_goals trace_state
theorem collectSafe_all (dss : List (List D)) (h : All2 (wfT Tryd.prog reachBytes 12) [22] dss) : Sx.Spec Tryd.prog GG 3 (svs Tryd.prog [22] dss) [] (.d (.bool true)) [] := by
  obtain ⟨x, rfl, hx⟩ := inv1 h
  obtain ⟨l, h1, h2, h3⟩ := ints_arg hx
  obtain ⟨_, _, rfl, _⟩ := hx
  exact (collectSafe_law l h1).arg h2
end Go.Proofs.YtohenbaodklohaaDoor
