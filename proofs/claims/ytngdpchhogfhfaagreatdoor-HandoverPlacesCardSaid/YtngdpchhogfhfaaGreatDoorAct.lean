/- Contracts of functions that the law reaches: YtngdpchhogfhfaaGreatDoorAct. Written for this claim. -/
import Derived.Test.YtngdpchhogfhfaaGreatDoorNet2
import Derived.Test.YtngdpchhogfhfaaGreatDoorHan7
import Derived.Test.YtngdpchhogfhfaaGreatDoorGrpT
import Derived.Test.YtngdpchhogfhfaaGreatDoorSxHan
namespace Go.Proofs.YtngdpchhogfhfaaGreatDoor
open Go Go.Sx Go.ChangeShapes Go.WideShapes Go.ChangeAt Go.RowKit
set_option linter.unusedVariables false
set_option linter.unusedSimpArgs false
set_option maxRecDepth 100000
theorem row_setGr {gs : List GrpT} {p n : Nat} {g : GrpT} {a : Int} {b : Bool} {ms : List MemT} (ha : a = g.num) (hb : b = g.opn) (hm : ms = g.mem) (hp : p < gs.length) : RowLe n 3 (fun i' j' => if i' = 0 + p then if j' < 0 then cellOf encGrp gs i' j' else if j' < 0 + [D.int .i64 a, D.bool b, encL encMem 32 ms].length then [D.int .i64 a, D.bool b, encL encMem 32 ms].getD (j' - 0) default else cellOf encGrp gs i' j' else cellOf encGrp gs i' j')
    (cellOf encGrp (gs.set p g)) := by
  subst ha; subst hb; subst hm
  refine .of_eq fun i' j' _ hj => ?_
  by_cases hi : i' = 0 + p
  · rw [Nat.zero_add] at hi
    subst hi
    simp only [Nat.zero_add, if_true, List.length_cons, List.length_nil]
    rw [if_neg (by omega), if_pos (by omega)]
    have e : (gs.set i' g).getD i' default = g := by simp [List.getD, hp]
    simp only [cellOf, e, encGrp, Nat.sub_zero]
  · have : i' ≠ p := by omega
    simp only [if_neg hi, cellOf]
    have e : (gs.set p g).getD i' default = gs.getD i' default := by simp [List.getD, List.getElem?_set_ne (Ne.symm this)]
    rw [e]
theorem not_t {b : Bool} (h : (!b) = true) : b = false := by cases b <;> simp_all
set_option maxHeartbeats 16000000 in
theorem act0 {l : List Int} {a n : Nat} {gs : List GrpT} {N : Int} : (TapeOk l a ∧ gs.length = n ∧ 2 ≤ n ∧ n ≤ 100 ∧ InvN N gs ∧ N ≤ 1000) → ∃ x : (Nat × Nat × HEv) × Nat, ((x.1.1 < n ∧ x.1.2.1 < n) ∧ TapeOk l x.2) ∧
    Sx.Spec Tryz.prog GG 9 [.ptr 2000 0, .ptr 1000 0] [(2000, .box [.osl 3000 3 0 n, .d (.int .i64 N)]), (1000, tapeB l a), (3000, .row 34 3 n (cellOf encGrp gs))]
      (.tup [.d (.int .i64 x.1.1), .d (.int .i64 x.1.2.1)]) [(2000, .box [.osl 3000 3 0 n, .d (.int .i64 (evN N x.1.2.2))]), (1000, tapeB l x.2), (3000, .row 34 3 n (cellOf encGrp (evS N gs x.1.1 x.1.2.1 x.1.2.2)))] := by
  rintro ⟨h, hl, hn2, hn, hI, hN⟩
  refine spec_some (E := EE) (fn := Tryz.f9) _ _ _ true eok (by kernel_rfl) (by kernel_rfl) Tryz.call9 (by kernel_rfl) (fun _ => by kernel_rfl) (fun _ => by kernel_rfl) ?_
  conv => whnf
  repeat' first
    | (refine call_some_if (next_ex _ (n := (n : Int))) (fun _ => by first | exact .inl rfl | exact .inr ⟨rfl, rfl⟩) (need_intro ?_ ?_); rintro ⟨u, b⟩ ⟨⟨u1, u2⟩, h6⟩; (conv => whnf))
    | (refine call_some_if (next_ex _ (n := 4)) (fun _ => by first | exact .inl rfl | exact .inr ⟨rfl, rfl⟩) (need_intro ?_ ?_); rintro ⟨w, b⟩ ⟨⟨w1, w2⟩, h6⟩; (conv => whnf))
    | (refine bc_true (by assumption) ?_; (conv => whnf))
    | (refine bc_false (by assumption) ?_; (conv => whnf))
    | (refine need_intro ?_ ?_; (conv => whnf))
    | (refine wk_refl ?_; (conv => whnf))
    | (refine draw_intro (by kernel_rfl) ?_; (conv => whnf))
    | (refine ord_intro (by kernel_rfl) ?_; (conv => whnf))
  all_goals try dsimp only at *
  all_goals try first
    | exact ⟨by assumption, by omega, by omega⟩
  rename_i u0 b0 h60 u10 u20 b1 h61
  refine join_auto [0, 1, 6] [2000, 3000] (fun z : Nat × Nat => [(7, .d (.int .i64 z.1))]) (fun z => [(1000, tapeB l z.2)]) (fun z => z.1 < n ∧ TapeOk l z.2) (fun _ => ?_) (fun _ => ?_) ?_
  · have hw1 : IntKind.i64.wrap (u0 + 1) = u0 + 1 := wrap_of (by omega) (by omega)
    have hw4 : IntKind.i64.wrap ((n : Int) - 1) = (n : Int) - 1 := wrap_of (by omega) (by omega)
    conv => whnf
    repeat' first
      | (refine call_some_if (next_ex _ (n := 2)) (fun _ => by first | exact .inl rfl | exact .inr ⟨rfl, rfl⟩) (need_intro ?_ ?_); rintro ⟨r, b⟩ ⟨⟨r1, r2⟩, h6⟩; (conv => whnf))
      | (refine JoinVC.mk ((max 0 (min ((n : Int) - 1) (u0 + 1 - 2 * r))).toNat, b) ?_ ?_; (conv => whnf))
      | (refine bc_true (by assumption) ?_; (conv => whnf))
      | (refine bc_false (by assumption) ?_; (conv => whnf))
      | (refine need_intro ?_ ?_; (conv => whnf))
      | (refine wk_refl ?_; (conv => whnf))
      | (refine draw_intro (by kernel_rfl) ?_; (conv => whnf))
      | (refine ord_intro (by kernel_rfl) ?_; (conv => whnf))
    all_goals try dsimp only at *
    all_goals try (have hw2 : IntKind.i64.wrap (2 * r) = 2 * r := wrap_of (by omega) (by omega))
    all_goals try (have hw3 : IntKind.i64.wrap (u0 + 1 - 2 * r) = u0 + 1 - 2 * r := wrap_of (by omega) (by omega))
    all_goals first
      | exact trivial
      | exact DLe.refl _
      | exact RowLe.refl _ _ _
      | exact ⟨rfl, rfl, rfl⟩
      | exact ⟨by assumption, by omega, by omega⟩
      | exact ⟨by omega, by assumption⟩
      | (refine DLe.of_eq ?_
         rw [hw1, hw2, hw3, hw4]
         congr 1
         split <;> split <;> omega)
      | trace_state
  · conv => whnf
    repeat' first
      | (refine JoinVC.mk (u.toNat, b) ?_ ?_; (conv => whnf))
      | (refine bc_true (by assumption) ?_; (conv => whnf))
      | (refine bc_false (by assumption) ?_; (conv => whnf))
      | (refine need_intro ?_ ?_; (conv => whnf))
      | (refine wk_refl ?_; (conv => whnf))
      | (refine draw_intro (by kernel_rfl) ?_; (conv => whnf))
      | (refine ord_intro (by kernel_rfl) ?_; (conv => whnf))
    all_goals try dsimp only at *
    all_goals first
      | exact trivial
      | exact DLe.refl _
      | exact RowLe.refl _ _ _
      | exact ⟨rfl, rfl, rfl⟩
      | exact ⟨by omega, by assumption⟩
      | (refine DLe.of_eq ?_; congr 1; omega)
      | trace_state
  rintro ⟨j, b⟩ ⟨hj, hb⟩
  dsimp only at hj hb
  have hi : u0.toNat < n := by omega
  have hWi := hI.wf u0.toNat (by omega)
  have hWj := hI.wf j (by omega)
  have hgi : GrpB 1000 (gs.getD (0 + u0.toNat) default) := by rw [Nat.zero_add]; exact hWi.b
  have hgj : GrpB 1000 (gs.getD (0 + j) default) := by rw [Nat.zero_add]; exact hWj.b
  have hn1 : 1 ≤ (gs.getD (0 + u0.toNat) default).mem.length := by rw [Nat.zero_add]; exact hWi.n1
  have hnn : IntKind.i64.wrap (N + 1) = N + 1 := wrap_of (by have := hI.N0; omega) (by omega)
  conv => whnf
  repeat' first
    | (refine call_some_if (next_ex _ (n := 16)) (fun _ => by first | exact .inl rfl | exact .inr ⟨rfl, rfl⟩) (need_intro ?_ ?_); rintro ⟨v, b⟩ ⟨⟨v1, v2⟩, h6⟩; (conv => whnf))
    | (refine bc_true (by assumption) ?_; (conv => whnf))
    | (refine bc_false (by assumption) ?_; (conv => whnf))
    | (refine need_intro ?_ ?_; (conv => whnf))
    | (refine wk_refl ?_; (conv => whnf))
    | (refine draw_intro (by kernel_rfl) ?_; (conv => whnf))
    | (refine ord_intro (by kernel_rfl) ?_; (conv => whnf))
  all_goals try dsimp only at *
  all_goals try first
    | exact ⟨by assumption, by omega, by omega⟩
    | exact ⟨by omega, by omega⟩
    | omega
  refine join_auto [0, 1, 6, 7, 10] [3000] (fun z : ((GrpT × Int) × HEv) × Int × Nat => [(11, .d (.int .i64 z.1.1.2))]) (fun z => [(10, .box (grpL z.1.1.1)), (2000, .box [.osl 3000 3 0 n, .d (.int .i64 z.2.1)]), (1000, tapeB l z.2.2)])
    (fun z => (z.1.1 = evG N gs u0.toNat j z.1.2 ∧ z.2.1 = evN N z.1.2) ∧ TapeOk l z.2.2) (fun _ => ?_) (fun _ => ?_) ?_
  · conv => whnf
    repeat' first
      | (refine call_some_if (key_ex _) (fun _ => by first | exact .inl rfl | exact .inr ⟨rfl, rfl⟩) (need_intro ?_ ?_); rintro ⟨k, b⟩ ⟨hk, h6⟩; (conv => whnf))
      | (refine call_some_if (next_ex _ (n := 2)) (fun _ => by first | exact .inl rfl | exact .inr ⟨rfl, rfl⟩) (need_intro ?_ ?_); rintro ⟨sd, b⟩ ⟨⟨s1, s2⟩, h6⟩; (conv => whnf))
      | (refine call_some_if (bool_ex _ (n := 3)) (fun _ => by first | exact .inl rfl | exact .inr ⟨rfl, rfl⟩) (need_intro ?_ ?_); rintro ⟨q, b⟩ h6; (conv => whnf))
      | (refine bc_true (by assumption) ?_; (conv => whnf))
      | (refine bc_false (by assumption) ?_; (conv => whnf))
      | (refine need_intro ?_ ?_; (conv => whnf))
      | (refine wk_refl ?_; (conv => whnf))
      | (refine draw_intro (by kernel_rfl) ?_; (conv => whnf))
      | (refine ord_intro (by kernel_rfl) ?_; (conv => whnf))
    all_goals try dsimp only at *
    all_goals try first
      | assumption
      | exact ⟨by assumption, by omega, by omega⟩
    refine join_auto [0, 1, 6, 7, 8, 9, 10, 11, 13, 14] [8, 9, 2000, 3000, 1000, 10] (fun z : List UInt8 × Bool => []) (fun z => [(13, .box [.d (.str z.1), .d (.bool z.2)])]) (fun z => True) (fun _ => ?_) (fun _ => ?_) ?_
    · conv => whnf
      repeat' first
        | (refine JoinVC.mk ((gs.getD (0 + u0.toNat) default).mem.getD 0 default).copy.lo ?_ ?_; (conv => whnf))
        | (refine bc_true (by assumption) ?_; (conv => whnf))
        | (refine bc_false (by assumption) ?_; (conv => whnf))
        | (refine need_intro ?_ ?_; (conv => whnf))
        | (refine wk_refl ?_; (conv => whnf))
        | (refine draw_intro (by kernel_rfl) ?_; (conv => whnf))
        | (refine ord_intro (by kernel_rfl) ?_; (conv => whnf))
      all_goals try dsimp only at *
      all_goals first
        | exact trivial
        | exact DLe.refl _
        | exact DLe.of_eq rfl
        | exact RowLe.refl _ _ _
        | exact ⟨rfl, rfl, rfl⟩
        | exact ⟨Int.le_refl 0, by show (0 : Int) < (((gs.getD (0 + u0.toNat) default).mem.length : Nat) : Int); omega⟩
        | trace_state
    · conv => whnf
      repeat' first
        | (refine JoinVC.mk (k, false) ?_ ?_; (conv => whnf))
        | (refine bc_true (by assumption) ?_; (conv => whnf))
        | (refine bc_false (by assumption) ?_; (conv => whnf))
        | (refine need_intro ?_ ?_; (conv => whnf))
        | (refine wk_refl ?_; (conv => whnf))
        | (refine draw_intro (by kernel_rfl) ?_; (conv => whnf))
        | (refine ord_intro (by kernel_rfl) ?_; (conv => whnf))
      all_goals try dsimp only at *
      all_goals first
        | exact trivial
        | exact DLe.refl _
        | exact RowLe.refl _ _ _
        | exact ⟨rfl, rfl, rfl⟩
        | trace_state
    rintro ⟨k, kt⟩ _
    conv => whnf
    repeat' first
      | (refine call_if (freezep_spec (gs.getD (0 + u0.toNat) default) k kt _ _ (gs.getD (0 + j) default).num) (by first | exact .inl rfl | exact .inr ⟨rfl, rfl⟩) (need_intro ?_ ?_); (conv => whnf))
      | (refine JoinVC.mk ((freezeG (gs.getD (0 + u0.toNat) default) k kt sd (N + 1) (gs.getD (0 + j) default).num, HEv.freeze k kt sd), N + 1, b) ?_ ?_; (conv => whnf))
      | (refine bc_true (by assumption) ?_; (conv => whnf))
      | (refine bc_false (by assumption) ?_; (conv => whnf))
      | (refine need_intro ?_ ?_; (conv => whnf))
      | (refine wk_refl ?_; (conv => whnf))
      | (refine draw_intro (by kernel_rfl) ?_; (conv => whnf))
      | (refine ord_intro (by kernel_rfl) ?_; (conv => whnf))
    all_goals try dsimp only at *
    all_goals first
      | exact trivial
      | exact DLe.refl _
      | exact RowLe.refl _ _ _
      | exact ⟨rfl, rfl, rfl⟩
      | exact hgi
      | exact DLe.of_eq (by rw [hnn])
      | exact DLe.of_eq (by rw [hnn]; rfl)
      | exact ⟨⟨by simp only [evG, Nat.zero_add], rfl⟩, by assumption⟩
      | trace_state
  · conv => whnf
    repeat' first
      | (refine call_if (deliverp_spec (gs.getD (0 + j) default) (gs.getD (0 + u0.toNat) default)) (by first | exact .inl rfl | exact .inr ⟨rfl, rfl⟩) (need_intro ?_ ?_); (conv => whnf))
      | (refine call_if (installp_spec (gs.getD (0 + u0.toNat) default)) (by first | exact .inl rfl | exact .inr ⟨rfl, rfl⟩) (need_intro ?_ ?_); (conv => whnf))
      | (refine call_if (releasep_spec (gs.getD (0 + u0.toNat) default) (gs.getD (0 + j) default)) (by first | exact .inl rfl | exact .inr ⟨rfl, rfl⟩) (need_intro ?_ ?_); (conv => whnf))
      | (refine call_if (forgetp_spec (gs.getD (0 + u0.toNat) default) (gs.getD (0 + j) default)) (by first | exact .inl rfl | exact .inr ⟨rfl, rfl⟩) (need_intro ?_ ?_); (conv => whnf))
      | (refine call_if (refusep_spec (gs.getD (0 + u0.toNat) default)) (by first | exact .inl rfl | exact .inr ⟨rfl, rfl⟩) (need_intro ?_ ?_); (conv => whnf))
      | (refine call_if (thawp_spec (gs.getD (0 + u0.toNat) default) (gs.getD (0 + j) default)) (by first | exact .inl rfl | exact .inr ⟨rfl, rfl⟩) (need_intro ?_ ?_); (conv => whnf))
      | (refine call_if (recoverr_spec (gs.getD (0 + u0.toNat) default)) (by first | exact .inl rfl | exact .inr ⟨rfl, rfl⟩) (need_intro ?_ ?_); (conv => whnf))
      | (refine call_some_if (member_ex _ (gs.getD (0 + u0.toNat) default)) (fun _ => by first | exact .inl rfl | exact .inr ⟨rfl, rfl⟩) (need_intro ?_ ?_); rintro ⟨id, b⟩ h6; (conv => whnf))
      | (refine call_if (replr_spec (gs.getD (0 + u0.toNat) default) _) (by first | exact .inl rfl | exact .inr ⟨rfl, rfl⟩) (need_intro ?_ ?_); (conv => whnf))
      | (refine call_if (liver_spec0 (gs.getD (0 + u0.toNat) default)) (by first | exact .inl rfl | exact .inr ⟨rfl, rfl⟩) (need_intro ?_ ?_); (conv => whnf))
      | (refine call_if (crashr_spec (gs.getD (0 + u0.toNat) default) _) (by first | exact .inl rfl | exact .inr ⟨rfl, rfl⟩) (need_intro ?_ ?_); (conv => whnf))
      | (refine call_intro (emptyRr_spec _ _ _ _) ?_ (by first | exact .inl rfl | exact .inr ⟨rfl, rfl⟩); (conv => whnf))
      | (refine call_some_if (writeIn_ex _) (fun _ => by first | exact .inl rfl | exact .inr ⟨rfl, rfl⟩) (need_intro ?_ ?_); rintro ⟨⟨wk, wv, wd⟩, b⟩ ⟨⟨h7, h8⟩, h6⟩; (conv => whnf))
      | (refine call_if (propr_spec (gs.getD (0 + u0.toNat) default) _) (by first | exact .inl rfl | exact .inr ⟨rfl, rfl⟩) (need_intro ?_ ?_); (conv => whnf))
      | (refine call_if (commr_spec (gs.getD (0 + u0.toNat) default)) (by first | exact .inl rfl | exact .inr ⟨rfl, rfl⟩) (need_intro ?_ ?_); (conv => whnf))
      | (refine JoinVC.mk ((fun _ _ => ((deliverG (gs.getD (0 + j) default) (gs.getD (0 + u0.toNat) default), HEv.deliver), N, b)) (show (v == 1) = true by assumption) (show (u0 != (j : Int)) = true by assumption)) ?_ ?_; (conv => whnf))
      | (refine JoinVC.mk ((fun _ _ => ((deliverG (gs.getD (0 + j) default) (gs.getD (0 + u0.toNat) default), HEv.deliver), N, b)) (show (v == 2) = true by assumption) (show (u0 != (j : Int)) = true by assumption)) ?_ ?_; (conv => whnf))
      | (refine JoinVC.mk ((fun _ => ((installG (gs.getD (0 + u0.toNat) default), HEv.install), N, b)) (show (v == 3) = true by assumption)) ?_ ?_; (conv => whnf))
      | (refine JoinVC.mk ((fun _ => ((installG (gs.getD (0 + u0.toNat) default), HEv.install), N, b)) (show (v == 4) = true by assumption)) ?_ ?_; (conv => whnf))
      | (refine JoinVC.mk ((fun _ _ => ((releaseG (gs.getD (0 + u0.toNat) default) (gs.getD (0 + j) default), HEv.release), N, b)) (show (v == 5) = true by assumption) (show (u0 != (j : Int)) = true by assumption)) ?_ ?_; (conv => whnf))
      | (refine JoinVC.mk ((fun _ _ => ((forgetG (gs.getD (0 + u0.toNat) default) (gs.getD (0 + j) default), HEv.forget), N, b)) (show (v == 6) = true by assumption) (show (u0 != (j : Int)) = true by assumption)) ?_ ?_; (conv => whnf))
      | (refine JoinVC.mk ((fun _ => ((refuseG (gs.getD (0 + u0.toNat) default), HEv.refuse), N, b)) (show (v == 7) = true by assumption)) ?_ ?_; (conv => whnf))
      | (refine JoinVC.mk ((fun _ _ => ((thawG (gs.getD (0 + u0.toNat) default) (gs.getD (0 + j) default), HEv.thaw), N, b)) (show (v == 8) = true by assumption) (show (u0 != (j : Int)) = true by assumption)) ?_ ?_; (conv => whnf))
      | (refine JoinVC.mk ((fun _ => ((((recoverG (gs.getD (0 + u0.toNat) default)).1.1, (recoverG (gs.getD (0 + u0.toNat) default)).2), HEv.recover), N, b)) (show (v == 9) = true by assumption)) ?_ ?_; (conv => whnf))
      | (refine JoinVC.mk ((fun _ => ((((recoverG (gs.getD (0 + u0.toNat) default)).1.1, (recoverG (gs.getD (0 + u0.toNat) default)).2), HEv.recover), N, b)) (show (v == 10) = true by assumption)) ?_ ?_; (conv => whnf))
      | (refine JoinVC.mk ((fun _ => ((((recoverG (gs.getD (0 + u0.toNat) default)).1.1, (recoverG (gs.getD (0 + u0.toNat) default)).2), HEv.recover), N, b)) (show (v == 11) = true by assumption)) ?_ ?_; (conv => whnf))
      | (refine JoinVC.mk ((fun _ => ((replicateG (gs.getD (0 + u0.toNat) default) id, HEv.replicate id), N, b)) (show (v == 12) = true by assumption)) ?_ ?_; (conv => whnf))
      | (refine JoinVC.mk ((fun _ _ => ((crashG (gs.getD (0 + u0.toNat) default) id, HEv.crash id), N, b)) (show (v == 13) = true by assumption) (show decide (((liveL (gs.getD (0 + u0.toNat) default).mem).length : Int) > 1) = true by assumption)) ?_ ?_; (conv => whnf))
      | (refine JoinVC.mk ((fun _ _ => ((proposeG (gs.getD (0 + u0.toNat) default) (wk, wv, wd), HEv.propose (wk, wv, wd)), N, b)) (show (v == 14) = true by assumption) (show _ = true by assumption)) ?_ ?_; (conv => whnf))
      | (refine JoinVC.mk ((fun _ => ((((commitG (gs.getD (0 + u0.toNat) default)).1.1, (commitG (gs.getD (0 + u0.toNat) default)).2), HEv.commit), N, b)) (show (v == 15) = true by assumption)) ?_ ?_; (conv => whnf))
      | (refine JoinVC.mk ((((gs.getD (0 + u0.toNat) default), 7), HEv.none), N, b) ?_ ?_; (conv => whnf))
      | (refine bc_true (by assumption) ?_; (conv => whnf))
      | (refine bc_false (by assumption) ?_; (conv => whnf))
      | (refine bc_intro (fun _ => ?_) (fun _ => ?_) <;> (conv => whnf))
      | (refine need_intro ?_ ?_; (conv => whnf))
      | (refine wk_refl ?_; (conv => whnf))
      | (refine draw_intro (by kernel_rfl) ?_; (conv => whnf))
      | (refine ord_intro (by kernel_rfl) ?_; (conv => whnf))
    all_goals try dsimp only at *
    all_goals try first
      | exact trivial
      | assumption
      | exact DLe.refl _
      | exact RowLe.refl _ _ _
      | exact ⟨rfl, rfl, rfl⟩
      | exact hgi
      | exact ⟨hgi, hgj⟩
      | exact ⟨hgj, hgi⟩
      | exact ⟨by assumption, hgi.len⟩
      | exact hgi.len
      | exact ⟨by assumption, by assumption⟩
      | (refine ⟨⟨?_, rfl⟩, by assumption⟩
         have hq := of_decide_eq_true (show decide (((liveL (gs.getD (0 + u0.toNat) default).mem).length : Int) > 1) = true by assumption)
         simp only [evG, Nat.zero_add] at hq ⊢
         rw [if_pos (by omega)])
      | exact ⟨⟨by simp only [evG, Nat.zero_add], rfl⟩, by assumption⟩
      | exact ⟨by assumption, not_t (by assumption)⟩
    all_goals trace_state
  rintro ⟨⟨⟨h, e⟩, ev⟩, N2, b⟩ ⟨⟨he, hN2⟩, hb2⟩
  dsimp only at he hN2 hb2
  have hgl : gs.length = n := hl
  have hset : e = 0 → evS N gs u0.toNat j ev = gs.set u0.toNat h := fun h0 => by
    unfold evS
    rw [← he, if_pos h0]
  have hkeep : ¬ e = 0 → evS N gs u0.toNat j ev = gs := fun h0 => by
    unfold evS
    rw [← he, if_neg h0]
  have hun : u0 = (u0.toNat : Int) := by omega
  conv => whnf
  repeat' first
    | (refine bc_true (by assumption) ?_; (conv => whnf))
    | (refine bc_false (by assumption) ?_; (conv => whnf))
    | (refine need_intro ?_ ?_; (conv => whnf))
    | (refine wk_refl ?_; (conv => whnf))
    | (refine draw_intro (by kernel_rfl) ?_; (conv => whnf))
    | (refine ord_intro (by kernel_rfl) ?_; (conv => whnf))
  refine bc_intro (fun h0 => ?_) (fun h0 => ?_)
  · conv => whnf
    repeat' first
      | (refine bc_true (by assumption) ?_; (conv => whnf))
      | (refine bc_false (by assumption) ?_; (conv => whnf))
      | (refine bc_intro (fun _ => ?_) (fun _ => ?_) <;> (conv => whnf))
      | (refine need_intro ?_ ?_; (conv => whnf))
      | (refine wk_refl ?_; (conv => whnf))
      | (refine draw_intro (by kernel_rfl) ?_; (conv => whnf))
      | (refine ord_intro (by kernel_rfl) ?_; (conv => whnf))
    all_goals try dsimp only at *
    all_goals try first
      | omega
      | exact ⟨by omega, by omega⟩
    refine ⟨((u0.toNat, j, ev), b), ⟨⟨hi, hj⟩, hb2⟩, ?_⟩
    dsimp only
    rw [hset (by simpa using h0), ← hN2]
    conv => whnf
    repeat' first
      | (refine bc_true (by assumption) ?_; (conv => whnf))
      | (refine bc_false (by assumption) ?_; (conv => whnf))
      | (refine bc_intro (fun _ => ?_) (fun _ => ?_) <;> (conv => whnf))
      | (refine need_intro ?_ ?_; (conv => whnf))
      | (refine wk_refl ?_; (conv => whnf))
      | (refine draw_intro (by kernel_rfl) ?_; (conv => whnf))
      | (refine ord_intro (by kernel_rfl) ?_; (conv => whnf))
    all_goals first
      | exact trivial
      | exact DLe.refl _
      | exact DLe.of_eq (by rw [← hun])
      | exact RowLe.refl _ _ _
      | exact ⟨rfl, rfl⟩
      | exact ⟨rfl, rfl, rfl⟩
      | exact row_setGr rfl rfl rfl (by omega)
      | trace_state
  · conv => whnf
    repeat' first
      | (refine bc_true (by assumption) ?_; (conv => whnf))
      | (refine bc_false (by assumption) ?_; (conv => whnf))
      | (refine bc_intro (fun _ => ?_) (fun _ => ?_) <;> (conv => whnf))
      | (refine need_intro ?_ ?_; (conv => whnf))
      | (refine wk_refl ?_; (conv => whnf))
      | (refine draw_intro (by kernel_rfl) ?_; (conv => whnf))
      | (refine ord_intro (by kernel_rfl) ?_; (conv => whnf))
    refine ⟨((u0.toNat, j, ev), b), ⟨⟨hi, hj⟩, hb2⟩, ?_⟩
    dsimp only
    rw [hkeep (by simpa using h0), ← hN2]
    conv => whnf
    repeat' first
      | (refine bc_true (by assumption) ?_; (conv => whnf))
      | (refine bc_false (by assumption) ?_; (conv => whnf))
      | (refine bc_intro (fun _ => ?_) (fun _ => ?_) <;> (conv => whnf))
      | (refine need_intro ?_ ?_; (conv => whnf))
      | (refine wk_refl ?_; (conv => whnf))
      | (refine draw_intro (by kernel_rfl) ?_; (conv => whnf))
      | (refine ord_intro (by kernel_rfl) ?_; (conv => whnf))
    all_goals first
      | exact trivial
      | exact DLe.refl _
      | exact DLe.of_eq (by rw [← hun])
      | exact RowLe.refl _ _ _
      | exact ⟨rfl, rfl⟩
      | exact ⟨rfl, rfl, rfl⟩
      | trace_state
end Go.Proofs.YtngdpchhogfhfaaGreatDoor
