/- Contracts of functions that the law reaches: YtegbenagmciegaaGreatDoorLawT4. Written for this claim. -/
import Derived.Test.YtegbenagmciegaaGreatDoorLawT2
import Derived.Test.YtegbenagmciegaaGreatDoorSxGrp10
import Derived.Test.YtegbenagmciegaaGreatDoorSxArgD
namespace Go.Proofs.YtegbenagmciegaaGreatDoor
open Go Go.Sx Go.ChangeShapes Go.WideShapes Go.ChangeAt Go.WideMaps Go.WideElems Go.RowKit
set_option linter.unusedVariables false
set_option linter.unusedSimpArgs false
set_option maxRecDepth 100000
theorem copyB_small {c : CopyT} {n : Nat} (h : CopyB n c) (hn : n ≤ 1000000) : Small c := ⟨Nat.le_trans h.rows hn, Nat.le_trans h.pend hn, Nat.le_trans h.out.rows (by omega), Nat.le_trans h.inn.rows (by omega)⟩
theorem group0B {l : List Int} {a : Nat} {lk : List UInt8} {lt : Bool} {hk : List UInt8} {ht : Bool} : (TapeOk l a ∧ emptyR lk lt hk ht = false) → ∃ x : (CopyT × Nat) × Nat, (((1 ≤ x.1.2 ∧ x.1.2 ≤ 4) ∧ validC x.1.1 = true ∧ Small x.1.1 ∧ x.1.1.rng = (lk, lt, hk, ht) ∧ (0 ≤ x.1.1.se ∧ x.1.1.se ≤ 2) ∧ (0 ≤ x.1.1.sv ∧ x.1.1.sv ≤ 1) ∧ x.1.1.pend = [] ∧ x.1.1.out = noPart ∧ x.1.1.inn = noPart) ∧ TapeOk l x.2) ∧
    Sx.Spec Tryz.prog GG 22 [.ptr 1000 0, .d (.int .i64 1), .agg [.d (.str lk), .d (.bool lt), .d (.str hk), .d (.bool ht)]] [(1000, tapeB l a)] (.agg (grpL ⟨1, true, memG x.1.1 x.1.2⟩)) [(1000, tapeB l x.2)] := by
  rintro ⟨h, he⟩
  refine spec_some (E := EE) (fn := Tryz.f22) _ _ _ false eok (by kernel_rfl) (by kernel_rfl) Tryz.call22 (by kernel_rfl) (fun _ => by kernel_rfl) (fun _ => by kernel_rfl) ?_
  conv => whnf
  repeat' first
    | (refine call_some_if (next_ex _) (fun _ => by first | exact .inl rfl | exact .inr ⟨rfl, rfl⟩) (need_intro ?_ ?_); rintro ⟨v, b⟩ ⟨⟨h1, h2⟩, h3⟩; (conv => whnf))
    | (refine call_some_if (rowsIn_ex _) (fun _ => by first | exact .inl rfl | exact .inr ⟨rfl, rfl⟩) (need_intro ?_ ?_); rintro ⟨rows, b⟩ ⟨hq, h5⟩; (conv => whnf))
    | (refine call_if (newr_ok _ _ _ _ _ _ _) (by first | exact .inl rfl | exact .inr ⟨rfl, rfl⟩) (need_intro ?_ ?_); (conv => whnf))
    | (refine bc_true (by assumption) ?_; (conv => whnf))
    | (refine bc_false (by assumption) ?_; (conv => whnf))
    | (refine need_intro ?_ ?_; (conv => whnf))
    | (refine wk_refl ?_; (conv => whnf))
    | (refine draw_intro (by kernel_rfl) ?_; (conv => whnf))
    | (refine ord_intro (by kernel_rfl) ?_; (conv => whnf))
  all_goals try first
    | assumption
    | exact ⟨by assumption, by omega, by omega⟩
    | (refine ⟨he, stamp_of.2 ⟨⟨?_, ?_⟩, ?_, ?_⟩, by assumption⟩ <;> simp only at * <;> omega)
  all_goals try simp only at *
  rename_i e b1 q1 q2 q3 vv b2 q4 q5 q6 b3
  have hst : stampOk e vv = true := stamp_of.2 ⟨⟨by omega, by omega⟩, by omega, by omega⟩
  obtain ⟨w1, w2, w3⟩ := newC_ok (r := (lk, lt, hk, ht)) he hst hq
  have hw1 : IntKind.i64.wrap (1 + v) = 1 + v := wrap_of (by omega) (by omega)
  have hw2 : IntKind.i64.wrap (10 * 1) = 10 := rfl
  refine loop_auto [0, 1, 6, 7, 11] [6, 7, 1000] (fun i : Nat => [(10, .d (.int .i64 i)), (9, .osl 500 1 0 (idsG i).length)]) (fun i => [(500, .row 3 1 (idsG i).length (cellOf encI (idsG i)))]) (fun i => (i : Int) ≤ 1 + v) (fun i => (1 + v).toNat - i) 0 ?_ (fun i hi => ?_) (by omega)
  · conv => whnf
    repeat' first
      | (refine bc_true (by assumption) ?_; (conv => whnf))
      | (refine bc_false (by assumption) ?_; (conv => whnf))
      | (refine bc_intro (fun _ => ?_) (fun _ => ?_) <;> (conv => whnf))
      | (refine need_intro ?_ ?_; (conv => whnf))
      | (refine wk_refl ?_; (conv => whnf))
      | (refine draw_intro (by kernel_rfl) ?_; (conv => whnf))
      | (refine ord_intro (by kernel_rfl) ?_; (conv => whnf))
    all_goals first | exact trivial | exact DLe.refl _ | exact DLe.nil | exact ⟨rfl, rfl⟩ | exact ⟨rfl, rfl, rfl⟩ | exact RowLe.refl _ _ _ | trace_state
  · have hsi : IntKind.i64.wrap ((i : Int) + 1) = ((i + 1 : Nat) : Int) := wrap_succ (n := 2000) (by omega) (by omega)
    have hw3 : IntKind.i64.wrap (IntKind.i64.wrap (10 * 1) + (i : Int)) = 10 + (i : Int) := by rw [hw2]; exact wrap_of (by omega) (by omega)
    have hil := idsG_len (n := i)
    conv => whnf
    repeat' first
      | (refine call_if (newgr_ids ⟨lk, lt, hk, ht, e, vv, rows, [], noPart, noPart, 0, 0⟩ i) (by first | exact .inl rfl | exact .inr ⟨rfl, rfl⟩) (need_intro ?_ ?_); (conv => whnf))
      | (refine NextVC.mk (i + 1) ?_ ?_ ?_; (conv => whnf))
      | (refine bc_true (by assumption) ?_; (conv => whnf))
      | (refine bc_false (by assumption) ?_; (conv => whnf))
      | (refine bc_intro (fun _ => ?_) (fun _ => ?_) <;> (conv => whnf))
      | (refine need_intro ?_ ?_; (conv => whnf))
      | (refine wk_refl ?_; (conv => whnf))
      | (refine draw_intro (by kernel_rfl) ?_; (conv => whnf))
      | (refine ord_intro (by kernel_rfl) ?_; (conv => whnf))
    all_goals try simp only [hw1, decide_eq_true_eq, decide_eq_false_iff_not] at *
    all_goals first
      | exact trivial
      | omega
      | exact DLe.refl _
      | exact DLe.of_eq (by rw [hsi])
      | exact ⟨by omega, by omega⟩
      | exact ⟨trivial, cellsIntG, by rw [idsG_succ, List.length_append, List.length_singleton]⟩
      | exact ⟨cellsIntG, trivial, by rw [idsG_succ, List.length_append, List.length_singleton]⟩
      | exact ⟨trivial, by rw [bytesIntG]; omega, by omega⟩
      | (rw [idsG_succ, List.length_append, List.length_singleton]; done)
      | (rw [idsG_succ, List.length_append, List.length_singleton]
         exact row_snoc rfl (RowLe.refl _ _ _) (jlt1 (DLe.of_eq (by rw [hw3]; rfl))))
      | exact ⟨⟨trivial, row_zero⟩, ⟨by omega, by omega⟩, w2, w3⟩
      | exact ⟨⟨rfl, row_zero⟩, ⟨by omega, by omega⟩, w2, w3⟩
      | exact ⟨((⟨lk, lt, hk, ht, e, vv, rows, [], noPart, noPart, 0, 0⟩, i), _), ⟨⟨⟨by simp only; omega, by simp only; omega⟩, w2, w3, rfl, ⟨by simp only; omega, by simp only; omega⟩, ⟨by simp only; omega, by simp only; omega⟩, rfl, rfl, rfl⟩, by assumption⟩, LeS.refl _, LeL.refl _, trivial⟩
      | trace_state
theorem groupB_ex (m : Nat) {l : List Int} {a : Nat} {lk : List UInt8} {lt : Bool} {hk : List UInt8} {ht : Bool} : (TapeOk l a ∧ emptyR lk lt hk ht = false) → ∃ x : (CopyT × Nat) × Nat, (((1 ≤ x.1.2 ∧ x.1.2 ≤ 4) ∧ validC x.1.1 = true ∧ Small x.1.1 ∧ x.1.1.rng = (lk, lt, hk, ht) ∧ (0 ≤ x.1.1.se ∧ x.1.1.se ≤ 2) ∧ (0 ≤ x.1.1.sv ∧ x.1.1.sv ≤ 1) ∧ x.1.1.pend = [] ∧ x.1.1.out = noPart ∧ x.1.1.inn = noPart) ∧ TapeOk l x.2) ∧
    Sx.Spec Tryz.prog GG 22 [.ptr m 0, .d (.int .i64 1), .agg [.d (.str lk), .d (.bool lt), .d (.str hk), .d (.bool ht)]] [(m, tapeB l a)] (.agg (grpL ⟨1, true, memG x.1.1 x.1.2⟩)) [(m, tapeB l x.2)] := fun h => by
  obtain ⟨x, hx, hs⟩ := group0B h
  exact ⟨x, hx, hs.at m⟩
set_option maxHeartbeats 4000000 in
theorem event0B {l : List Int} {a : Nat} (r : Rng) (n : Nat) (g : GrpT) : (TapeOk l a ∧ (EvM r n g.mem ∧ PM g.mem) ∧ emptyR r.1 r.2.1 r.2.2.1 r.2.2.2 = false) → ∃ x : GrpT × Nat, ((EvM r (n + 1) x.1.mem ∧ PM x.1.mem) ∧ TapeOk l x.2) ∧
    Sx.Spec Tryz.prog GG 38 [.ptr 1000 0, .agg (grpL g)] [(1000, tapeB l a)] (.agg (grpL x.1)) [(1000, tapeB l x.2)] := by
  rintro ⟨hT, ⟨hE, hP⟩, he⟩
  have hb := hE.b
  have hn1 := hE.n1
  have hlen := hb.len
  have hpos : decide (((g.mem.length : Nat) : Int) > 0) = true := decide_eq_true (by omega)
  have hrng := (hE.at (i := 0) (by omega)).rng
  have hem : emptyR (own0 g).copy.lk (own0 g).copy.lt (own0 g).copy.hk (own0 g).copy.ht = false := by rw [← hrng] at he; exact he
  have hsm : Small (own0 g).copy := mem_small hb 0
  refine spec_some (E := EE) (fn := Tryz.f38) _ _ _ false eok (by kernel_rfl) (by kernel_rfl) Tryz.call38 (by kernel_rfl) (fun _ => by kernel_rfl) (fun _ => by kernel_rfl) ?_
  conv => whnf
  repeat' first
    | (refine call_some_if (next_ex _) (fun _ => by first | exact .inl rfl | exact .inr ⟨rfl, rfl⟩) (need_intro ?_ ?_); rintro ⟨v, b⟩ ⟨⟨q1, q2⟩, h6⟩; (conv => whnf))
    | (refine call_some_if (writeIn_ex _) (fun _ => by first | exact .inl rfl | exact .inr ⟨rfl, rfl⟩) (need_intro ?_ ?_); rintro ⟨⟨wk, wv, wd⟩, b⟩ ⟨⟨h7, h8⟩, h6⟩; (conv => whnf))
    | (refine call_some_if (member_ex _ g) (fun _ => by first | exact .inl rfl | exact .inr ⟨rfl, rfl⟩) (need_intro ?_ ?_); rintro ⟨id, b⟩ h6; (conv => whnf))
    | (refine call_if (propr_spec g (_, _, _)) (by first | exact .inl rfl | exact .inr ⟨rfl, rfl⟩) (need_intro ?_ ?_); (conv => whnf))
    | (refine call_if (replr_spec g _) (by first | exact .inl rfl | exact .inr ⟨rfl, rfl⟩) (need_intro ?_ ?_); (conv => whnf))
    | (refine call_if (commr_spec g) (by first | exact .inl rfl | exact .inr ⟨rfl, rfl⟩) (need_intro ?_ ?_); (conv => whnf))
    | (refine call_if (crashr_spec g _) (by first | exact .inl rfl | exact .inr ⟨rfl, rfl⟩) (need_intro ?_ ?_); (conv => whnf))
    | (refine call_if (taker_spec g) (by first | exact .inl rfl | exact .inr ⟨rfl, rfl⟩) (need_intro ?_ ?_); (conv => whnf))
    | (refine call_if (finishr_spec g) (by first | exact .inl rfl | exact .inr ⟨rfl, rfl⟩) (need_intro ?_ ?_); (conv => whnf))
    | (refine call_if (changer_nil g (own0 g).copy) (by first | exact .inl rfl | exact .inr ⟨rfl, rfl⟩) (need_intro ?_ ?_); (conv => whnf))
    | (refine bc_true (by assumption) ?_; (conv => whnf))
    | (refine bc_false (by assumption) ?_; (conv => whnf))
    | (refine bc_intro (fun _ => ?_) (fun _ => ?_) <;> (conv => whnf))
    | (refine need_intro ?_ ?_; (conv => whnf))
    | (refine wk_refl ?_; (conv => whnf))
    | (refine draw_intro (by kernel_rfl) ?_; (conv => whnf))
    | (refine ord_intro (by kernel_rfl) ?_; (conv => whnf))
  all_goals try first
    | assumption
    | exact ⟨by assumption, by omega, by omega⟩
    | exact ⟨by assumption, hem⟩
    | exact ⟨by assumption, by omega⟩
    | exact ⟨hb, hsm⟩
    | exact ⟨Int.le_refl 0, by omega⟩
  all_goals first
    | exact ⟨(_, _), ⟨⟨ev_propose hE (of_neq0 (by assumption)), pm_propose hn1 hP (of_neq0 (by assumption))⟩, by assumption⟩, LeS.refl _, LeL.refl _, trivial⟩
    | exact ⟨(_, _), ⟨⟨ev_replicate hE (of_neq0 (by assumption)), pm_replicate hn1 hP (of_neq0 (by assumption))⟩, by assumption⟩, LeS.refl _, LeL.refl _, trivial⟩
    | exact ⟨(_, _), ⟨⟨ev_commitG hE (of_neq0 (by assumption)), pm_commit hn1 hP (of_neq0 (by assumption))⟩, by assumption⟩, LeS.refl _, LeL.refl _, trivial⟩
    | exact ⟨(_, _), ⟨⟨ev_crash hE (of_neq0 (by assumption)), pm_crash hP (of_neq0 (by assumption))⟩, by assumption⟩, LeS.refl _, LeL.refl _, trivial⟩
    | exact ⟨(_, _), ⟨⟨ev_take hE (of_neq0 (by assumption)), pm_take hP (of_neq0 (by assumption))⟩, by assumption⟩, LeS.refl _, LeL.refl _, trivial⟩
    | exact ⟨(_, _), ⟨⟨ev_finish hE (of_neq0 (by assumption)), pm_finish hn1 hP (of_neq0 (by assumption))⟩, by assumption⟩, LeS.refl _, LeL.refl _, trivial⟩
    | exact ⟨(_, _), ⟨⟨ev_change hE (of_neq0 (by assumption)), pm_change hn1 hP (of_neq0 (by assumption))⟩, by assumption⟩, LeS.refl _, LeL.refl _, trivial⟩
    | exact ⟨(_, _), ⟨⟨hE.mono (by omega), hP⟩, by assumption⟩, LeS.refl _, LeL.refl _, trivial⟩
    | trace_state
theorem eventB_ex (m : Nat) {l : List Int} {a : Nat} (r : Rng) (n : Nat) (g : GrpT) : (TapeOk l a ∧ (EvM r n g.mem ∧ PM g.mem) ∧ emptyR r.1 r.2.1 r.2.2.1 r.2.2.2 = false) → ∃ x : GrpT × Nat, ((EvM r (n + 1) x.1.mem ∧ PM x.1.mem) ∧ TapeOk l x.2) ∧
    Sx.Spec Tryz.prog GG 38 [.ptr m 0, .agg (grpL g)] [(m, tapeB l a)] (.agg (grpL x.1)) [(m, tapeB l x.2)] := fun h => by
  obtain ⟨x, hx, hs⟩ := event0B r n g h
  exact ⟨x, hx, hs.at m⟩
end Go.Proofs.YtegbenagmciegaaGreatDoor
