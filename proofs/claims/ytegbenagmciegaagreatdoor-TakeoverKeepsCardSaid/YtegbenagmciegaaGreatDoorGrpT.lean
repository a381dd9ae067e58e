/- Contracts of functions that the law reaches: YtegbenagmciegaaGreatDoorGrpT. Written for this claim. -/
import Derived.Test.YtegbenagmciegaaGreatDoorGrpN
import Derived.Test.YtegbenagmciegaaGreatDoorTapeC
import Derived.Test.YtegbenagmciegaaGreatDoorTapeO
namespace Go.Proofs.YtegbenagmciegaaGreatDoor
open Go Go.Sx Go.ChangeShapes Go.WideShapes Go.ChangeAt Go.RowKit
set_option linter.unusedVariables false
set_option linter.unusedSimpArgs false
set_option maxRecDepth 100000
theorem member0 {l : List Int} {a : Nat} (g : GrpT) : (TapeOk l a ∧ g.mem.length ≤ 1000) → ∃ x : Int × Nat, TapeOk l x.2 ∧ Sx.Spec Tryz.prog GG 28 [.ptr 1000 0, .agg (grpL g)] [(1000, tapeB l a)] (.d (.int .i64 x.1)) [(1000, tapeB l x.2)] := by
  rintro ⟨h, hl⟩
  refine spec_some (E := EE) (fn := Tryz.f28) _ _ _ false eok (by kernel_rfl) (by kernel_rfl) Tryz.call28 (by kernel_rfl) (fun _ => by kernel_rfl) (fun _ => by kernel_rfl) ?_
  conv => whnf
  repeat' first
    | (refine call_some_if (bool_ex _) (fun _ => by first | exact .inl rfl | exact .inr ⟨rfl, rfl⟩) (need_intro ?_ ?_); rintro ⟨v, b⟩ h1; (conv => whnf))
    | (refine call_some_if (next_ex _) (fun _ => by first | exact .inl rfl | exact .inr ⟨rfl, rfl⟩) (need_intro ?_ ?_); rintro ⟨v, b⟩ ⟨⟨h1, h2⟩, h3⟩; (conv => whnf))
    | (refine call_some_if (pickQ_ex _ I64) (fun _ => by first | exact .inl rfl | exact .inr ⟨rfl, rfl⟩) (need_intro ?_ ?_); rintro ⟨v, b⟩ ⟨h1, h2⟩; (conv => whnf))
    | (refine bc_true (by assumption) ?_; (conv => whnf))
    | (refine bc_false (by assumption) ?_; (conv => whnf))
    | (refine bc_intro (fun _ => ?_) (fun _ => ?_) <;> (conv => whnf))
    | (refine need_intro ?_ ?_; (conv => whnf))
    | (refine wk_refl ?_; (conv => whnf))
    | (refine draw_intro (by kernel_rfl) ?_; (conv => whnf))
    | (refine ord_intro (by kernel_rfl) ?_; (conv => whnf))
  all_goals try simp only [decide_eq_true_eq, decide_eq_false_iff_not, beq_iff_eq, beq_eq_false_iff_ne, ne_eq] at *
  all_goals try first
    | assumption
    | omega
    | exact ⟨by assumption, by omega, by omega⟩
    | exact ⟨by omega, by omega⟩
  all_goals try first
    | (refine ⟨by assumption, ⟨by omega, by omega⟩, ?_⟩
       repeat' first
         | exact trivial
         | (refine ⟨_, rfl, ?_⟩
            first
              | assumption
              | (unfold I64; omega)
              | omega
              | (refine ⟨?_, ?_⟩ <;> omega))
         | apply And.intro
       done)
  all_goals first
    | exact ⟨(_, _), by assumption, LeS.refl _, LeL.refl _, trivial⟩
    | trace_state
theorem member_ex (m : Nat) {l : List Int} {a : Nat} (g : GrpT) : (TapeOk l a ∧ g.mem.length ≤ 1000) → ∃ x : Int × Nat, TapeOk l x.2 ∧ Sx.Spec Tryz.prog GG 28 [.ptr m 0, .agg (grpL g)] [(m, tapeB l a)] (.d (.int .i64 x.1)) [(m, tapeB l x.2)] := fun h => by
  obtain ⟨x, hx, hs⟩ := member0 g h
  exact ⟨x, hx, hs.at m⟩
theorem newC_ok {r : Rng} {e v : Int} {rows : List Row} (hr : emptyR' r = false) (hs : stampOk e v = true) (hq : RowsQ r.1 r.2.1 r.2.2.1 r.2.2.2 4 rows) : newC r e v rows = ({ noCopy with lk := r.1, lt := r.2.1, hk := r.2.2.1, ht := r.2.2.2, se := e, sv := v, rows := rows }, 0) ∧
    validC { noCopy with lk := r.1, lt := r.2.1, hk := r.2.2.1, ht := r.2.2.2, se := e, sv := v, rows := rows } = true ∧ Small { noCopy with lk := r.1, lt := r.2.1, hk := r.2.2.1, ht := r.2.2.2, se := e, sv := v, rows := rows } := by
  have hv : validR' r = true := by
    simp only [emptyR', emptyR, Bool.or_eq_false_iff, Bool.not_eq_false'] at hr
    exact hr.1
  have hw : inAll r rows = true := inAll_iff.2 hq.within
  have hl := hq.len
  refine ⟨by simp [newC, hv, hs, withinF, hw, validT_iff.2 hq.ok], ?_, ?_, by simp [noCopy], by simp [noCopy, noPart], by simp [noCopy, noPart]⟩
  · exact valid_of hv hs hq.ok hw (by simp [noCopy]) (by simp [noCopy]; omega) (by simp [noCopy]) rfl rfl
  · simp only; omega
theorem newr_ok (lk : List UInt8) (lt : Bool) (hk : List UInt8) (ht : Bool) (e v : Int) (rows : List Row) : (emptyR lk lt hk ht = false ∧ stampOk e v = true ∧ RowsQ lk lt hk ht 4 rows) → Sx.Spec Tryz.prog GG 75 [.agg [.d (.str lk), .d (.bool lt), .d (.str hk), .d (.bool ht)], .agg [.d (.int .i64 e), .d (.int .i64 v)], .d (encL encRow 2 rows)] []
    (.tup [.agg (copyL ⟨lk, lt, hk, ht, e, v, rows, [], noPart, noPart, 0, 0⟩), .d (.int .i64 0)]) [] := by
  rintro ⟨h1, h2, h3⟩
  have hl := h3.len
  have := newr_spec lk lt hk ht e v rows (by omega)
  rw [(newC_ok (r := (lk, lt, hk, ht)) h1 h2 h3).1] at this
  exact this
theorem newgr_ids (c : CopyT) (n : Nat) {m : Nat} {gf : Nat → Nat → D} : ((m = (idsG n).length ∧ RowLe m 1 gf (cellOf encI (idsG n))) ∧ (1 ≤ n ∧ n ≤ 5) ∧ validC c = true ∧ Small c) → Sx.Spec Tryz.prog GG 20 [.d (.int .i64 1), .d (.list m 1 gf), .agg (copyL c)] [] (.tup [.agg (grpL ⟨1, true, memG c n⟩), .d (.int .i64 0)]) [] := by
  rintro ⟨⟨rfl, hr⟩, ⟨h1, h5⟩, hv, hs⟩
  have := newgr_spec 1 (idsG n) c ⟨hs, by rw [idsG_len]; omega⟩
  rw [newG_ids h1 h5 hv] at this
  exact this.arg (LeL.cons (LeS.refl _) (LeL.cons (LeS.d (DLe.rows rfl hr)) (LeL.cons (LeS.refl _) LeL.nil)))
set_option maxHeartbeats 4000000 in
theorem group0 {l : List Int} {a : Nat} {lk : List UInt8} {lt : Bool} {hk : List UInt8} {ht : Bool} : (TapeOk l a ∧ emptyR lk lt hk ht = false) → ∃ x : (CopyT × Nat) × Nat, (((1 ≤ x.1.2 ∧ x.1.2 ≤ 4) ∧ validC x.1.1 = true ∧ Small x.1.1 ∧ x.1.1.rng = (lk, lt, hk, ht) ∧ (0 ≤ x.1.1.se ∧ x.1.1.se ≤ 2) ∧ (0 ≤ x.1.1.sv ∧ x.1.1.sv ≤ 1) ∧ x.1.1.pend = []) ∧ TapeOk l x.2) ∧
    Sx.Spec Tryz.prog GG 22 [.ptr 1000 0, .d (.int .i64 1), .agg [.d (.str lk), .d (.bool lt), .d (.str hk), .d (.bool ht)]] [(1000, tapeB l a)] (.agg (grpL ⟨1, true, memG x.1.1 x.1.2⟩)) [(1000, tapeB l x.2)] := by
  rintro ⟨h, he⟩
  refine spec_some (E := EE) (fn := Tryz.f22) _ _ _ false eok (by kernel_rfl) (by kernel_rfl) Tryz.call22 (by kernel_rfl) (fun _ => by kernel_rfl) (fun _ => by kernel_rfl) ?_
  conv => whnf
  repeat' first
    | (refine call_some_if (next_ex _) (fun _ => by first | exact .inl rfl | exact .inr ⟨rfl, rfl⟩) (need_intro ?_ ?_); rintro ⟨v, b⟩ ⟨⟨h1, h2⟩, h3⟩; (conv => whnf))
    | (refine call_some_if (rowsIn_ex _) (fun _ => by first | exact .inl rfl | exact .inr ⟨rfl, rfl⟩) (need_intro ?_ ?_); rintro ⟨rows, b⟩ ⟨hq, h5⟩; (conv => whnf))
    | (refine call_if (newr_ok _ _ _ _ _ _ _) (by first | exact .inl rfl | exact .inr ⟨rfl, rfl⟩) (need_intro ?_ ?_); (conv => whnf))
    | (refine bc_true (by assumption) ?_; (conv => whnf))
    | (refine bc_false (by assumption) ?_; (conv => whnf))
    | (refine need_intro ?_ ?_; (conv => whnf))
    | (refine wk_refl ?_; (conv => whnf))
    | (refine draw_intro (by kernel_rfl) ?_; (conv => whnf))
    | (refine ord_intro (by kernel_rfl) ?_; (conv => whnf))
  all_goals try first
    | assumption
    | exact ⟨by assumption, by omega, by omega⟩
    | (refine ⟨he, stamp_of.2 ⟨⟨?_, ?_⟩, ?_, ?_⟩, by assumption⟩ <;> simp only at * <;> omega)
  all_goals try simp only at *
  rename_i e b1 q1 q2 q3 vv b2 q4 q5 q6 b3
  have hst : stampOk e vv = true := stamp_of.2 ⟨⟨by omega, by omega⟩, by omega, by omega⟩
  obtain ⟨w1, w2, w3⟩ := newC_ok (r := (lk, lt, hk, ht)) he hst hq
  have hw1 : IntKind.i64.wrap (1 + v) = 1 + v := wrap_of (by omega) (by omega)
  have hw2 : IntKind.i64.wrap (10 * 1) = 10 := rfl
  refine loop_auto [0, 1, 6, 7, 11] [6, 7, 1000] (fun i : Nat => [(10, .d (.int .i64 i)), (9, .osl 500 1 0 (idsG i).length)]) (fun i => [(500, .row 3 1 (idsG i).length (cellOf encI (idsG i)))]) (fun i => (i : Int) ≤ 1 + v) (fun i => (1 + v).toNat - i) 0 ?_ (fun i hi => ?_) (by omega)
  · conv => whnf
    repeat' first
      | (refine bc_true (by assumption) ?_; (conv => whnf))
      | (refine bc_false (by assumption) ?_; (conv => whnf))
      | (refine bc_intro (fun _ => ?_) (fun _ => ?_) <;> (conv => whnf))
      | (refine need_intro ?_ ?_; (conv => whnf))
      | (refine wk_refl ?_; (conv => whnf))
      | (refine draw_intro (by kernel_rfl) ?_; (conv => whnf))
      | (refine ord_intro (by kernel_rfl) ?_; (conv => whnf))
    all_goals first | exact trivial | exact DLe.refl _ | exact DLe.nil | exact ⟨rfl, rfl⟩ | exact ⟨rfl, rfl, rfl⟩ | exact RowLe.refl _ _ _ | trace_state
  · have hsi : IntKind.i64.wrap ((i : Int) + 1) = ((i + 1 : Nat) : Int) := wrap_succ (n := 2000) (by omega) (by omega)
    have hw3 : IntKind.i64.wrap (IntKind.i64.wrap (10 * 1) + (i : Int)) = 10 + (i : Int) := by rw [hw2]; exact wrap_of (by omega) (by omega)
    have hil := idsG_len (n := i)
    conv => whnf
    repeat' first
      | (refine call_if (newgr_ids ⟨lk, lt, hk, ht, e, vv, rows, [], noPart, noPart, 0, 0⟩ i) (by first | exact .inl rfl | exact .inr ⟨rfl, rfl⟩) (need_intro ?_ ?_); (conv => whnf))
      | (refine NextVC.mk (i + 1) ?_ ?_ ?_; (conv => whnf))
      | (refine bc_true (by assumption) ?_; (conv => whnf))
      | (refine bc_false (by assumption) ?_; (conv => whnf))
      | (refine bc_intro (fun _ => ?_) (fun _ => ?_) <;> (conv => whnf))
      | (refine need_intro ?_ ?_; (conv => whnf))
      | (refine wk_refl ?_; (conv => whnf))
      | (refine draw_intro (by kernel_rfl) ?_; (conv => whnf))
      | (refine ord_intro (by kernel_rfl) ?_; (conv => whnf))
    all_goals try simp only [hw1, decide_eq_true_eq, decide_eq_false_iff_not] at *
    all_goals first
      | exact trivial
      | omega
      | exact DLe.refl _
      | exact DLe.of_eq (by rw [hsi])
      | exact ⟨by omega, by omega⟩
      | exact ⟨trivial, cellsIntG, by rw [idsG_succ, List.length_append, List.length_singleton]⟩
      | exact ⟨cellsIntG, trivial, by rw [idsG_succ, List.length_append, List.length_singleton]⟩
      | exact ⟨trivial, by rw [bytesIntG]; omega, by omega⟩
      | (rw [idsG_succ, List.length_append, List.length_singleton]; done)
      | (rw [idsG_succ, List.length_append, List.length_singleton]
         exact row_snoc rfl (RowLe.refl _ _ _) (jlt1 (DLe.of_eq (by rw [hw3]; rfl))))
      | exact ⟨⟨trivial, row_zero⟩, ⟨by omega, by omega⟩, w2, w3⟩
      | exact ⟨⟨rfl, row_zero⟩, ⟨by omega, by omega⟩, w2, w3⟩
      | exact ⟨((⟨lk, lt, hk, ht, e, vv, rows, [], noPart, noPart, 0, 0⟩, i), _), ⟨⟨⟨by simp only; omega, by simp only; omega⟩, w2, w3, rfl, ⟨by simp only; omega, by simp only; omega⟩, ⟨by simp only; omega, by simp only; omega⟩, rfl⟩, by assumption⟩, LeS.refl _, LeL.refl _, trivial⟩
      | trace_state
theorem group_ex (m : Nat) {l : List Int} {a : Nat} {lk : List UInt8} {lt : Bool} {hk : List UInt8} {ht : Bool} : (TapeOk l a ∧ emptyR lk lt hk ht = false) → ∃ x : (CopyT × Nat) × Nat, (((1 ≤ x.1.2 ∧ x.1.2 ≤ 4) ∧ validC x.1.1 = true ∧ Small x.1.1 ∧ x.1.1.rng = (lk, lt, hk, ht) ∧ (0 ≤ x.1.1.se ∧ x.1.1.se ≤ 2) ∧ (0 ≤ x.1.1.sv ∧ x.1.1.sv ≤ 1) ∧ x.1.1.pend = []) ∧ TapeOk l x.2) ∧
    Sx.Spec Tryz.prog GG 22 [.ptr m 0, .d (.int .i64 1), .agg [.d (.str lk), .d (.bool lt), .d (.str hk), .d (.bool ht)]] [(m, tapeB l a)] (.agg (grpL ⟨1, true, memG x.1.1 x.1.2⟩)) [(m, tapeB l x.2)] := fun h => by
  obtain ⟨x, hx, hs⟩ := group0 h
  exact ⟨x, hx, hs.at m⟩
end Go.Proofs.YtegbenagmciegaaGreatDoor
