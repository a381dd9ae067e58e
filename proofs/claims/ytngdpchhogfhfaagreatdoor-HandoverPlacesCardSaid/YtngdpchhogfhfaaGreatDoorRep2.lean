/- Contracts of functions that the law reaches: YtngdpchhogfhfaaGreatDoorRep2. Written for this claim. -/
import Derived.Test.YtngdpchhogfhfaaGreatDoorRep
import Derived.Test.YtngdpchhogfhfaaGreatDoorSxTab
namespace Go.Proofs.YtngdpchhogfhfaaGreatDoor
open Go Go.Sx Go.ChangeShapes Go.WideShapes Go.ChangeAt Go.RowKit
set_option linter.unusedVariables false
set_option linter.unusedSimpArgs false
set_option maxRecDepth 100000
theorem cellsRow' : Tryz.prog.cellsOf 87 = 2 := by kernel_rfl
theorem cellsWr : Tryz.prog.cellsOf 78 = 3 := by kernel_rfl
theorem bytesWr : Tryz.prog.bytesOf 78 = 40 := by kernel_rfl
theorem cloneR0 (xs : List Row) : xs.length ≤ 4398046511104 → Sx.Spec Tryz.prog GG 119 [.d (encL encRow 2 xs)] [] (.osl 1000 2 0 xs.length) [(1000, .row 87 2 xs.length (cellOf encRow xs))] := by
  intro hl
  refine spec_intro (E := EE) (fn := Tryz.f119) eok (by kernel_rfl) (by kernel_rfl) Tryz.call119 (by kernel_rfl) (by kernel_rfl) ?_
  conv => whnf
  repeat' first
    | (refine bc_true (by assumption) ?_; (conv => whnf))
    | (refine bc_false (by assumption) ?_; (conv => whnf))
    | (refine bc_intro (fun _ => ?_) (fun _ => ?_) <;> (conv => whnf))
    | (refine need_intro ?_ ?_; (conv => whnf))
    | (refine wk_refl ?_; (conv => whnf))
    | (refine draw_intro (by kernel_rfl) ?_; (conv => whnf))
    | (refine ord_intro (by kernel_rfl) ?_; (conv => whnf))
  all_goals try simp only [cellsRow', bytesRow, true_and, and_true] at *
  all_goals first
    | exact trivial
    | omega
    | exact DLe.refl _
    | exact RowLe.refl _ _ _
    | exact ⟨by omega, by omega⟩
    | trace_state
theorem cloneR_at (m : Nat) (xs : List Row) : xs.length ≤ 4398046511104 → Sx.Spec Tryz.prog GG 119 [.d (encL encRow 2 xs)] [] (.osl m 2 0 xs.length) [(m, .row 87 2 xs.length (cellOf encRow xs))] := fun h => (cloneR0 xs h).new1 m
theorem cloneR_spec (xs : List Row) : xs.length ≤ 4398046511104 → Sx.Spec Tryz.prog GG 119 [.d (encL encRow 2 xs)] [] (.d (encL encRow 2 xs)) [] := by
  intro hl
  refine spec_intro (E := EE) (fn := Tryz.f119) eok (by kernel_rfl) (by kernel_rfl) Tryz.call119 (by kernel_rfl) (by kernel_rfl) ?_
  conv => whnf
  repeat' first
    | (refine bc_true (by assumption) ?_; (conv => whnf))
    | (refine bc_false (by assumption) ?_; (conv => whnf))
    | (refine bc_intro (fun _ => ?_) (fun _ => ?_) <;> (conv => whnf))
    | (refine need_intro ?_ ?_; (conv => whnf))
    | (refine wk_refl ?_; (conv => whnf))
    | (refine draw_intro (by kernel_rfl) ?_; (conv => whnf))
    | (refine ord_intro (by kernel_rfl) ?_; (conv => whnf))
  all_goals try simp only [cellsRow', bytesRow, true_and, and_true] at *
  all_goals first
    | omega
    | exact ⟨by omega, by omega⟩
    | exact ⟨les_own rfl, trivial⟩
    | trace_state
theorem cloneW_spec (xs : List Wr) : xs.length ≤ 1000000 → Sx.Spec Tryz.prog GG 120 [.d (encL encWr 3 xs)] [] (.d (encL encWr 3 xs)) [] := by
  intro hl
  refine spec_intro (E := EE) (fn := Tryz.f120) eok (by kernel_rfl) (by kernel_rfl) Tryz.call120 (by kernel_rfl) (by kernel_rfl) ?_
  conv => whnf
  repeat' first
    | (refine bc_true (by assumption) ?_; (conv => whnf))
    | (refine bc_false (by assumption) ?_; (conv => whnf))
    | (refine bc_intro (fun _ => ?_) (fun _ => ?_) <;> (conv => whnf))
    | (refine need_intro ?_ ?_; (conv => whnf))
    | (refine wk_refl ?_; (conv => whnf))
    | (refine draw_intro (by kernel_rfl) ?_; (conv => whnf))
    | (refine ord_intro (by kernel_rfl) ?_; (conv => whnf))
  all_goals try simp only [cellsWr, bytesWr, true_and, and_true] at *
  all_goals first
    | omega
    | exact ⟨by omega, by omega⟩
    | exact ⟨les_own rfl, trivial⟩
    | trace_state
theorem cloneP_spec (p : PartT) : p.rows.length ≤ 4398046511104 → Sx.Spec Tryz.prog GG 121 [.agg (partL p)] [] (.agg (partL p)) [] := by
  intro h
  refine spec_intro (E := EE) (fn := Tryz.f121) eok (by kernel_rfl) (by kernel_rfl) Tryz.call121 (by kernel_rfl) (by kernel_rfl) ?_
  conv => whnf
  repeat' first
    | (refine call_if (cloneR_spec _) (by first | exact .inl rfl | exact .inr ⟨rfl, rfl⟩) (need_intro ?_ ?_); (conv => whnf))
    | (refine bc_true (by assumption) ?_; (conv => whnf))
    | (refine bc_false (by assumption) ?_; (conv => whnf))
    | (refine bc_intro (fun _ => ?_) (fun _ => ?_) <;> (conv => whnf))
    | (refine need_intro ?_ ?_; (conv => whnf))
    | (refine wk_refl ?_; (conv => whnf))
    | (refine draw_intro (by kernel_rfl) ?_; (conv => whnf))
    | (refine ord_intro (by kernel_rfl) ?_; (conv => whnf))
  all_goals first
    | omega
    | exact ⟨LeS.refl _, trivial⟩
    | trace_state
theorem cloneC_spec (c : CopyT) : (c.rows.length ≤ 1000000 ∧ c.pend.length ≤ 1000000 ∧ c.out.rows.length ≤ 4398046511104 ∧ c.inn.rows.length ≤ 4398046511104) → Sx.Spec Tryz.prog GG 91 [.agg (copyL c)] [] (.agg (copyL c)) [] := by
  rintro ⟨h1, h2, h3, h4⟩
  refine spec_intro (E := EE) (fn := Tryz.f91) eok (by kernel_rfl) (by kernel_rfl) Tryz.call91 (by kernel_rfl) (by kernel_rfl) ?_
  conv => whnf
  repeat' first
    | (refine call_if (cloneR_spec _) (by first | exact .inl rfl | exact .inr ⟨rfl, rfl⟩) (need_intro ?_ ?_); (conv => whnf))
    | (refine call_if (cloneW_spec _) (by first | exact .inl rfl | exact .inr ⟨rfl, rfl⟩) (need_intro ?_ ?_); (conv => whnf))
    | (refine call_if (cloneP_spec c.out) (by first | exact .inl rfl | exact .inr ⟨rfl, rfl⟩) (need_intro ?_ ?_); (conv => whnf))
    | (refine call_if (cloneP_spec c.inn) (by first | exact .inl rfl | exact .inr ⟨rfl, rfl⟩) (need_intro ?_ ?_); (conv => whnf))
    | (refine bc_true (by assumption) ?_; (conv => whnf))
    | (refine bc_false (by assumption) ?_; (conv => whnf))
    | (refine bc_intro (fun _ => ?_) (fun _ => ?_) <;> (conv => whnf))
    | (refine need_intro ?_ ?_; (conv => whnf))
    | (refine wk_refl ?_; (conv => whnf))
    | (refine draw_intro (by kernel_rfl) ?_; (conv => whnf))
    | (refine ord_intro (by kernel_rfl) ?_; (conv => whnf))
  all_goals first
    | omega
    | exact ⟨LeS.refl _, trivial⟩
    | trace_state
theorem cloneCR0 (c : CopyT) : (c.rows.length ≤ 1000000 ∧ c.pend.length ≤ 1000000 ∧ c.out.rows.length ≤ 4398046511104 ∧ c.inn.rows.length ≤ 4398046511104) → Sx.Spec Tryz.prog GG 91 [.agg (copyL c)] []
    (.agg [.d (.str c.lk), .d (.bool c.lt), .d (.str c.hk), .d (.bool c.ht), .d (.int .i64 c.se), .d (.int .i64 c.sv), .osl 1000 2 0 c.rows.length, .d (encL encWr 3 c.pend),
  .d (.int .i64 c.out.serial), .d (.int .i64 c.out.src), .d (.int .i64 c.out.dst), .d (.int .i64 c.out.se), .d (.int .i64 c.out.sv), .d (.str c.out.lk), .d (.bool c.out.lt), .d (.str c.out.hk), .d (.bool c.out.ht), .d (encL encRow 2 c.out.rows),
  .d (.int .i64 c.inn.serial), .d (.int .i64 c.inn.src), .d (.int .i64 c.inn.dst), .d (.int .i64 c.inn.se), .d (.int .i64 c.inn.sv), .d (.str c.inn.lk), .d (.bool c.inn.lt), .d (.str c.inn.hk), .d (.bool c.inn.ht), .d (encL encRow 2 c.inn.rows),
  .d (.int .i64 c.took), .d (.int .i64 c.src)]) [(1000, .row 87 2 c.rows.length (cellOf encRow c.rows))] := by
  rintro ⟨h1, h2, h3, h4⟩
  refine spec_intro (E := EE) (fn := Tryz.f91) eok (by kernel_rfl) (by kernel_rfl) Tryz.call91 (by kernel_rfl) (by kernel_rfl) ?_
  conv => whnf
  repeat' first
    | (refine call_if (cloneR_at 700 _) (by first | exact .inl rfl | exact .inr ⟨rfl, rfl⟩) (need_intro ?_ ?_); (conv => whnf))
    | (refine call_if (cloneW_spec _) (by first | exact .inl rfl | exact .inr ⟨rfl, rfl⟩) (need_intro ?_ ?_); (conv => whnf))
    | (refine call_if (cloneP_spec c.out) (by first | exact .inl rfl | exact .inr ⟨rfl, rfl⟩) (need_intro ?_ ?_); (conv => whnf))
    | (refine call_if (cloneP_spec c.inn) (by first | exact .inl rfl | exact .inr ⟨rfl, rfl⟩) (need_intro ?_ ?_); (conv => whnf))
    | (refine bc_true (by assumption) ?_; (conv => whnf))
    | (refine bc_false (by assumption) ?_; (conv => whnf))
    | (refine bc_intro (fun _ => ?_) (fun _ => ?_) <;> (conv => whnf))
    | (refine need_intro ?_ ?_; (conv => whnf))
    | (refine wk_refl ?_; (conv => whnf))
    | (refine draw_intro (by kernel_rfl) ?_; (conv => whnf))
    | (refine ord_intro (by kernel_rfl) ?_; (conv => whnf))
  all_goals first
    | exact trivial
    | omega
    | exact DLe.refl _
    | exact RowLe.refl _ _ _
    | trace_state
theorem cloneCR_at (m : Nat) (c : CopyT) : (c.rows.length ≤ 1000000 ∧ c.pend.length ≤ 1000000 ∧ c.out.rows.length ≤ 4398046511104 ∧ c.inn.rows.length ≤ 4398046511104) → Sx.Spec Tryz.prog GG 91 [.agg (copyL c)] []
    (.agg [.d (.str c.lk), .d (.bool c.lt), .d (.str c.hk), .d (.bool c.ht), .d (.int .i64 c.se), .d (.int .i64 c.sv), .osl m 2 0 c.rows.length, .d (encL encWr 3 c.pend),
  .d (.int .i64 c.out.serial), .d (.int .i64 c.out.src), .d (.int .i64 c.out.dst), .d (.int .i64 c.out.se), .d (.int .i64 c.out.sv), .d (.str c.out.lk), .d (.bool c.out.lt), .d (.str c.out.hk), .d (.bool c.out.ht), .d (encL encRow 2 c.out.rows),
  .d (.int .i64 c.inn.serial), .d (.int .i64 c.inn.src), .d (.int .i64 c.inn.dst), .d (.int .i64 c.inn.se), .d (.int .i64 c.inn.sv), .d (.str c.inn.lk), .d (.bool c.inn.lt), .d (.str c.inn.hk), .d (.bool c.inn.ht), .d (encL encRow 2 c.inn.rows),
  .d (.int .i64 c.took), .d (.int .i64 c.src)]) [(m, .row 87 2 c.rows.length (cellOf encRow c.rows))] := fun h => (cloneCR0 c h).new1 m
def newC (r : Rng) (e v : Int) (rows : List Row) : CopyT × Int :=
  if !(validR' r && stampOk e v) then (noCopy, 1) else if !(withinF r rows) then (noCopy, 17) else ({ noCopy with lk := r.1, lt := r.2.1, hk := r.2.2.1, ht := r.2.2.2, se := e, sv := v, rows := rows }, 0)
theorem newr_spec (lk : List UInt8) (lt : Bool) (hk : List UInt8) (ht : Bool) (e v : Int) (rows : List Row) : rows.length ≤ 1000000 → Sx.Spec Tryz.prog GG 51 [.agg [.d (.str lk), .d (.bool lt), .d (.str hk), .d (.bool ht)], .agg [.d (.int .i64 e), .d (.int .i64 v)], .d (encL encRow 2 rows)] []
    (.tup [.agg (copyL (newC (lk, lt, hk, ht) e v rows).1), .d (.int .i64 (newC (lk, lt, hk, ht) e v rows).2)]) [] := by
  intro hl
  refine spec_intro (E := EE) (fn := Tryz.f51) eok (by kernel_rfl) (by kernel_rfl) Tryz.call51 (by kernel_rfl) (by kernel_rfl) ?_
  conv => whnf
  repeat' first
    | (refine call_intro (validRr_spec _ _ _ _) ?_ (by first | exact .inl rfl | exact .inr ⟨rfl, rfl⟩); (conv => whnf))
    | (refine call_intro (stampOkr_spec _ _) ?_ (by first | exact .inl rfl | exact .inr ⟨rfl, rfl⟩); (conv => whnf))
    | (refine call_intro (validTr_spec _) ?_ (by first | exact .inl rfl | exact .inr ⟨rfl, rfl⟩); (conv => whnf))
    | (refine call_if (withinr_spec _ _ _ _ _) (by first | exact .inl rfl | exact .inr ⟨rfl, rfl⟩) (need_intro ?_ ?_); (conv => whnf))
    | (refine bc_true (by assumption) ?_; (conv => whnf))
    | (refine bc_false (by assumption) ?_; (conv => whnf))
    | (refine bc_intro (fun _ => ?_) (fun _ => ?_) <;> (conv => whnf))
    | (refine need_intro ?_ ?_; (conv => whnf))
    | (refine wk_refl ?_; (conv => whnf))
    | (refine draw_intro (by kernel_rfl) ?_; (conv => whnf))
    | (refine ord_intro (by kernel_rfl) ?_; (conv => whnf))
  all_goals try simp only [cellsRow', bytesRow, true_and, and_true] at *
  all_goals first
    | omega
    | exact ⟨by omega, by omega⟩
    | (have ee : newC (lk, lt, hk, ht) e v rows = (noCopy, 1) := by simp_all [newC, validR']
       rw [ee])
    | (have ee : newC (lk, lt, hk, ht) e v rows = (noCopy, 17) := by simp_all [newC, validR', withinF]
       rw [ee])
    | (have ee : newC (lk, lt, hk, ht) e v rows = ({ noCopy with lk := lk, lt := lt, hk := hk, ht := ht, se := e, sv := v, rows := rows }, 0) := by simp_all [newC, validR', withinF]
       rw [ee])
  all_goals try first
    | (refine ⟨LeS.tup (LeL.cons (LeS.agg ?_) (LeL.cons (LeS.refl _) LeL.nil)), trivial⟩
       repeat' first
         | exact LeL.nil
         | refine LeL.cons ?_ ?_
       all_goals first
         | exact LeS.refl _
         | exact les_own rfl
         | exact les_nil rfl
       done)
  all_goals trace_state
end Go.Proofs.YtngdpchhogfhfaaGreatDoor
