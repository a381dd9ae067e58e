/- Contracts of functions that the law reaches: YtohenbaodklohaaDoorGrpT. Written for this claim. -/
import Derived.Test.YtohenbaodklohaaDoorGrpN
import Derived.Test.YtohenbaodklohaaDoorTapeC
import Derived.Test.YtohenbaodklohaaDoorTapeO
namespace Go.Proofs.YtohenbaodklohaaDoor
open Go Go.Sx Go.ChangeShapes Go.WideShapes Go.ChangeAt Go.RowKit
set_option linter.unusedVariables false
set_option linter.unusedSimpArgs false
set_option maxRecDepth 100000
theorem member0 {l : List Int} {a : Nat} (g : GrpT) : (TapeOk l a ∧ g.mem.length ≤ 1000) → ∃ x : Int × Nat, TapeOk l x.2 ∧ Sx.Spec Tryd.prog GG 13 [.ptr 1000 0, .agg (grpL g)] [(1000, tapeB l a)] (.d (.int .i64 x.1)) [(1000, tapeB l x.2)] := by
  rintro ⟨h, hl⟩
  refine spec_some (E := EE) (fn := Tryd.f13) _ _ _ false eok (by kernel_rfl) (by kernel_rfl) Tryd.call13 (by kernel_rfl) (fun _ => by kernel_rfl) (fun _ => by kernel_rfl) ?_
  conv => whnf
  repeat' first
    | (refine call_some_if (bool_ex _) (fun _ => by first | exact .inl rfl | exact .inr ⟨rfl, rfl⟩) (need_intro ?_ ?_); rintro ⟨v, b⟩ h1; (conv => whnf))
    | (refine call_some_if (next_ex _) (fun _ => by first | exact .inl rfl | exact .inr ⟨rfl, rfl⟩) (need_intro ?_ ?_); rintro ⟨v, b⟩ ⟨⟨h1, h2⟩, h3⟩; (conv => whnf))
    | (refine call_some_if (pickQ_ex _ I64) (fun _ => by first | exact .inl rfl | exact .inr ⟨rfl, rfl⟩) (need_intro ?_ ?_); rintro ⟨v, b⟩ ⟨h1, h2⟩; (conv => whnf))
    | (refine bc_true (by assumption) ?_; (conv => whnf))
    | (refine bc_false (by assumption) ?_; (conv => whnf))
    | (refine bc_intro (fun _ => ?_) (fun _ => ?_) <;> (conv => whnf))
    | (refine need_intro ?_ ?_; (conv => whnf))
    | (refine wk_refl ?_; (conv => whnf))
    | (refine draw_intro (by kernel_rfl) ?_; (conv => whnf))
    | (refine ord_intro (by kernel_rfl) ?_; (conv => whnf))
  all_goals try simp only [decide_eq_true_eq, decide_eq_false_iff_not, beq_iff_eq, beq_eq_false_iff_ne, ne_eq] at *
  all_goals try first
    | assumption
    | omega
    | exact ⟨by assumption, by omega, by omega⟩
    | exact ⟨by omega, by omega⟩
  all_goals try first
    | (refine ⟨by assumption, ⟨by omega, by omega⟩, ?_⟩
       repeat' first
         | exact trivial
         | (refine ⟨_, rfl, ?_⟩
            first
              | assumption
              | (unfold I64; omega)
              | omega
              | (refine ⟨?_, ?_⟩ <;> omega))
         | apply And.intro
       done)
  all_goals first
    | exact ⟨(_, _), by assumption, LeS.refl _, LeL.refl _, trivial⟩
    | trace_state
theorem member_ex (m : Nat) {l : List Int} {a : Nat} (g : GrpT) : (TapeOk l a ∧ g.mem.length ≤ 1000) → ∃ x : Int × Nat, TapeOk l x.2 ∧ Sx.Spec Tryd.prog GG 13 [.ptr m 0, .agg (grpL g)] [(m, tapeB l a)] (.d (.int .i64 x.1)) [(m, tapeB l x.2)] := fun h => by
  obtain ⟨x, hx, hs⟩ := member0 g h
  exact ⟨x, hx, hs.at m⟩
theorem newC_ok {r : Rng} {e v : Int} {rows : List Row} (hr : emptyR' r = false) (hs : stampOk e v = true) (hq : RowsQ r.1 r.2.1 r.2.2.1 r.2.2.2 4 rows) : newC r e v rows = ({ noCopy with lk := r.1, lt := r.2.1, hk := r.2.2.1, ht := r.2.2.2, se := e, sv := v, rows := rows }, 0) ∧
    validC { noCopy with lk := r.1, lt := r.2.1, hk := r.2.2.1, ht := r.2.2.2, se := e, sv := v, rows := rows } = true ∧ Small { noCopy with lk := r.1, lt := r.2.1, hk := r.2.2.1, ht := r.2.2.2, se := e, sv := v, rows := rows } := by
  have hv : validR' r = true := by
    simp only [emptyR', emptyR, Bool.or_eq_false_iff, Bool.not_eq_false'] at hr
    exact hr.1
  have hw : inAll r rows = true := inAll_iff.2 hq.within
  have hl := hq.len
  refine ⟨by simp [newC, hv, hs, withinF, hw, validT_iff.2 hq.ok], ?_, ?_, by simp [noCopy], by simp [noCopy, noPart], by simp [noCopy, noPart]⟩
  · exact valid_of hv hs hq.ok hw (by simp [noCopy]) (by simp [noCopy]; omega) (by simp [noCopy]) rfl rfl
  · simp only; omega
theorem newr_ok (lk : List UInt8) (lt : Bool) (hk : List UInt8) (ht : Bool) (e v : Int) (rows : List Row) : (emptyR lk lt hk ht = false ∧ stampOk e v = true ∧ RowsQ lk lt hk ht 4 rows) → Sx.Spec Tryd.prog GG 29 [.agg [.d (.str lk), .d (.bool lt), .d (.str hk), .d (.bool ht)], .agg [.d (.int .i64 e), .d (.int .i64 v)], .d (encL encRow 2 rows)] []
    (.tup [.agg (copyL ⟨lk, lt, hk, ht, e, v, rows, [], noPart, noPart, 0, 0⟩), .d (.int .i64 0)]) [] := by
  rintro ⟨h1, h2, h3⟩
  have hl := h3.len
  have := newr_spec lk lt hk ht e v rows (by omega)
  rw [(newC_ok (r := (lk, lt, hk, ht)) h1 h2 h3).1] at this
  exact this
theorem newgr_ids (c : CopyT) (n : Nat) {m : Nat} {gf : Nat → Nat → D} : ((m = (idsG n).length ∧ RowLe m 1 gf (cellOf encI (idsG n))) ∧ (1 ≤ n ∧ n ≤ 5) ∧ validC c = true ∧ Small c) → Sx.Spec Tryd.prog GG 31 [.d (.int .i64 1), .d (.list m 1 gf), .agg (copyL c)] [] (.tup [.agg (grpL ⟨1, true, memG c n⟩), .d (.int .i64 0)]) [] := by
  rintro ⟨⟨rfl, hr⟩, ⟨h1, h5⟩, hv, hs⟩
  have := newgr_spec 1 (idsG n) c ⟨hs, by rw [idsG_len]; omega⟩
  rw [newG_ids h1 h5 hv] at this
  exact this.arg (LeL.cons (LeS.refl _) (LeL.cons (LeS.d (DLe.rows rfl hr)) (LeL.cons (LeS.refl _) LeL.nil)))
end Go.Proofs.YtohenbaodklohaaDoor
