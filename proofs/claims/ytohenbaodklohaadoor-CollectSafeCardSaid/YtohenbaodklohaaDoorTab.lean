/- Contracts of functions that the law reaches: YtohenbaodklohaaDoorTab. Written for this claim. -/
import Derived.Test.YtohenbaodklohaaDoorRep2
import Derived.Test.YtohenbaodklohaaDoorSxTab
namespace Go.Proofs.YtohenbaodklohaaDoor
open Go Go.Sx Go.ChangeShapes Go.WideShapes Go.ChangeAt Go.RowKit
set_option linter.unusedVariables false
set_option linter.unusedSimpArgs false
set_option maxRecDepth 100000
/-! the place of a bound -/
theorem len_of {rows : List Row} (h : validT rows = true) : rows.length ≤ 1099511627776 ∧ Sorted rows := ⟨by have := validT_len h; omega, (validT_iff.1 h).sorted⟩
theorem do_spec (rows : List Row) (k v : List UInt8) (d : Bool) : rows.length ≤ 1099511627776 → Sx.Spec Tryd.prog GG 69 [.d (encL encRow 2 rows), .agg [.d (.str k), .d (.str v), .d (.bool d)]] [] (.tup [.d (encL encRow 2 (doF rows (k, v, d)).1), .d (.int .i64 (doF rows (k, v, d)).2)]) [] := by
  intro hlen
  refine spec_intro (E := EE) (fn := Tryd.f69) eok (by kernel_rfl) (by kernel_rfl) Tryd.call69 (by kernel_rfl) (by kernel_rfl) ?_
  conv => whnf
  repeat' first
    | (refine call_intro (validWr_spec _ _ _) ?_ (by first | exact .inl rfl | exact .inr ⟨rfl, rfl⟩); (conv => whnf))
    | (refine call_if (withoutr_spec _ _) (by first | exact .inl rfl | exact .inr ⟨rfl, rfl⟩) (need_intro ?_ ?_); (conv => whnf))
    | (refine call_intro (refPut_spec _ _ _) ?_ (by first | exact .inl rfl | exact .inr ⟨rfl, rfl⟩); (conv => whnf))
    | (refine bc_true (by assumption) ?_; (conv => whnf))
    | (refine bc_false (by assumption) ?_; (conv => whnf))
    | (refine bc_intro (fun _ => ?_) (fun _ => ?_) <;> (conv => whnf))
    | (refine need_intro ?_ ?_; (conv => whnf))
    | (refine wk_refl ?_; (conv => whnf))
    | (refine draw_intro (by kernel_rfl) ?_; (conv => whnf))
    | (refine ord_intro (by kernel_rfl) ?_; (conv => whnf))
  all_goals try simp only [Bool.not_eq_true', Bool.not_eq_false'] at *
  all_goals first
    | omega
    | (have e : doF rows (k, v, d) = ([], 1) := by simp_all [doF]
       rw [e]; exact ⟨LeS.tup (LeL.cons (les_nil rfl) (LeL.cons (LeS.refl _) LeL.nil)), trivial⟩)
    | (have e : doF rows (k, v, d) = (withoutF rows k, 0) := by simp_all [doF]
       rw [e]; exact ⟨LeS.refl _, trivial⟩)
    | (have e : doF rows (k, v, d) = putF rows k v := by simp_all [doF]
       rw [e]; exact ⟨LeS.refl _, trivial⟩)
    | trace_state
end Go.Proofs.YtohenbaodklohaaDoor
