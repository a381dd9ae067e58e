/- Contracts of functions that the law reaches: YtegbenagmciegaaGreatDoorLawT2. Written for this claim. -/
import Derived.Test.YtegbenagmciegaaGreatDoorLawT
import Derived.Test.YtegbenagmciegaaGreatDoorSxGrp
namespace Go.Proofs.YtegbenagmciegaaGreatDoor
open Go Go.Sx Go.ChangeShapes Go.WideShapes Go.ChangeAt Go.WideMaps Go.WideElems Go.RowKit
set_option linter.unusedVariables false
set_option linter.unusedSimpArgs false
set_option maxRecDepth 100000
/-! the example of chapter 26 -/
theorem ax0_small : Small ax0 := ⟨by decide, by decide, by decide, by decide⟩
theorem newg_ax {get : Nat → Nat → D} (h : RowLe 2 1 get (cellOf encI [1, 2])) : Sx.Spec Tryz.prog GG 20 [.d (.int .i64 1), .d (.list 2 1 get), .agg (rawL [] false [] true 3 0)] [] (.tup [.agg (grpL axG0), .d (.int .i64 0)]) [] := by
  have := (newgr_spec 1 [1, 2] ax0 ⟨ax0_small, by decide⟩).arg (LeL.cons (LeS.refl _) (LeL.cons (LeS.d (DLe.rows rfl h)) (LeL.cons (LeS.agg (rawL_le [] false [] true 3 0)) LeL.nil)))
  rw [ax_new] at this
  exact this
theorem propose_ax : Sx.Spec Tryz.prog GG 26 [.agg (grpL axG0), .agg [.d (.str [97]), .d (.str [49]), .d (.bool false)]] [] (.tup [.agg (grpL axG1), .d (.int .i64 0)]) [] := by
  have := propr_spec axG0 awW ax_b0
  rw [ax_prop] at this
  exact this
theorem replicate_ax : Sx.Spec Tryz.prog GG 27 [.agg (grpL axG1), .d (.int .i64 2)] [] (.tup [.agg (grpL axG2), .d (.int .i64 0)]) [] := by
  have := replr_spec axG1 2 ax_b1
  rw [ax_repl] at this
  exact this
theorem crash_ax : Sx.Spec Tryz.prog GG 30 [.agg (grpL axG2), .d (.int .i64 1)] [] (.tup [.agg (grpL axG3), .d (.int .i64 0)]) [] := by
  have := crashr_spec axG2 1 ax_b2
  rw [ax_crash] at this
  exact this
theorem cand_ax : Sx.Spec Tryz.prog GG 87 [.agg (grpL axG3)] [] (.tup [.d (.int .i64 2), .d (.bool true)]) [] := by
  have := candp_spec axG3 (by decide)
  rw [ax_cand] at this
  exact this
theorem rec_ax : Sx.Spec Tryz.prog GG 33 [.agg (grpL axG3)] [] (.tup [.agg (grpL axG4), .d (encL encWr 3 [awW]), .d (.int .i64 0)]) [] := by
  have := recoverp_spec axG3 ax_b3
  rw [ax_rec] at this
  exact this
theorem awake26_spec : Sx.Spec Tryz.prog GG 34 [] [] (.d (.bool true)) [] := by
  refine spec_intro (E := EE) (fn := Tryz.f34) eok (by kernel_rfl) (by kernel_rfl) Tryz.call34 (by kernel_rfl) (by kernel_rfl) ?_
  conv => whnf
  repeat' first
    | (refine call_intro (all_spec) ?_ (by first | exact .inl rfl | exact .inr ⟨rfl, rfl⟩); (conv => whnf))
    | (refine call_intro (newg_ax (.all (by repeat' first | exact trivial | exact rfl | apply And.intro))) ?_ (by first | exact .inl rfl | exact .inr ⟨rfl, rfl⟩); (conv => whnf))
    | (refine call_intro (propose_ax) ?_ (by first | exact .inl rfl | exact .inr ⟨rfl, rfl⟩); (conv => whnf))
    | (refine call_intro (replicate_ax) ?_ (by first | exact .inl rfl | exact .inr ⟨rfl, rfl⟩); (conv => whnf))
    | (refine call_intro (crash_ax) ?_ (by first | exact .inl rfl | exact .inr ⟨rfl, rfl⟩); (conv => whnf))
    | (refine call_intro (cand_ax) ?_ (by first | exact .inl rfl | exact .inr ⟨rfl, rfl⟩); (conv => whnf))
    | (refine call_intro (rec_ax) ?_ (by first | exact .inl rfl | exact .inr ⟨rfl, rfl⟩); (conv => whnf))
    | (refine bc_true (by assumption) ?_; (conv => whnf))
    | (refine bc_false (by assumption) ?_; (conv => whnf))
    | (refine bc_intro (fun _ => ?_) (fun _ => ?_) <;> (conv => whnf))
    | (refine need_intro ?_ ?_; (conv => whnf))
    | (refine wk_refl ?_; (conv => whnf))
    | (refine draw_intro (by kernel_rfl) ?_; (conv => whnf))
    | (refine ord_intro (by kernel_rfl) ?_; (conv => whnf))
  all_goals first
    | decide
    | exact ⟨LeS.refl _, trivial⟩
    | trace_state
end Go.Proofs.YtegbenagmciegaaGreatDoor
