/- Contracts of functions that the law reaches: YtegbenagmciegaaGreatDoorLawG. Written for this claim. -/
import Derived.Test.YtegbenagmciegaaGreatDoorLay
import Derived.Test.YtegbenagmciegaaGreatDoorGrpT
import Derived.Test.YtegbenagmciegaaGreatDoorSxGrp
namespace Go.Proofs.YtegbenagmciegaaGreatDoor
open Go Go.Sx Go.ChangeShapes Go.WideShapes Go.ChangeAt Go.WideMaps Go.WideElems Go.RowKit
set_option linter.unusedVariables false
set_option linter.unusedSimpArgs false
set_option maxRecDepth 100000
theorem left0 {l : List Int} {a : Nat} : TapeOk l a → ∃ x : Bool × Nat, TapeOk l x.2 ∧ Sx.Spec Tryz.prog GG 24 [.ptr 1000 0] [(1000, tapeB l a)] (.d (.bool x.1)) [(1000, tapeB l x.2)] := by
  intro h
  refine spec_some (E := EE) (fn := Tryz.f24) _ _ _ false eok (by kernel_rfl) (by kernel_rfl) Tryz.call24 (by kernel_rfl) (fun _ => by kernel_rfl) (fun _ => by kernel_rfl) ?_
  conv => whnf
  repeat' first
    | (refine bc_true (by assumption) ?_; (conv => whnf))
    | (refine bc_false (by assumption) ?_; (conv => whnf))
    | (refine bc_intro (fun _ => ?_) (fun _ => ?_) <;> (conv => whnf))
    | (refine need_intro ?_ ?_; (conv => whnf))
    | (refine wk_refl ?_; (conv => whnf))
    | (refine draw_intro (by kernel_rfl) ?_; (conv => whnf))
    | (refine ord_intro (by kernel_rfl) ?_; (conv => whnf))
  all_goals exact ⟨(_, a), h, LeS.refl _, LeL.refl _, trivial⟩
theorem left_ex (m : Nat) {l : List Int} {a : Nat} : TapeOk l a → ∃ x : Bool × Nat, TapeOk l x.2 ∧ Sx.Spec Tryz.prog GG 24 [.ptr m 0] [(m, tapeB l a)] (.d (.bool x.1)) [(m, tapeB l x.2)] := fun h => by
  obtain ⟨x, hx, hs⟩ := left0 h
  exact ⟨x, hx, hs.at m⟩
theorem cmpSr_spec (ae av be bv : Int) : Sx.Spec Tryz.prog GG 35 [.agg [.d (.int .i64 ae), .d (.int .i64 av)], .agg [.d (.int .i64 be), .d (.int .i64 bv)]] [] (.d (.int .i64 (cmpS ae av be bv))) [] := by
  refine spec_intro (E := EE) (fn := Tryz.f35) eok (by kernel_rfl) (by kernel_rfl) Tryz.call35 (by kernel_rfl) (by kernel_rfl) ?_
  conv => whnf
  repeat' first
    | (refine bc_true (by assumption) ?_; (conv => whnf))
    | (refine bc_false (by assumption) ?_; (conv => whnf))
    | (refine bc_intro (fun _ => ?_) (fun _ => ?_) <;> (conv => whnf))
    | (refine need_intro ?_ ?_; (conv => whnf))
    | (refine wk_refl ?_; (conv => whnf))
    | (refine draw_intro (by kernel_rfl) ?_; (conv => whnf))
    | (refine ord_intro (by kernel_rfl) ?_; (conv => whnf))
  all_goals try simp only [decide_eq_true_eq, decide_eq_false_iff_not, Bool.and_eq_true, Bool.and_eq_false_iff, beq_iff_eq, beq_eq_false_iff_ne, ne_eq] at *
  all_goals first
    | (refine ⟨LeS.of_eq ?_, trivial⟩
       unfold cmpS
       rw [if_pos (by omega)]
       done)
    | (refine ⟨LeS.of_eq ?_, trivial⟩
       unfold cmpS
       rw [if_neg (by omega), if_pos (by omega)]
       done)
    | (refine ⟨LeS.of_eq ?_, trivial⟩
       unfold cmpS
       rw [if_neg (by omega), if_neg (by omega)]
       done)
    | trace_state
/-! the example of chapter 25 -/
abbrev nilV : SV := .d (.val (.slice none 0 0))
/-- a copy's cells where all lists are nil -/
abbrev rawL (lk : List UInt8) (lt : Bool) (hk : List UInt8) (ht : Bool) (se sv : Int) : List SV := [.d (.str lk), .d (.bool lt), .d (.str hk), .d (.bool ht), .d (.int .i64 se), .d (.int .i64 sv), nilV, nilV,
  .d (.int .i64 0), .d (.int .i64 0), .d (.int .i64 0), .d (.int .i64 0), .d (.int .i64 0), .d (.str []), .d (.bool false), .d (.str []), .d (.bool false), nilV,
  .d (.int .i64 0), .d (.int .i64 0), .d (.int .i64 0), .d (.int .i64 0), .d (.int .i64 0), .d (.str []), .d (.bool false), .d (.str []), .d (.bool false), nilV, .d (.int .i64 0), .d (.int .i64 0)]
theorem rawL_le (lk : List UInt8) (lt : Bool) (hk : List UInt8) (ht : Bool) (se sv : Int) : LeL (rawL lk lt hk ht se sv) (copyL ⟨lk, lt, hk, ht, se, sv, [], [], noPart, noPart, 0, 0⟩) := by
  dsimp only [copyL, noPart]
  repeat' first
    | exact LeL.nil
    | refine LeL.cons ?_ ?_
  all_goals first
    | exact LeS.refl _
    | exact les_nil rfl
theorem awC0_small : Small awC0 := ⟨by decide, by decide, by decide, by decide⟩
theorem newg_aw {get : Nat → Nat → D} (h : RowLe 2 1 get (cellOf encI [1, 2])) : Sx.Spec Tryz.prog GG 19 [.d (.int .i64 1), .d (.list 2 1 get), .agg (rawL [] false [] true 1 0)] [] (.tup [.agg (grpL awG0), .d (.int .i64 0)]) [] := by
  have := (newgp_spec 1 [1, 2] awC0 ⟨awC0_small, by decide⟩).arg (LeL.cons (LeS.refl _) (LeL.cons (LeS.d (DLe.rows rfl h)) (LeL.cons (LeS.agg (rawL_le [] false [] true 1 0)) LeL.nil)))
  rw [aw_new] at this
  exact this
theorem propose_aw : Sx.Spec Tryz.prog GG 56 [.agg (grpL awG0), .agg [.d (.str [97]), .d (.str [49]), .d (.bool false)]] [] (.tup [.agg (grpL awG1), .d (.int .i64 0)]) [] := by
  have := propose_spec awG0 awW aw_b0
  rw [aw_prop] at this
  exact this
theorem commit_aw1 : Sx.Spec Tryz.prog GG 57 [.agg (grpL awG1)] [] (.tup [.agg (grpL noGrp), .agg [.d (.str []), .d (.str []), .d (.bool false)], .d (.int .i64 13)]) [] := by
  have := commitG_spec awG1 aw_b1
  rw [aw_busy] at this
  exact this
theorem replicate_aw : Sx.Spec Tryz.prog GG 58 [.agg (grpL awG1), .d (.int .i64 2)] [] (.tup [.agg (grpL awG2), .d (.int .i64 0)]) [] := by
  have := replicate_spec awG1 2 aw_b1
  rw [aw_repl] at this
  exact this
theorem commit_aw2 : Sx.Spec Tryz.prog GG 57 [.agg (grpL awG2)] [] (.tup [.agg (grpL awG3), .agg [.d (.str [97]), .d (.str [49]), .d (.bool false)], .d (.int .i64 0)]) [] := by
  have := commitG_spec awG2 aw_b2
  rw [aw_done] at this
  exact this
theorem crash_aw : Sx.Spec Tryz.prog GG 59 [.agg (grpL awG1), .d (.int .i64 2)] [] (.tup [.agg (grpL awG4), .d (.int .i64 0)]) [] := by
  have := crash_spec awG1 2 aw_b1
  rw [aw_crash] at this
  exact this
theorem commit_aw3 : Sx.Spec Tryz.prog GG 57 [.agg (grpL awG4)] [] (.tup [.agg (grpL awG5), .agg [.d (.str [97]), .d (.str [49]), .d (.bool false)], .d (.int .i64 0)]) [] := by
  have := commitG_spec awG4 aw_b4
  rw [aw_done2] at this
  exact this
theorem awake25_spec : Sx.Spec Tryz.prog GG 11 [] [] (.d (.bool true)) [] := by
  refine spec_intro (E := EE) (fn := Tryz.f11) eok (by kernel_rfl) (by kernel_rfl) Tryz.call11 (by kernel_rfl) (by kernel_rfl) ?_
  conv => whnf
  repeat' first
    | (refine call_intro (newg_aw (.all (by repeat' first | exact trivial | exact rfl | apply And.intro))) ?_ (by first | exact .inl rfl | exact .inr ⟨rfl, rfl⟩); (conv => whnf))
    | (refine call_intro (propose_aw) ?_ (by first | exact .inl rfl | exact .inr ⟨rfl, rfl⟩); (conv => whnf))
    | (refine call_intro (commit_aw1) ?_ (by first | exact .inl rfl | exact .inr ⟨rfl, rfl⟩); (conv => whnf))
    | (refine call_intro (replicate_aw) ?_ (by first | exact .inl rfl | exact .inr ⟨rfl, rfl⟩); (conv => whnf))
    | (refine call_intro (commit_aw2) ?_ (by first | exact .inl rfl | exact .inr ⟨rfl, rfl⟩); (conv => whnf))
    | (refine call_intro (crash_aw) ?_ (by first | exact .inl rfl | exact .inr ⟨rfl, rfl⟩); (conv => whnf))
    | (refine call_intro (commit_aw3) ?_ (by first | exact .inl rfl | exact .inr ⟨rfl, rfl⟩); (conv => whnf))
    | (refine bc_true (by assumption) ?_; (conv => whnf))
    | (refine bc_false (by assumption) ?_; (conv => whnf))
    | (refine bc_intro (fun _ => ?_) (fun _ => ?_) <;> (conv => whnf))
    | (refine need_intro ?_ ?_; (conv => whnf))
    | (refine wk_refl ?_; (conv => whnf))
    | (refine draw_intro (by kernel_rfl) ?_; (conv => whnf))
    | (refine ord_intro (by kernel_rfl) ?_; (conv => whnf))
  all_goals first
    | decide
    | exact ⟨LeS.refl _, trivial⟩
    | trace_state
end Go.Proofs.YtegbenagmciegaaGreatDoor
