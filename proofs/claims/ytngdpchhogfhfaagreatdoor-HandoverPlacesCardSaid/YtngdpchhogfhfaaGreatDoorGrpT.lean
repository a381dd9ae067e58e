/- Contracts of functions that the law reaches: YtngdpchhogfhfaaGreatDoorGrpT. Written for this claim. -/
import Derived.Test.YtngdpchhogfhfaaGreatDoorGrpN
import Derived.Test.YtngdpchhogfhfaaGreatDoorTapeC
import Derived.Test.YtngdpchhogfhfaaGreatDoorTapeO
namespace Go.Proofs.YtngdpchhogfhfaaGreatDoor
open Go Go.Sx Go.ChangeShapes Go.WideShapes Go.ChangeAt Go.RowKit
set_option linter.unusedVariables false
set_option linter.unusedSimpArgs false
set_option maxRecDepth 100000
theorem member0 {l : List Int} {a : Nat} (g : GrpT) : (TapeOk l a ∧ g.mem.length ≤ 1000) → ∃ x : Int × Nat, TapeOk l x.2 ∧ Sx.Spec Tryz.prog GG 28 [.ptr 1000 0, .agg (grpL g)] [(1000, tapeB l a)] (.d (.int .i64 x.1)) [(1000, tapeB l x.2)] := by
  rintro ⟨h, hl⟩
  refine spec_some (E := EE) (fn := Tryz.f28) _ _ _ false eok (by kernel_rfl) (by kernel_rfl) Tryz.call28 (by kernel_rfl) (fun _ => by kernel_rfl) (fun _ => by kernel_rfl) ?_
  conv => whnf
  repeat' first
    | (refine call_some_if (bool_ex _) (fun _ => by first | exact .inl rfl | exact .inr ⟨rfl, rfl⟩) (need_intro ?_ ?_); rintro ⟨v, b⟩ h1; (conv => whnf))
    | (refine call_some_if (next_ex _) (fun _ => by first | exact .inl rfl | exact .inr ⟨rfl, rfl⟩) (need_intro ?_ ?_); rintro ⟨v, b⟩ ⟨⟨h1, h2⟩, h3⟩; (conv => whnf))
    | (refine call_some_if (pickQ_ex _ I64) (fun _ => by first | exact .inl rfl | exact .inr ⟨rfl, rfl⟩) (need_intro ?_ ?_); rintro ⟨v, b⟩ ⟨h1, h2⟩; (conv => whnf))
    | (refine bc_true (by assumption) ?_; (conv => whnf))
    | (refine bc_false (by assumption) ?_; (conv => whnf))
    | (refine bc_intro (fun _ => ?_) (fun _ => ?_) <;> (conv => whnf))
    | (refine need_intro ?_ ?_; (conv => whnf))
    | (refine wk_refl ?_; (conv => whnf))
    | (refine draw_intro (by kernel_rfl) ?_; (conv => whnf))
    | (refine ord_intro (by kernel_rfl) ?_; (conv => whnf))
  all_goals try simp only [decide_eq_true_eq, decide_eq_false_iff_not, beq_iff_eq, beq_eq_false_iff_ne, ne_eq] at *
  all_goals try first
    | assumption
    | omega
    | exact ⟨by assumption, by omega, by omega⟩
    | exact ⟨by omega, by omega⟩
  all_goals try first
    | (refine ⟨by assumption, ⟨by omega, by omega⟩, ?_⟩
       repeat' first
         | exact trivial
         | (refine ⟨_, rfl, ?_⟩
            first
              | assumption
              | (unfold I64; omega)
              | omega
              | (refine ⟨?_, ?_⟩ <;> omega))
         | apply And.intro
       done)
  all_goals first
    | exact ⟨(_, _), by assumption, LeS.refl _, LeL.refl _, trivial⟩
    | trace_state
theorem member_ex (m : Nat) {l : List Int} {a : Nat} (g : GrpT) : (TapeOk l a ∧ g.mem.length ≤ 1000) → ∃ x : Int × Nat, TapeOk l x.2 ∧ Sx.Spec Tryz.prog GG 28 [.ptr m 0, .agg (grpL g)] [(m, tapeB l a)] (.d (.int .i64 x.1)) [(m, tapeB l x.2)] := fun h => by
  obtain ⟨x, hx, hs⟩ := member0 g h
  exact ⟨x, hx, hs.at m⟩
end Go.Proofs.YtngdpchhogfhfaaGreatDoor
