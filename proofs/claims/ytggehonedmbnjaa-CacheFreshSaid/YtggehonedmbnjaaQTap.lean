/- Contracts of functions that the law reaches: YtggehonedmbnjaaQTap. Written for this claim. -/
import Derived.Test.YtggehonedmbnjaaQFin
namespace Go.Proofs.Ytggehonedmbnjaa
open Go Go.Sx Go.ChangeShapes Go.WideShapes Go.ChangeAt Go.RowKit
set_option linter.unusedVariables false
set_option linter.unusedSimpArgs false
set_option maxRecDepth 100000
def I64 (n : Int) : Prop := -9223372036854775808 ≤ n ∧ n < 9223372036854775808
theorem cellsIntG : Try.prog.cellsOf 3 = 1 := cellsI
theorem bytesIntG : Try.prog.bytesOf 3 = 8 := bytesI
theorem left0 {l : List Int} {a : Nat} : TapeOk l a → ∃ x : Bool × Nat, TapeOk l x.2 ∧ Sx.Spec Try.prog GG 10 [.ptr 1000 0] [(1000, tapeB l a)] (.d (.bool x.1)) [(1000, tapeB l x.2)] := by
  intro h
  refine spec_some (E := EE) (fn := Try.f10) _ _ _ false eok (by kernel_rfl) (by kernel_rfl) Try.call10 (by kernel_rfl) (fun _ => by kernel_rfl) (fun _ => by kernel_rfl) ?_
  conv => whnf
  repeat' first
    | (refine bc_true (by assumption) ?_; (conv => whnf))
    | (refine bc_false (by assumption) ?_; (conv => whnf))
    | (refine bc_intro (fun _ => ?_) (fun _ => ?_) <;> (conv => whnf))
    | (refine need_intro ?_ ?_; (conv => whnf))
    | (refine wk_refl ?_; (conv => whnf))
    | (refine draw_intro (by kernel_rfl) ?_; (conv => whnf))
    | (refine ord_intro (by kernel_rfl) ?_; (conv => whnf))
  all_goals exact ⟨(_, a), h, LeS.refl _, LeL.refl _, trivial⟩
theorem left_ex (m : Nat) {l : List Int} {a : Nat} : TapeOk l a → ∃ x : Bool × Nat, TapeOk l x.2 ∧ Sx.Spec Try.prog GG 10 [.ptr m 0] [(m, tapeB l a)] (.d (.bool x.1)) [(m, tapeB l x.2)] := fun h => by
  obtain ⟨x, hx, hs⟩ := left0 h
  exact ⟨x, hx, hs.at m⟩
end Go.Proofs.Ytggehonedmbnjaa
