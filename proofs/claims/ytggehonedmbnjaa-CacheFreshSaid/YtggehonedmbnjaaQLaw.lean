/- Contracts of functions that the law reaches: YtggehonedmbnjaaQLaw. Written for this claim. -/
import Derived.Test.YtggehonedmbnjaaQStep
namespace Go.Proofs.Ytggehonedmbnjaa
open Go Go.Sx Go.ChangeShapes Go.WideShapes Go.ChangeAt Go.RowKit
set_option linter.unusedVariables false
set_option linter.unusedSimpArgs false
set_option maxRecDepth 100000
theorem sendp_nil (node : Int) (k v : List UInt8) (has : Bool) : Sx.Spec Try.prog GG 5 [.d (.val (.slice none 0 0)), .d (.int .i64 node), .d (.str k), .d (.str v), .d (.bool has)] [] (.tup [.d (encL encLse 9 (sendL [] node k v has).1), .d (.int .i64 (sendL [] node k v has).2)]) [] :=
  (sendp_spec [] node k v has lsB_nil).arg (LeL.cons (LeS.d DLe.nil) (LeL.refl _))
def awL1 : List LseT := (sendL [] 2 [97] [49] true).1
def awL2 : List LseT := (beginL awL1 ([97], [50], false)).1
def awL3 : List LseT := (dropL awL2 2 [97]).1
theorem awake_spec : Sx.Spec Try.prog GG 8 [] [] (.d (.bool true)) [] := by
  have a1 : (sendL [] 2 [97] [49] true).2 = 0 := by kernel_rfl
  have a2 : (beginL awL1 ([97], [50], false)).2 = 0 := by kernel_rfl
  have a3 : (finishL awL2 [97]).2 = 13 := by kernel_rfl
  have a4 : (dropL awL2 2 [97]).2 = 0 := by kernel_rfl
  have a5 : (arriveL awL3 2 [97]).2 = 18 := by kernel_rfl
  have a6 : (finishL awL3 [97]).2 = 0 := by kernel_rfl
  have a7 : (finishL awL3 [97]).1.2.2.1 = [50] := by kernel_rfl
  have b1 : LsB awL1 := send_b lsB_nil
  have b2 : LsB awL2 := begin_b b1
  have b3 : LsB awL3 := drop_b b2
  refine spec_intro (E := EE) (fn := Try.f8) eok (by kernel_rfl) (by kernel_rfl) Try.call8 (by kernel_rfl) (by kernel_rfl) ?_
  conv => whnf
  repeat' first
    | (refine call_intro (sendp_nil _ _ _ _) ?_ (by first | exact .inl rfl | exact .inr ⟨rfl, rfl⟩); (conv => whnf))
    | (refine call_intro (beginp_spec awL1 [97] [50] false b1) ?_ (by first | exact .inl rfl | exact .inr ⟨rfl, rfl⟩); (conv => whnf))
    | (refine call_intro (finishp_spec awL2 _ b2) ?_ (by first | exact .inl rfl | exact .inr ⟨rfl, rfl⟩); (conv => whnf))
    | (refine call_intro (dropp_spec awL2 _ _ b2) ?_ (by first | exact .inl rfl | exact .inr ⟨rfl, rfl⟩); (conv => whnf))
    | (refine call_intro (arrivep_spec awL3 _ _ b3) ?_ (by first | exact .inl rfl | exact .inr ⟨rfl, rfl⟩); (conv => whnf))
    | (refine call_intro (finishp_spec awL3 _ b3) ?_ (by first | exact .inl rfl | exact .inr ⟨rfl, rfl⟩); (conv => whnf))
    | (refine bc_true (by assumption) ?_; (conv => whnf))
    | (refine bc_false (by assumption) ?_; (conv => whnf))
    | (refine bc_intro (fun _ => ?_) (fun _ => ?_) <;> (conv => whnf))
    | (refine need_intro ?_ ?_; (conv => whnf))
    | (refine wk_refl ?_; (conv => whnf))
    | (refine draw_intro (by kernel_rfl) ?_; (conv => whnf))
    | (refine ord_intro (by kernel_rfl) ?_; (conv => whnf))
  all_goals try simp only [a1, a2, a3, a4, a5, a6, a7] at *
  all_goals first
    | exact ⟨LeS.refl _, trivial⟩
    | contradiction
    | (exfalso; simp at *; done)
    | trace_state
end Go.Proofs.Ytggehonedmbnjaa
