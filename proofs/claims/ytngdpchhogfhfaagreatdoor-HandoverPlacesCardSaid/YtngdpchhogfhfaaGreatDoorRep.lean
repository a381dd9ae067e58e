/- Contracts of functions that the law reaches: YtngdpchhogfhfaaGreatDoorRep. Written for this claim. -/
import Derived.Test.YtngdpchhogfhfaaGreatDoorInter
import Derived.Test.YtngdpchhogfhfaaGreatDoorSxTab
namespace Go.Proofs.YtngdpchhogfhfaaGreatDoor
open Go Go.Sx Go.ChangeShapes Go.WideShapes Go.ChangeAt Go.RowKit
set_option linter.unusedVariables false
set_option linter.unusedSimpArgs false
set_option maxRecDepth 100000
theorem validp_spec (c : CopyT) : (c.rows.length ≤ 1000000 ∧ c.pend.length ≤ 1000000 ∧ c.out.rows.length ≤ 4398046511104 ∧ c.inn.rows.length ≤ 4398046511104) → Sx.Spec Tryz.prog GG 87 [.agg (copyL c)] [] (.d (.bool (validC c))) [] := by
  rintro ⟨hr, hp, ho, hi⟩
  have w1 : IntKind.i64.wrap ((c.rows.length : Int) + (c.pend.length : Int)) = ((c.rows.length + c.pend.length : Nat) : Int) := by rw [wrap_of (by omega) (by omega)]; omega
  refine spec_intro (E := EE) (fn := Tryz.f87) eok (by kernel_rfl) (by kernel_rfl) Tryz.call87 (by kernel_rfl) (by kernel_rfl) ?_
  conv => whnf
  repeat' first
    | (refine call_intro (validRp_spec _ _ _ _) ?_ (by first | exact .inl rfl | exact .inr ⟨rfl, rfl⟩); (conv => whnf))
    | (refine call_intro (stampOkp_spec _ _) ?_ (by first | exact .inl rfl | exact .inr ⟨rfl, rfl⟩); (conv => whnf))
    | (refine call_if (withinp_spec _ _ _ _ _) (by first | exact .inl rfl | exact .inr ⟨rfl, rfl⟩) (need_intro ?_ ?_); (conv => whnf))
    | (refine bc_true (by assumption) ?_; (conv => whnf))
    | (refine bc_false (by assumption) ?_; (conv => whnf))
    | (refine bc_intro (fun _ => ?_) (fun _ => ?_) <;> (conv => whnf))
    | (refine need_intro ?_ ?_; (conv => whnf))
    | (refine wk_refl ?_; (conv => whnf))
    | (refine draw_intro (by kernel_rfl) ?_; (conv => whnf))
    | (refine ord_intro (by kernel_rfl) ?_; (conv => whnf))
  all_goals try simp only [w1, decide_eq_true_eq, decide_eq_false_iff_not, Bool.not_eq_true', Bool.not_eq_false'] at *
  all_goals try first
    | omega
    | (have e : headC c = false := by
         first
           | (simp_all [headC, validR', CopyT.rng]; done)
           | (simp_all [headC, validR', CopyT.rng]; omega)
           | (simp_all [headC, validR', CopyT.rng]; intros; omega)
       have e2 : validC c = false := by simp only [validC, e, Bool.false_and]
       rw [e2]; exact ⟨LeS.refl _, trivial⟩)
  have hh : headC c = true := by
    first
      | (simp_all [headC, validR', CopyT.rng]; done)
      | (simp_all [headC, validR', CopyT.rng]; omega)
  refine loop_auto [1, 40, 41] [1] (fun i : Nat => [(42, .d (.int .i64 i))]) (fun i => []) (fun i => i ≤ c.pend.length ∧ ∀ j, j < i → pendOk c.rng (c.pend.getD j default) = true) (fun i => c.pend.length - i) 0 ?_ (fun i hx => ?_) ⟨Nat.zero_le _, fun j hj => absurd hj (Nat.not_lt_zero j)⟩
  · conv => whnf
    repeat' first
      | (refine bc_true (by assumption) ?_; (conv => whnf))
      | (refine bc_false (by assumption) ?_; (conv => whnf))
      | (refine bc_intro (fun _ => ?_) (fun _ => ?_) <;> (conv => whnf))
      | (refine need_intro ?_ ?_; (conv => whnf))
      | (refine wk_refl ?_; (conv => whnf))
      | (refine draw_intro (by kernel_rfl) ?_; (conv => whnf))
      | (refine ord_intro (by kernel_rfl) ?_; (conv => whnf))
    all_goals first | exact ⟨rfl, rfl⟩ | exact ⟨rfl, rfl, rfl⟩ | exact DLe.refl _ | exact RowLe.refl _ _ _ | exact trivial
  · obtain ⟨hil, hc⟩ := hx
    have hs : IntKind.i64.wrap ((i : Int) + 1) = ((i + 1 : Nat) : Int) := wrap_succ (n := 8796093022209) (by omega) (by omega)
    conv => whnf
    repeat' first
      | (refine call_intro (validWp_spec _ _ _) ?_ (by first | exact .inl rfl | exact .inr ⟨rfl, rfl⟩); (conv => whnf))
      | (refine call_intro (containsRp_spec _ _ _ _ _) ?_ (by first | exact .inl rfl | exact .inr ⟨rfl, rfl⟩); (conv => whnf))
      | (refine call_if (outsidep_spec _ _ _ _ c.out) (by first | exact .inl rfl | exact .inr ⟨rfl, rfl⟩) (need_intro ?_ ?_); (conv => whnf))
      | (refine call_if (outsidep_spec _ _ _ _ c.inn) (by first | exact .inl rfl | exact .inr ⟨rfl, rfl⟩) (need_intro ?_ ?_); (conv => whnf))
      | (refine call_intro (numberedp_spec _) ?_ (by first | exact .inl rfl | exact .inr ⟨rfl, rfl⟩); (conv => whnf))
      | (refine NextVC.mk (i + 1) ?_ ?_ ?_; (conv => whnf))
      | (refine bc_true (by assumption) ?_; (conv => whnf))
      | (refine bc_false (by assumption) ?_; (conv => whnf))
      | (refine bc_intro (fun _ => ?_) (fun _ => ?_) <;> (conv => whnf))
      | (refine need_intro ?_ ?_; (conv => whnf))
      | (refine wk_refl ?_; (conv => whnf))
      | (refine draw_intro (by kernel_rfl) ?_; (conv => whnf))
      | (refine ord_intro (by kernel_rfl) ?_; (conv => whnf))
    all_goals try simp only [decide_eq_true_eq, decide_eq_false_iff_not, Int.toNat_natCast, Bool.not_eq_true', Bool.not_eq_false'] at *
    all_goals try first
      | exact trivial
      | omega
      | exact DLe.refl _
      | exact DLe.of_eq (by rw [hs])
      | exact ⟨by omega, by omega⟩
      | (refine ⟨by omega, fun j hj => ?_⟩
         by_cases e : j = i
         · subst e
           simp only [pendOk, hasR, CopyT.rng, *, Bool.and_self]
         · exact hc j (by omega))
      | (have ep := all_false (l := c.pend) (p := pendOk c.rng) (i := i) (by omega) (by simp only [pendOk, hasR, CopyT.rng, *, Bool.false_and, Bool.and_false])
         have e2 : validC c = false := by simp only [validC, ep, Bool.false_and, Bool.and_false]
         rw [e2]; exact ⟨LeS.refl _, trivial⟩)
    all_goals
      have ep := all_true (l := c.pend) (p := pendOk c.rng) (fun j hj => hc j (by omega))
      have e2 : validC c = (partsC c && tookC c) := by simp only [validC, hh, ep, Bool.true_and]
      rw [e2]
      refine ⟨LeS.of_eq ?_, trivial⟩
      clear hc ep e2 hh
      first
        | (simp_all [partsC, tookC, serOk, outsideF, emptyR', CopyT.rng, PartT.rng]; done)
        | (have hso := ser_of (n := c.took) (by assumption) (by assumption) (by assumption)
           simp_all [partsC, tookC, outsideF, emptyR', CopyT.rng, PartT.rng]
           done)
        | (have hso := ser_of (n := c.took) (by assumption) (by assumption) (by assumption)
           simp_all [partsC, tookC, CopyT.rng, PartT.rng]
           done)
        | (have hso := ser_not (n := c.took) (by omega)
           have h0 : ¬ c.took = 0 := by omega
           simp_all [partsC, tookC, outsideF, emptyR', CopyT.rng, PartT.rng]
           done)
        | trace_state
theorem validr_spec (c : CopyT) : (c.rows.length ≤ 1000000 ∧ c.pend.length ≤ 1000000 ∧ c.out.rows.length ≤ 4398046511104 ∧ c.inn.rows.length ≤ 4398046511104) → Sx.Spec Tryz.prog GG 74 [.agg (copyL c)] [] (.d (.bool (validC c))) [] := by
  rintro ⟨hr, hp, ho, hi⟩
  have w1 : IntKind.i64.wrap ((c.rows.length : Int) + (c.pend.length : Int)) = ((c.rows.length + c.pend.length : Nat) : Int) := by rw [wrap_of (by omega) (by omega)]; omega
  refine spec_intro (E := EE) (fn := Tryz.f74) eok (by kernel_rfl) (by kernel_rfl) Tryz.call74 (by kernel_rfl) (by kernel_rfl) ?_
  conv => whnf
  repeat' first
    | (refine call_intro (validRr_spec _ _ _ _) ?_ (by first | exact .inl rfl | exact .inr ⟨rfl, rfl⟩); (conv => whnf))
    | (refine call_intro (stampOkr_spec _ _) ?_ (by first | exact .inl rfl | exact .inr ⟨rfl, rfl⟩); (conv => whnf))
    | (refine call_intro (validTr_spec _) ?_ (by first | exact .inl rfl | exact .inr ⟨rfl, rfl⟩); (conv => whnf))
    | (refine call_if (withinr_spec _ _ _ _ _) (by first | exact .inl rfl | exact .inr ⟨rfl, rfl⟩) (need_intro ?_ ?_); (conv => whnf))
    | (refine call_if (outsider_spec _ _ _ _ c.out) (by first | exact .inl rfl | exact .inr ⟨rfl, rfl⟩) (need_intro ?_ ?_); (conv => whnf))
    | (refine call_if (outsider_spec _ _ _ _ c.inn) (by first | exact .inl rfl | exact .inr ⟨rfl, rfl⟩) (need_intro ?_ ?_); (conv => whnf))
    | (refine call_intro (interr_spec _ _ _ _ _ _ _ _) ?_ (by first | exact .inl rfl | exact .inr ⟨rfl, rfl⟩); (conv => whnf))
    | (refine call_intro (emptyRr_spec _ _ _ _) ?_ (by first | exact .inl rfl | exact .inr ⟨rfl, rfl⟩); (conv => whnf))
    | (refine bc_true (by assumption) ?_; (conv => whnf))
    | (refine bc_false (by assumption) ?_; (conv => whnf))
    | (refine bc_intro (fun _ => ?_) (fun _ => ?_) <;> (conv => whnf))
    | (refine need_intro ?_ ?_; (conv => whnf))
    | (refine wk_refl ?_; (conv => whnf))
    | (refine draw_intro (by kernel_rfl) ?_; (conv => whnf))
    | (refine ord_intro (by kernel_rfl) ?_; (conv => whnf))
  all_goals try simp only [w1, decide_eq_true_eq, decide_eq_false_iff_not, Bool.not_eq_true', Bool.not_eq_false'] at *
  all_goals try first
    | omega
    | (have e : (headC c && partsC c) = false := by
         first
           | (simp_all [headC, validR', withinF, CopyT.rng]; done)
           | (simp_all [headC, validR', withinF, CopyT.rng]; omega)
           | (simp_all [headC, partsC, validR', emptyR', withinF, CopyT.rng, PartT.rng]; done)
           | (simp_all [headC, partsC, validR', emptyR', withinF, CopyT.rng, PartT.rng]; omega)
       have e2 : validC c = false := by
         rcases (Bool.and_eq_false_iff.1 e) with e | e <;> simp only [validC, e, Bool.false_and, Bool.and_false]
       rw [e2]; exact ⟨LeS.refl _, trivial⟩)
  all_goals
    have hh : headC c = true := by
      first
        | (simp_all [headC, validR', withinF, CopyT.rng]; done)
        | (simp_all [headC, validR', withinF, CopyT.rng]; omega)
        | trace_state
    have hpc : partsC c = true := by
      first
        | (simp_all [partsC, emptyR', CopyT.rng, PartT.rng]; done)
        | trace_state
    refine loop_auto [1, 81, 82] [1] (fun i : Nat => [(83, .d (.int .i64 i))]) (fun i => []) (fun i => i ≤ c.pend.length ∧ ∀ j, j < i → pendOk c.rng (c.pend.getD j default) = true) (fun i => c.pend.length - i) 0 ?_ (fun i hx => ?_) ⟨Nat.zero_le _, fun j hj => absurd hj (Nat.not_lt_zero j)⟩
    · conv => whnf
      repeat' first
        | (refine bc_true (by assumption) ?_; (conv => whnf))
        | (refine bc_false (by assumption) ?_; (conv => whnf))
        | (refine bc_intro (fun _ => ?_) (fun _ => ?_) <;> (conv => whnf))
        | (refine need_intro ?_ ?_; (conv => whnf))
        | (refine wk_refl ?_; (conv => whnf))
        | (refine draw_intro (by kernel_rfl) ?_; (conv => whnf))
        | (refine ord_intro (by kernel_rfl) ?_; (conv => whnf))
      all_goals first | exact ⟨rfl, rfl⟩ | exact ⟨rfl, rfl, rfl⟩ | exact DLe.refl _ | exact RowLe.refl _ _ _ | exact trivial
    · obtain ⟨hil, hc⟩ := hx
      have hs : IntKind.i64.wrap ((i : Int) + 1) = ((i + 1 : Nat) : Int) := wrap_succ (n := 8796093022209) (by omega) (by omega)
      conv => whnf
      repeat' first
        | (refine call_intro (validWr_spec _ _ _) ?_ (by first | exact .inl rfl | exact .inr ⟨rfl, rfl⟩); (conv => whnf))
        | (refine call_intro (containsRr_spec _ _ _ _ _) ?_ (by first | exact .inl rfl | exact .inr ⟨rfl, rfl⟩); (conv => whnf))
        | (refine call_intro (numberr_spec _) ?_ (by first | exact .inl rfl | exact .inr ⟨rfl, rfl⟩); (conv => whnf))
        | (refine call_intro (serialr_spec _) ?_ (by first | exact .inl rfl | exact .inr ⟨rfl, rfl⟩); (conv => whnf))
        | (refine NextVC.mk (i + 1) ?_ ?_ ?_; (conv => whnf))
        | (refine bc_true (by assumption) ?_; (conv => whnf))
        | (refine bc_false (by assumption) ?_; (conv => whnf))
        | (refine bc_intro (fun _ => ?_) (fun _ => ?_) <;> (conv => whnf))
        | (refine need_intro ?_ ?_; (conv => whnf))
        | (refine wk_refl ?_; (conv => whnf))
        | (refine draw_intro (by kernel_rfl) ?_; (conv => whnf))
        | (refine ord_intro (by kernel_rfl) ?_; (conv => whnf))
      all_goals try simp only [decide_eq_true_eq, decide_eq_false_iff_not, Int.toNat_natCast, Bool.not_eq_true', Bool.not_eq_false'] at *
      all_goals try first
        | exact trivial
        | omega
        | exact DLe.refl _
        | exact DLe.of_eq (by rw [hs])
        | exact ⟨by omega, by omega⟩
        | (refine ⟨by omega, fun j hj => ?_⟩
           by_cases e : j = i
           · subst e
             simp only [pendOk, hasR, CopyT.rng, *, Bool.and_self]
           · exact hc j (by omega))
        | (have ep := all_false (l := c.pend) (p := pendOk c.rng) (i := i) (by omega) (by simp only [pendOk, hasR, CopyT.rng, *, Bool.false_and, Bool.and_false])
           have e2 : validC c = false := by simp only [validC, ep, Bool.false_and, Bool.and_false]
           rw [e2]; exact ⟨LeS.refl _, trivial⟩)
      all_goals
        have ep := all_true (l := c.pend) (p := pendOk c.rng) (fun j hj => hc j (by omega))
        have e2 : validC c = tookC c := by simp only [validC, hh, hpc, ep, Bool.true_and]
        rw [e2]
        refine ⟨LeS.of_eq ?_, trivial⟩
        clear hc ep e2 hh hpc
        first
          | (simp_all [tookC]; done)
          | (simp_all [tookC, serOk]; done)
          | trace_state
end Go.Proofs.YtngdpchhogfhfaaGreatDoor
