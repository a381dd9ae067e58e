/- Contracts of functions that the law reaches: YtigmgeglnbjfeaaDoorK5. Written for this claim. -/
import Derived.Test.YtigmgeglnbjfeaaDoorK4
namespace Go.Proofs.YtigmgeglnbjfeaaDoor
open Go Go.Sx Go.ChangeShapes Go.WideShapes Go.ChangeAt Go.RowKit
set_option linter.unusedVariables false
set_option linter.unusedSimpArgs false
set_option maxRecDepth 100000
theorem fitsLp_spec (s : List Col) (l : List Fld) : (s.length ≤ 1000 ∧ l.length ≤ 1000) → Sx.Spec Tryd.prog GG 20 [.d (encL encCol 2 s), .d (encL encFld 3 l)] [] (.d (.bool (fitsL s l))) [] := by
  rintro ⟨hs1, hl1⟩
  refine spec_intro (E := EE) (fn := Tryd.f20) eok (by kernel_rfl) (by kernel_rfl) Tryd.call20 (by kernel_rfl) (by kernel_rfl) ?_
  conv => whnf
  repeat' first
    | (refine call_if (validSp_spec s) (by first | exact .inl rfl | exact .inr ⟨rfl, rfl⟩) (need_intro ?_ ?_); (conv => whnf))
    | (refine bc_true (by assumption) ?_; (conv => whnf))
    | (refine bc_false (by assumption) ?_; (conv => whnf))
    | (refine bc_intro (fun _ => ?_) (fun _ => ?_) <;> (conv => whnf))
    | (refine need_intro ?_ ?_; (conv => whnf))
    | (refine wk_refl ?_; (conv => whnf))
    | (refine draw_intro (by kernel_rfl) ?_; (conv => whnf))
    | (refine ord_intro (by kernel_rfl) ?_; (conv => whnf))
  all_goals try simp only [true_and, and_true, decide_eq_true_eq, decide_eq_false_iff_not, beq_iff_eq, bne_iff_ne, beq_eq_false_iff_ne, bne_eq_false_iff_eq, ne_eq, Decidable.not_not, Bool.not_eq_true', Bool.not_eq_false', Int.toNat_natCast] at *
  all_goals try first
    | exact hs1
    | (refine ⟨LeS.of_eq ?_, trivial⟩; rw [fitsL_v (by assumption)]; done)
    | (refine ⟨LeS.of_eq ?_, trivial⟩; rw [fitsL_n (by omega)]; done)
  refine loop_auto [0, 17, 18] [] (fun i : Nat => [(19, .d (.int .i64 i))]) (fun i => []) (fun i => i ≤ l.length ∧ ∀ j, j < i → fitsF (s.getD j default) (l.getD j default) = true) (fun i => l.length - i) 0 ?_ (fun i hi => ?_) ⟨by omega, fun j hj => absurd hj (by omega)⟩
  · conv => whnf
    repeat' first
      | (refine bc_true (by assumption) ?_; (conv => whnf))
      | (refine bc_false (by assumption) ?_; (conv => whnf))
      | (refine bc_intro (fun _ => ?_) (fun _ => ?_) <;> (conv => whnf))
      | (refine need_intro ?_ ?_; (conv => whnf))
      | (refine wk_refl ?_; (conv => whnf))
      | (refine draw_intro (by kernel_rfl) ?_; (conv => whnf))
      | (refine ord_intro (by kernel_rfl) ?_; (conv => whnf))
    all_goals first | exact trivial | exact DLe.refl _ | exact DLe.nil | exact RowLe.refl _ _ _ | exact ⟨rfl, rfl⟩ | exact ⟨rfl, rfl, rfl⟩ | trace_state
  · obtain ⟨hi, hz⟩ := hi
    have hs : IntKind.i64.wrap ((i : Int) + 1) = ((i + 1 : Nat) : Int) := wrap_succ (n := 2000) (by omega) (by omega)
    conv => whnf
    repeat' first
      | (refine call_intro (fitsFp_spec _ _ _ _ _) ?_ (by first | exact .inl rfl | exact .inr ⟨rfl, rfl⟩); (conv => whnf))
      | (refine NextVC.mk (i + 1) ?_ ?_ ?_; (conv => whnf))
      | (refine bc_true (by assumption) ?_; (conv => whnf))
      | (refine bc_false (by assumption) ?_; (conv => whnf))
      | (refine bc_intro (fun _ => ?_) (fun _ => ?_) <;> (conv => whnf))
      | (refine need_intro ?_ ?_; (conv => whnf))
      | (refine wk_refl ?_; (conv => whnf))
      | (refine draw_intro (by kernel_rfl) ?_; (conv => whnf))
      | (refine ord_intro (by kernel_rfl) ?_; (conv => whnf))
    all_goals try simp only [true_and, and_true, decide_eq_true_eq, decide_eq_false_iff_not, beq_iff_eq, bne_iff_ne, beq_eq_false_iff_ne, bne_eq_false_iff_eq, ne_eq, Decidable.not_not, Bool.not_eq_true', Bool.not_eq_false', Int.toNat_natCast] at *
    all_goals first
      | exact trivial
      | omega
      | exact DLe.refl _
      | exact DLe.of_eq (by rw [hs])
      | exact ⟨by omega, by omega⟩
      | (refine ⟨by omega, fun j hj => ?_⟩
         by_cases e : j = i
         · subst e; assumption
         · exact hz j (by omega))
      | (refine ⟨LeS.of_eq ?_, trivial⟩
         rw [fitsL_j (j := i) (by omega) (by omega) (by assumption)]; done)
      | (refine ⟨LeS.of_eq ?_, trivial⟩
         rw [fitsL_true (by assumption) (by omega) (fun j hj => hz j (by omega))]; done)
      | trace_state
theorem fitsLr_spec (s : List Col) (l : List Fld) : (s.length ≤ 1000 ∧ l.length ≤ 1000) → Sx.Spec Tryd.prog GG 21 [.d (encL encCol 2 s), .d (encL encFld 3 l)] [] (.d (.bool (fitsL s l))) [] := by
  rintro ⟨hs1, hl1⟩
  refine spec_intro (E := EE) (fn := Tryd.f21) eok (by kernel_rfl) (by kernel_rfl) Tryd.call21 (by kernel_rfl) (by kernel_rfl) ?_
  conv => whnf
  repeat' first
    | (refine call_if (validSr_spec s) (by first | exact .inl rfl | exact .inr ⟨rfl, rfl⟩) (need_intro ?_ ?_); (conv => whnf))
    | (refine bc_true (by assumption) ?_; (conv => whnf))
    | (refine bc_false (by assumption) ?_; (conv => whnf))
    | (refine bc_intro (fun _ => ?_) (fun _ => ?_) <;> (conv => whnf))
    | (refine need_intro ?_ ?_; (conv => whnf))
    | (refine wk_refl ?_; (conv => whnf))
    | (refine draw_intro (by kernel_rfl) ?_; (conv => whnf))
    | (refine ord_intro (by kernel_rfl) ?_; (conv => whnf))
  all_goals try simp only [true_and, and_true, decide_eq_true_eq, decide_eq_false_iff_not, beq_iff_eq, bne_iff_ne, beq_eq_false_iff_ne, bne_eq_false_iff_eq, ne_eq, Decidable.not_not, Bool.not_eq_true', Bool.not_eq_false', Int.toNat_natCast] at *
  all_goals try first
    | exact hs1
    | (refine ⟨LeS.of_eq ?_, trivial⟩; rw [fitsL_v (by assumption)]; done)
    | (refine ⟨LeS.of_eq ?_, trivial⟩; rw [fitsL_n (by omega)]; done)
  refine loop_auto [0, 1] [] (fun i : Nat => [(5, .d (.int .i64 i))]) (fun i => []) (fun i => i ≤ l.length ∧ ∀ j, j < i → fitsF (s.getD j default) (l.getD j default) = true) (fun i => l.length - i) 0 ?_ (fun i hi => ?_) ⟨by omega, fun j hj => absurd hj (by omega)⟩
  · conv => whnf
    repeat' first
      | (refine bc_true (by assumption) ?_; (conv => whnf))
      | (refine bc_false (by assumption) ?_; (conv => whnf))
      | (refine bc_intro (fun _ => ?_) (fun _ => ?_) <;> (conv => whnf))
      | (refine need_intro ?_ ?_; (conv => whnf))
      | (refine wk_refl ?_; (conv => whnf))
      | (refine draw_intro (by kernel_rfl) ?_; (conv => whnf))
      | (refine ord_intro (by kernel_rfl) ?_; (conv => whnf))
    all_goals first | exact trivial | exact DLe.refl _ | exact DLe.nil | exact RowLe.refl _ _ _ | exact ⟨rfl, rfl⟩ | exact ⟨rfl, rfl, rfl⟩ | trace_state
  · obtain ⟨hi, hz⟩ := hi
    have hs : IntKind.i64.wrap ((i : Int) + 1) = ((i + 1 : Nat) : Int) := wrap_succ (n := 2000) (by omega) (by omega)
    conv => whnf
    repeat' first
      | (refine call_intro (fitsFr_spec _ _ _ _ _) ?_ (by first | exact .inl rfl | exact .inr ⟨rfl, rfl⟩); (conv => whnf))
      | (refine NextVC.mk (i + 1) ?_ ?_ ?_; (conv => whnf))
      | (refine bc_true (by assumption) ?_; (conv => whnf))
      | (refine bc_false (by assumption) ?_; (conv => whnf))
      | (refine bc_intro (fun _ => ?_) (fun _ => ?_) <;> (conv => whnf))
      | (refine need_intro ?_ ?_; (conv => whnf))
      | (refine wk_refl ?_; (conv => whnf))
      | (refine draw_intro (by kernel_rfl) ?_; (conv => whnf))
      | (refine ord_intro (by kernel_rfl) ?_; (conv => whnf))
    all_goals try simp only [true_and, and_true, decide_eq_true_eq, decide_eq_false_iff_not, beq_iff_eq, bne_iff_ne, beq_eq_false_iff_ne, bne_eq_false_iff_eq, ne_eq, Decidable.not_not, Bool.not_eq_true', Bool.not_eq_false', Int.toNat_natCast] at *
    all_goals first
      | exact trivial
      | omega
      | exact DLe.refl _
      | exact DLe.of_eq (by rw [hs])
      | exact ⟨by omega, by omega⟩
      | (refine ⟨by omega, fun j hj => ?_⟩
         by_cases e : j = i
         · subst e; assumption
         · exact hz j (by omega))
      | (refine ⟨LeS.of_eq ?_, trivial⟩
         rw [fitsL_j (j := i) (by omega) (by omega) (by assumption)]; done)
      | (refine ⟨LeS.of_eq ?_, trivial⟩
         rw [fitsL_true (by assumption) (by omega) (fun j hj => hz j (by omega))]; done)
      | trace_state
theorem comparep_spec2 (s : List Col) (a b : List Fld) : (s.length ≤ 1000 ∧ a.length ≤ 1000 ∧ b.length ≤ 1000) → Sx.Spec Tryd.prog GG 22 [.d (encL encCol 2 s), .d (encL encFld 3 a), .d (encL encFld 3 b)] [] (.d (.int .i64 (compareL s a b))) [] := by
  rintro ⟨hs1, ha1, hb1⟩
  refine spec_intro (E := EE) (fn := Tryd.f22) eok (by kernel_rfl) (by kernel_rfl) Tryd.call22 (by kernel_rfl) (by kernel_rfl) ?_
  conv => whnf
  repeat' first
    | (refine call_if (fitsLp_spec s _) (by first | exact .inl rfl | exact .inr ⟨rfl, rfl⟩) (need_intro ?_ ?_); (conv => whnf))
    | (refine bc_true (by assumption) ?_; (conv => whnf))
    | (refine bc_false (by assumption) ?_; (conv => whnf))
    | (refine bc_intro (fun _ => ?_) (fun _ => ?_) <;> (conv => whnf))
    | (refine need_intro ?_ ?_; (conv => whnf))
    | (refine wk_refl ?_; (conv => whnf))
    | (refine draw_intro (by kernel_rfl) ?_; (conv => whnf))
    | (refine ord_intro (by kernel_rfl) ?_; (conv => whnf))
  all_goals try simp only [true_and, and_true, decide_eq_true_eq, decide_eq_false_iff_not, beq_iff_eq, bne_iff_ne, beq_eq_false_iff_ne, bne_eq_false_iff_eq, ne_eq, Decidable.not_not, Bool.not_eq_true', Bool.not_eq_false', Int.toNat_natCast] at *
  all_goals try first
    | exact ⟨hs1, ha1⟩
    | exact ⟨hs1, hb1⟩
    | (refine ⟨LeS.of_eq ?_, trivial⟩; rw [compareL_no (.inl (by assumption))]; done)
    | (refine ⟨LeS.of_eq ?_, trivial⟩; rw [compareL_no (.inr (by assumption))]; done)
  rw [compareL_go (by assumption) (by assumption)]
  have hla : a.length ≤ s.length := (fitsL_six (by assumption)).2.1
  have hlb : b.length ≤ s.length := (fitsL_six (by assumption)).2.1
  refine loop_auto [0, 1, 2] [] (fun i : Nat => [(7, .d (.int .i64 i))]) (fun i => []) (fun i => i ≤ min a.length b.length ∧ ∀ j, j < i → cmpC (s.getD j default) (a.getD j default) (b.getD j default) = 0) (fun i => min a.length b.length - i) 0 ?_ (fun i hi => ?_) ⟨by omega, fun j hj => absurd hj (by omega)⟩
  · conv => whnf
    repeat' first
      | (refine bc_true (by assumption) ?_; (conv => whnf))
      | (refine bc_false (by assumption) ?_; (conv => whnf))
      | (refine bc_intro (fun _ => ?_) (fun _ => ?_) <;> (conv => whnf))
      | (refine need_intro ?_ ?_; (conv => whnf))
      | (refine wk_refl ?_; (conv => whnf))
      | (refine draw_intro (by kernel_rfl) ?_; (conv => whnf))
      | (refine ord_intro (by kernel_rfl) ?_; (conv => whnf))
    all_goals first | exact trivial | exact DLe.refl _ | exact DLe.nil | exact RowLe.refl _ _ _ | exact ⟨rfl, rfl⟩ | exact ⟨rfl, rfl, rfl⟩ | trace_state
  · obtain ⟨hi, hz⟩ := hi
    have hs : IntKind.i64.wrap ((i : Int) + 1) = ((i + 1 : Nat) : Int) := wrap_succ (n := 2000) (by omega) (by omega)
    conv => whnf
    repeat' first
      | (refine call_intro (cmpFldp_spec _ _ _ _ _ _ _ _) ?_ (by first | exact .inl rfl | exact .inr ⟨rfl, rfl⟩); (conv => whnf))
      | (refine call_intro (cmpInt3_spec _ _) ?_ (by first | exact .inl rfl | exact .inr ⟨rfl, rfl⟩); (conv => whnf))
      | (refine NextVC.mk (i + 1) ?_ ?_ ?_; (conv => whnf))
      | (refine bc_true (by assumption) ?_; (conv => whnf))
      | (refine bc_false (by assumption) ?_; (conv => whnf))
      | (refine bc_intro (fun _ => ?_) (fun _ => ?_) <;> (conv => whnf))
      | (refine need_intro ?_ ?_; (conv => whnf))
      | (refine wk_refl ?_; (conv => whnf))
      | (refine draw_intro (by kernel_rfl) ?_; (conv => whnf))
      | (refine ord_intro (by kernel_rfl) ?_; (conv => whnf))
    all_goals try simp only [true_and, and_true, decide_eq_true_eq, decide_eq_false_iff_not, beq_iff_eq, bne_iff_ne, beq_eq_false_iff_ne, bne_eq_false_iff_eq, ne_eq, Decidable.not_not, Bool.not_eq_true', Bool.not_eq_false', Int.toNat_natCast] at *
    all_goals first
      | exact trivial
      | omega
      | exact DLe.refl _
      | exact DLe.of_eq (by rw [hs])
      | exact ⟨by omega, by omega⟩
      | (refine ⟨by omega, fun j hj => ?_⟩
         by_cases e : j = i
         · subst e; assumption
         · exact hz j (by omega))
      | (refine ⟨LeS.of_eq ?_, trivial⟩
         rw [cmpL_here hz (by omega) (by omega) (by omega) (by assumption)]; done)
      | (refine ⟨LeS.of_eq ?_, trivial⟩
         rw [cmpL_end (i := i) hz (by omega) (by omega) (by omega) (by omega)]; done)
      | trace_state
theorem comparer_spec2 (s : List Col) (a b : List Fld) : (s.length ≤ 1000 ∧ a.length ≤ 1000 ∧ b.length ≤ 1000) → Sx.Spec Tryd.prog GG 23 [.d (encL encCol 2 s), .d (encL encFld 3 a), .d (encL encFld 3 b)] [] (.d (.int .i64 (compareL s a b))) [] := by
  rintro ⟨hs1, ha1, hb1⟩
  refine spec_intro (E := EE) (fn := Tryd.f23) eok (by kernel_rfl) (by kernel_rfl) Tryd.call23 (by kernel_rfl) (by kernel_rfl) ?_
  conv => whnf
  repeat' first
    | (refine call_if (fitsLr_spec s _) (by first | exact .inl rfl | exact .inr ⟨rfl, rfl⟩) (need_intro ?_ ?_); (conv => whnf))
    | (refine bc_true (by assumption) ?_; (conv => whnf))
    | (refine bc_false (by assumption) ?_; (conv => whnf))
    | (refine bc_intro (fun _ => ?_) (fun _ => ?_) <;> (conv => whnf))
    | (refine need_intro ?_ ?_; (conv => whnf))
    | (refine wk_refl ?_; (conv => whnf))
    | (refine draw_intro (by kernel_rfl) ?_; (conv => whnf))
    | (refine ord_intro (by kernel_rfl) ?_; (conv => whnf))
  all_goals try simp only [true_and, and_true, decide_eq_true_eq, decide_eq_false_iff_not, beq_iff_eq, bne_iff_ne, beq_eq_false_iff_ne, bne_eq_false_iff_eq, ne_eq, Decidable.not_not, Bool.not_eq_true', Bool.not_eq_false', Int.toNat_natCast] at *
  all_goals try first
    | exact ⟨hs1, ha1⟩
    | exact ⟨hs1, hb1⟩
    | (refine ⟨LeS.of_eq ?_, trivial⟩; rw [compareL_no (.inl (by assumption))]; done)
    | (refine ⟨LeS.of_eq ?_, trivial⟩; rw [compareL_no (.inr (by assumption))]; done)
  rename_i hfa hfb
  rw [compareL_go (by assumption) (by assumption)]
  have hla : a.length ≤ s.length := (fitsL_six (by assumption)).2.1
  have hlb : b.length ≤ s.length := (fitsL_six (by assumption)).2.1
  refine loop_auto [0, 1, 2] [] (fun i : Nat => [(7, .d (.int .i64 i))]) (fun i => []) (fun i => i ≤ min a.length b.length ∧ ∀ j, j < i → cmpC (s.getD j default) (a.getD j default) (b.getD j default) = 0) (fun i => min a.length b.length - i) 0 ?_ (fun i hi => ?_) ⟨by omega, fun j hj => absurd hj (by omega)⟩
  · conv => whnf
    repeat' first
      | (refine bc_true (by assumption) ?_; (conv => whnf))
      | (refine bc_false (by assumption) ?_; (conv => whnf))
      | (refine bc_intro (fun _ => ?_) (fun _ => ?_) <;> (conv => whnf))
      | (refine need_intro ?_ ?_; (conv => whnf))
      | (refine wk_refl ?_; (conv => whnf))
      | (refine draw_intro (by kernel_rfl) ?_; (conv => whnf))
      | (refine ord_intro (by kernel_rfl) ?_; (conv => whnf))
    all_goals first | exact trivial | exact DLe.refl _ | exact DLe.nil | exact RowLe.refl _ _ _ | exact ⟨rfl, rfl⟩ | exact ⟨rfl, rfl, rfl⟩ | trace_state
  · obtain ⟨hi, hz⟩ := hi
    have hs : IntKind.i64.wrap ((i : Int) + 1) = ((i + 1 : Nat) : Int) := wrap_succ (n := 2000) (by omega) (by omega)
    conv => whnf
    repeat' first
      | (refine call_intro (lessFr_spec _ _ _ _ _ _) ?_ (by first | exact .inl rfl | exact .inr ⟨rfl, rfl⟩); (conv => whnf))
      | (refine NextVC.mk (i + 1) ?_ ?_ ?_; (conv => whnf))
      | (refine bc_true (by assumption) ?_; (conv => whnf))
      | (refine bc_false (by assumption) ?_; (conv => whnf))
      | (refine bc_intro (fun _ => ?_) (fun _ => ?_) <;> (conv => whnf))
      | (refine need_intro ?_ ?_; (conv => whnf))
      | (refine wk_refl ?_; (conv => whnf))
      | (refine draw_intro (by kernel_rfl) ?_; (conv => whnf))
      | (refine ord_intro (by kernel_rfl) ?_; (conv => whnf))
    all_goals try simp only [true_and, and_true, decide_eq_true_eq, decide_eq_false_iff_not, beq_iff_eq, bne_iff_ne, beq_eq_false_iff_ne, bne_eq_false_iff_eq, ne_eq, Decidable.not_not, Bool.not_eq_true', Bool.not_eq_false', Int.toNat_natCast] at *
    all_goals first
      | exact trivial
      | omega
      | exact DLe.refl _
      | exact DLe.of_eq (by rw [hs])
      | exact ⟨by omega, by omega⟩
      | (refine ⟨by omega, fun j hj => ?_⟩
         by_cases e : j = i
         · subst e; exact cmpC_eq (by assumption)
         · exact hz j (by omega))
      | (refine ⟨LeS.of_eq ?_, trivial⟩
         rw [ref_lt hfa hfb hz (by omega) (by omega) (by assumption) (by assumption)]; done)
      | (refine ⟨LeS.of_eq ?_, trivial⟩
         rw [ref_gt hfa hfb hz (by omega) (by omega) (by assumption) (by assumption)]; done)
      | (refine ⟨LeS.of_eq ?_, trivial⟩
         rw [cmpL_end (i := i) hz (by omega) (by omega) (by omega) (by omega)]
         first
           | (rw [cmpI_lt (by omega)]; done)
           | (rw [cmpI_gt (by omega)]; done)
           | (rw [cmpI_same (by omega)]; done))
      | trace_state
end Go.Proofs.YtigmgeglnbjfeaaDoor
