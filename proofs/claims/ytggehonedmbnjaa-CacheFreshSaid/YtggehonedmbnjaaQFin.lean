/- Contracts of functions that the law reaches: YtggehonedmbnjaaQFin. Written for this claim. -/
import Derived.Test.YtggehonedmbnjaaQDrop
namespace Go.Proofs.Ytggehonedmbnjaa
open Go Go.Sx Go.ChangeShapes Go.WideShapes Go.ChangeAt Go.RowKit
set_option linter.unusedVariables false
set_option linter.unusedSimpArgs false
set_option maxRecDepth 100000
/-! Finish -/
set_option maxHeartbeats 4000000 in
theorem finishp_spec (l : List LseT) (k : List UInt8) : LsB l → Sx.Spec Try.prog GG 17 [.d (encL encLse 9 l), .d (.str k)] [] (.tup [.d (encL encLse 9 (finishL l k).1.1), .agg [.d (.str (finishL l k).1.2.1), .d (.str (finishL l k).1.2.2.1), .d (.bool (finishL l k).1.2.2.2)], .d (.int .i64 (finishL l k).2)]) [] := by
  intro h
  have hl := h.len
  have hb := h.at
  cases hf : findL l k with
  | none =>
    have q1 := fun h => finish_none h hf
    refine spec_intro (E := EE) (fn := Try.f17) eok (by kernel_rfl) (by kernel_rfl) Try.call17 (by kernel_rfl) (by kernel_rfl) ?_
    conv => whnf
    repeat' first
      | (refine call_if (checkp_spec _) (by first | exact .inl rfl | exact .inr ⟨rfl, rfl⟩) (need_intro ?_ ?_); (conv => whnf))
      | (refine call_if (index_at 1000 l) (by first | exact .inl rfl | exact .inr ⟨rfl, rfl⟩) (need_intro ?_ ?_); (conv => whnf))
      | (refine bc_true (by assumption) ?_; (conv => whnf))
      | (refine bc_false (by assumption) ?_; (conv => whnf))
      | (refine bc_intro (fun _ => ?_) (fun _ => ?_) <;> (conv => whnf))
      | (refine need_intro ?_ ?_; (conv => whnf))
      | (refine wk_refl ?_; (conv => whnf))
      | (refine draw_intro (by kernel_rfl) ?_; (conv => whnf))
      | (refine ord_intro (by kernel_rfl) ?_; (conv => whnf))
    all_goals try simp only [hf, Option.isSome_some, Option.isSome_none, Option.getD_some, Option.getD_none, Int.toNat_natCast, Int.toNat_zero, Int.sub_zero, Nat.zero_add, Bool.not_eq_true', Bool.not_eq_false', decide_eq_true_eq, decide_eq_false_iff_not, beq_iff_eq, beq_eq_false_iff_ne, ne_eq, cellsLse, bytesLse, true_and, and_true] at *
    all_goals first
      | omega
      | exact h
      | contradiction
      | (rw [finish_e1 (by assumption)]
         (refine ⟨LeS.tup (LeL.cons ?_ (LeL.cons (LeS.refl _) (LeL.cons (LeS.refl _) LeL.nil))), trivial⟩
          first
            | exact LeS.refl _
            | exact les_nil rfl
            | exact les_own rfl
            | exact LeS.refl _)
         done)
      | (rw [q1 (by assumption)]
         (refine ⟨LeS.tup (LeL.cons ?_ (LeL.cons (LeS.refl _) (LeL.cons (LeS.refl _) LeL.nil))), trivial⟩
          first
            | exact LeS.refl _
            | exact les_nil rfl
            | exact les_own rfl
            | exact LeS.refl _)
         done)
      | trace_state
  | some n =>
    obtain ⟨p, rfl, hp, hk⟩ := find_some hf
    have hbp := hb p
    have hs : IntKind.i64.wrap ((p : Int) + 1) = ((p + 1 : Nat) : Int) := wrap_succ (n := 4294967297) (by omega) (by omega)
    have hw : IntKind.i64.wrap (((l.getD p default).hold.length : Int) + (l.getD p default).fly.length) = ((l.getD p default).hold.length : Int) + (l.getD p default).fly.length := wrap_of (by omega) (by omega)
    have q1 := fun h => finish_no h hf
    have q2 := fun h => finish_busy h hf
    have q3 := fun h => finish_ok h hf
    refine spec_intro (E := EE) (fn := Try.f17) eok (by kernel_rfl) (by kernel_rfl) Try.call17 (by kernel_rfl) (by kernel_rfl) ?_
    conv => whnf
    repeat' first
      | (refine call_if (checkp_spec _) (by first | exact .inl rfl | exact .inr ⟨rfl, rfl⟩) (need_intro ?_ ?_); (conv => whnf))
      | (refine call_if (index_at 1000 l) (by first | exact .inl rfl | exact .inr ⟨rfl, rfl⟩) (need_intro ?_ ?_); (conv => whnf))
      | (refine call_if (allp_at 2000 l (g := cellOf encLse l)) (by first | exact .inl rfl | exact .inr ⟨rfl, rfl⟩) (need_intro ?_ ?_); (conv => whnf))
      | (refine bc_true (by assumption) ?_; (conv => whnf))
      | (refine bc_false (by assumption) ?_; (conv => whnf))
      | (refine bc_intro (fun _ => ?_) (fun _ => ?_) <;> (conv => whnf))
      | (refine need_intro ?_ ?_; (conv => whnf))
      | (refine wk_refl ?_; (conv => whnf))
      | (refine draw_intro (by kernel_rfl) ?_; (conv => whnf))
      | (refine ord_intro (by kernel_rfl) ?_; (conv => whnf))
    all_goals try simp only [hf, Option.isSome_some, Option.isSome_none, Option.getD_some, Option.getD_none, Int.toNat_natCast, Int.toNat_zero, Int.sub_zero, Nat.zero_add, Bool.not_eq_true', Bool.not_eq_false', decide_eq_true_eq, decide_eq_false_iff_not, beq_iff_eq, beq_eq_false_iff_ne, ne_eq, cellsLse, bytesLse, true_and, and_true] at *
    all_goals try simp only [hs, Int.toNat_natCast] at *
    all_goals first
      | exact trivial
      | exact ⟨by omega, by omega⟩
      | exact ⟨by omega, by omega, by omega⟩
      | exact ⟨⟨trivial, RowLe.refl _ _ _⟩, h⟩
      | exact ⟨RowLe.refl _ _ _, h⟩
      | omega
      | exact h
      | contradiction
      | (rw [finish_e1 (by assumption)]
         (refine ⟨LeS.tup (LeL.cons ?_ (LeL.cons (LeS.refl _) (LeL.cons (LeS.refl _) LeL.nil))), trivial⟩
          first
            | exact LeS.refl _
            | exact les_nil rfl
            | exact les_own rfl
            | exact LeS.refl _)
         done)
      | (rw [q1 (by assumption) (by assumption)]
         (refine ⟨LeS.tup (LeL.cons ?_ (LeL.cons (LeS.refl _) (LeL.cons (LeS.refl _) LeL.nil))), trivial⟩
          first
            | exact LeS.refl _
            | exact les_nil rfl
            | exact les_own rfl
            | exact LeS.refl _)
         done)
      | (rw [q2 (by assumption) (by assumption) (by omega)]
         (refine ⟨LeS.tup (LeL.cons ?_ (LeL.cons (LeS.refl _) (LeL.cons (LeS.refl _) LeL.nil))), trivial⟩
          first
            | exact LeS.refl _
            | exact les_nil rfl
            | exact les_own rfl
            | exact LeS.refl _)
         done)
      | (rw [q3 (by assumption) (by assumption) (by omega)]
         (refine ⟨LeS.tup (LeL.cons (LeS.d (DLe.rows (by simp only [List.length_append, List.length_take, List.length_drop]; omega) (.of_eq fun i j _ _ => ?_))) ?_), trivial⟩
          · simp only [cellOf, getD_cut (Nat.le_of_lt hp)]
            by_cases h1 : i < p
            · simp only [if_pos h1, if_neg (show ¬ i = p by omega)]
            · simp only [if_neg h1, if_neg (show ¬ p + 1 + (i - p) = p by omega)]
          · exact LeL.refl _)
         done)
      | trace_state
end Go.Proofs.Ytggehonedmbnjaa
