/- Contracts of functions that the law reaches: YtggehonedmbnjaaQBeg. Written for this claim. -/
import Derived.Test.YtggehonedmbnjaaQArr
namespace Go.Proofs.Ytggehonedmbnjaa
open Go Go.Sx Go.ChangeShapes Go.WideShapes Go.ChangeAt Go.RowKit
set_option linter.unusedVariables false
set_option linter.unusedSimpArgs false
set_option maxRecDepth 100000
/-! Begin -/
section
variable {l : List LseT} {a b : List UInt8} {c : Bool} {p : Nat}
theorem begin_e1 (h : checkL l = false ∨ validW a b c = false) : beginL l (a, b, c) = ([], 1) := by unfold beginL; rw [if_pos (by rcases h with h | h <;> simp [h])]
theorem begin_go (h : checkL l = true) (h2 : validW a b c = true) : ¬ (!(checkL l) || !(validW (a, b, c).1 (a, b, c).2.1 (a, b, c).2.2)) = true := by simp [h, h2]
theorem begin_full (h : checkL l = true) (h2 : validW a b c = true) (hf : findL l a = none) (hl : l.length = 64) : beginL l (a, b, c) = ([], 16) := by
  unfold beginL; rw [if_neg (begin_go h h2)]; simp only [hf]; rw [if_pos hl]
theorem begin_new (h : checkL l = true) (h2 : validW a b c = true) (hf : findL l a = none) (hl : ¬ l.length = 64) : beginL l (a, b, c) = (insL ⟨a, [], false, [], [], true, (a, b, c)⟩ l, 0) := by
  unfold beginL; rw [if_neg (begin_go h h2)]; simp only [hf]; rw [if_neg hl]
theorem begin_busy (h : checkL l = true) (h2 : validW a b c = true) (hf : findL l a = some (p : Int)) (hw : (l.getD p default).wait = true) : beginL l (a, b, c) = ([], 13) := by
  unfold beginL; rw [if_neg (begin_go h h2)]; simp only [hf, Int.toNat_natCast]; rw [if_pos hw]
theorem begin_ok (h : checkL l = true) (h2 : validW a b c = true) (hf : findL l a = some (p : Int)) (hw : (l.getD p default).wait = false) : beginL l (a, b, c) = (l.set p { l.getD p default with wait := true, nxt := (a, b, c) }, 0) := by
  unfold beginL; rw [if_neg (begin_go h h2)]; simp only [hf, Int.toNat_natCast]; rw [if_neg (by rw [hw]; simp)]
end
theorem begin_arg (a b : List UInt8) (c : Bool) (l : List LseT) : (LsB l ∧ l.length ≤ 900000 ∧ SortL l) → Sx.Spec Try.prog GG 25 [.d (encL encLse 9 l), .agg [.d (.str a), .d (.str []), .d (.bool false), .d (.val (.slice none 0 0)), .d (.val (.slice none 0 0)), .d (.bool true), .d (.str a), .d (.str b), .d (.bool c)]] [] (.d (encL encLse 9 (insL ⟨a, [], false, [], [], true, (a, b, c)⟩ l))) [] := fun h =>
  (insertp0 l ⟨a, [], false, [], [], true, (a, b, c)⟩ h).arg (LeL.cons (LeS.refl _) (LeL.cons (LeS.agg (LeL.cons (LeS.refl _) (LeL.cons (LeS.refl _) (LeL.cons (LeS.refl _) (LeL.cons (LeS.d DLe.nil) (LeL.cons (LeS.d DLe.nil) (LeL.refl _))))))) LeL.nil))
set_option maxHeartbeats 4000000 in
theorem beginp_spec (l : List LseT) (a b : List UInt8) (c : Bool) : LsB l → Sx.Spec Try.prog GG 6 [.d (encL encLse 9 l), .agg [.d (.str a), .d (.str b), .d (.bool c)]] [] (.tup [.d (encL encLse 9 (beginL l (a, b, c)).1), .d (.int .i64 (beginL l (a, b, c)).2)]) [] := by
  intro h
  have hl := h.len
  have hb := h.at
  cases hf : findL l a with
  | none =>
    have q1 := fun h h2 => begin_full (b := b) (c := c) h h2 hf
    have q2 := fun h h2 => begin_new (b := b) (c := c) h h2 hf
    refine spec_intro (E := EE) (fn := Try.f6) eok (by kernel_rfl) (by kernel_rfl) Try.call6 (by kernel_rfl) (by kernel_rfl) ?_
    conv => whnf
    repeat' first
      | (refine call_if (checkp_spec _) (by first | exact .inl rfl | exact .inr ⟨rfl, rfl⟩) (need_intro ?_ ?_); (conv => whnf))
      | (refine call_intro (validWp_spec _ _ _) ?_ (by first | exact .inl rfl | exact .inr ⟨rfl, rfl⟩); (conv => whnf))
      | (refine call_if (index_at 1000 l) (by first | exact .inl rfl | exact .inr ⟨rfl, rfl⟩) (need_intro ?_ ?_); (conv => whnf))
      | (refine call_if (begin_arg a b c l) (by first | exact .inl rfl | exact .inr ⟨rfl, rfl⟩) (need_intro ?_ ?_); (conv => whnf))
      | (refine bc_true (by assumption) ?_; (conv => whnf))
      | (refine bc_false (by assumption) ?_; (conv => whnf))
      | (refine bc_intro (fun _ => ?_) (fun _ => ?_) <;> (conv => whnf))
      | (refine need_intro ?_ ?_; (conv => whnf))
      | (refine wk_refl ?_; (conv => whnf))
      | (refine draw_intro (by kernel_rfl) ?_; (conv => whnf))
      | (refine ord_intro (by kernel_rfl) ?_; (conv => whnf))
    all_goals try simp only [hf, Option.isSome_some, Option.isSome_none, Option.getD_some, Option.getD_none, Int.toNat_natCast, Int.toNat_zero, Int.sub_zero, Nat.zero_add, Bool.not_eq_true', Bool.not_eq_false', decide_eq_true_eq, decide_eq_false_iff_not, beq_iff_eq, beq_eq_false_iff_ne, ne_eq, cellsLse, bytesLse, true_and, and_true] at *
    all_goals first
      | omega
      | exact h
      | contradiction
      | exact ⟨h, by (have := (checkL_iff.1 ‹checkL l = true›).len; omega), (checkL_iff.1 ‹checkL l = true›).sorted⟩
      | (rw [begin_e1 (.inl (by assumption))]
         (refine ⟨LeS.tup (LeL.cons ?_ (LeL.cons (LeS.refl _) LeL.nil)), trivial⟩
          first
            | exact LeS.refl _
            | exact les_nil rfl
            | exact les_own rfl
            | exact LeS.refl _)
         done)
      | (rw [begin_e1 (.inr (by assumption))]
         (refine ⟨LeS.tup (LeL.cons ?_ (LeL.cons (LeS.refl _) LeL.nil)), trivial⟩
          first
            | exact LeS.refl _
            | exact les_nil rfl
            | exact les_own rfl
            | exact LeS.refl _)
         done)
      | (rw [q1 (by assumption) (by assumption) (by omega)]
         (refine ⟨LeS.tup (LeL.cons ?_ (LeL.cons (LeS.refl _) LeL.nil)), trivial⟩
          first
            | exact LeS.refl _
            | exact les_nil rfl
            | exact les_own rfl
            | exact LeS.refl _)
         done)
      | (rw [q2 (by assumption) (by assumption) (by omega)]
         (refine ⟨LeS.tup (LeL.cons ?_ (LeL.cons (LeS.refl _) LeL.nil)), trivial⟩
          first
            | exact LeS.refl _
            | exact les_nil rfl
            | exact les_own rfl
            | exact LeS.refl _)
         done)
      | trace_state
  | some n =>
    obtain ⟨p, rfl, hp, hk⟩ := find_some hf
    have hbp := hb p
    have q1 := fun h h2 => begin_busy (b := b) (c := c) h h2 hf
    have q2 := fun h h2 => begin_ok (b := b) (c := c) h h2 hf
    refine spec_intro (E := EE) (fn := Try.f6) eok (by kernel_rfl) (by kernel_rfl) Try.call6 (by kernel_rfl) (by kernel_rfl) ?_
    conv => whnf
    repeat' first
      | (refine call_if (checkp_spec _) (by first | exact .inl rfl | exact .inr ⟨rfl, rfl⟩) (need_intro ?_ ?_); (conv => whnf))
      | (refine call_intro (validWp_spec _ _ _) ?_ (by first | exact .inl rfl | exact .inr ⟨rfl, rfl⟩); (conv => whnf))
      | (refine call_if (index_at 1000 l) (by first | exact .inl rfl | exact .inr ⟨rfl, rfl⟩) (need_intro ?_ ?_); (conv => whnf))
      | (refine call_if (allp_at 2000 l (g := cellOf encLse l)) (by first | exact .inl rfl | exact .inr ⟨rfl, rfl⟩) (need_intro ?_ ?_); (conv => whnf))
      | (refine bc_true (by assumption) ?_; (conv => whnf))
      | (refine bc_false (by assumption) ?_; (conv => whnf))
      | (refine bc_intro (fun _ => ?_) (fun _ => ?_) <;> (conv => whnf))
      | (refine need_intro ?_ ?_; (conv => whnf))
      | (refine wk_refl ?_; (conv => whnf))
      | (refine draw_intro (by kernel_rfl) ?_; (conv => whnf))
      | (refine ord_intro (by kernel_rfl) ?_; (conv => whnf))
    all_goals try simp only [hf, Option.isSome_some, Option.isSome_none, Option.getD_some, Option.getD_none, Int.toNat_natCast, Int.toNat_zero, Int.sub_zero, Nat.zero_add, Bool.not_eq_true', Bool.not_eq_false', decide_eq_true_eq, decide_eq_false_iff_not, beq_iff_eq, beq_eq_false_iff_ne, ne_eq, cellsLse, bytesLse, true_and, and_true] at *
    all_goals first
      | exact trivial
      | omega
      | exact h
      | contradiction
      | exact ⟨⟨trivial, RowLe.refl _ _ _⟩, h⟩
      | exact ⟨⟨rfl, RowLe.refl _ _ _⟩, h⟩
      | exact ⟨RowLe.refl _ _ _, h⟩
      | (rw [begin_e1 (.inl (by assumption))]
         (refine ⟨LeS.tup (LeL.cons ?_ (LeL.cons (LeS.refl _) LeL.nil)), trivial⟩
          first
            | exact LeS.refl _
            | exact les_nil rfl
            | exact les_own rfl
            | exact LeS.refl _)
         done)
      | (rw [begin_e1 (.inr (by assumption))]
         (refine ⟨LeS.tup (LeL.cons ?_ (LeL.cons (LeS.refl _) LeL.nil)), trivial⟩
          first
            | exact LeS.refl _
            | exact les_nil rfl
            | exact les_own rfl
            | exact LeS.refl _)
         done)
      | (rw [q1 (by assumption) (by assumption) (by assumption)]
         (refine ⟨LeS.tup (LeL.cons ?_ (LeL.cons (LeS.refl _) LeL.nil)), trivial⟩
          first
            | exact LeS.refl _
            | exact les_nil rfl
            | exact les_own rfl
            | exact LeS.refl _)
         done)
      | (rw [q2 (by assumption) (by assumption) (by assumption)]
         (refine ⟨LeS.tup (LeL.cons (LeS.d (DLe.rows (by simp) ?_)) (LeL.cons (LeS.refl _) LeL.nil)), trivial⟩
          (refine .of_eq fun i' j' _ hj => ?_
           try simp only [Nat.zero_add, Int.toNat_natCast, cell_set hp]
           by_cases hi9 : i' = p
           · subst hi9
             match j', hj with
             | 0, _ => first | rfl | (simp only [if_true]; rfl)
             | 1, _ => first | rfl | (simp only [if_true]; rfl)
             | 2, _ => first | rfl | (simp only [if_true]; rfl)
             | 3, _ => first | rfl | (simp only [if_true]; rfl)
             | 4, _ => first | rfl | (simp only [if_true]; rfl)
             | 5, _ => first | rfl | (simp only [if_true]; rfl)
             | 6, _ => first | rfl | (simp only [if_true]; rfl)
             | 7, _ => first | rfl | (simp only [if_true]; rfl)
             | 8, _ => first | rfl | (simp only [if_true]; rfl)
           · simp only [if_neg hi9])
          done)
         done)
      | trace_state
end Go.Proofs.Ytggehonedmbnjaa
