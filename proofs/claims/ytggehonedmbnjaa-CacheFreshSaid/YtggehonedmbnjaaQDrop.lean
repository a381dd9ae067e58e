/- Contracts of functions that the law reaches: YtggehonedmbnjaaQDrop. Written for this claim. -/
import Derived.Test.YtggehonedmbnjaaQBeg
namespace Go.Proofs.Ytggehonedmbnjaa
open Go Go.Sx Go.ChangeShapes Go.WideShapes Go.ChangeAt Go.RowKit
set_option linter.unusedVariables false
set_option linter.unusedSimpArgs false
set_option maxRecDepth 100000
/-! Drop and Finish -/
theorem jnine {p : Nat → Prop} (h : ∀ j, j < 9 → p j) : AllLt p 9 := ⟨⟨⟨⟨⟨⟨⟨⟨⟨trivial, h 0 (by omega)⟩, h 1 (by omega)⟩, h 2 (by omega)⟩, h 3 (by omega)⟩, h 4 (by omega)⟩, h 5 (by omega)⟩, h 6 (by omega)⟩, h 7 (by omega)⟩, h 8 (by omega)⟩
section
variable {l : List LseT} {node : Int} {k : List UInt8} {p : Nat}
theorem drop_e1 (h : checkL l = false) : dropL l node k = ([], 1) := by unfold dropL; rw [if_pos (by rw [h]; rfl)]
theorem drop_none (h : checkL l = true) (hf : findL l k = none) : dropL l node k = ([], 18) := by unfold dropL; rw [if_neg (by rw [h]; simp), hf]
theorem drop_no (h : checkL l = true) (hf : findL l k = some (p : Int)) (hn : (l.getD p default).hold.contains node = false) (hm : (l.getD p default).fly.contains node = false) : dropL l node k = ([], 18) := by
  unfold dropL; rw [if_neg (by rw [h]; simp), hf]; simp only [Int.toNat_natCast]; rw [if_neg (by rw [hn, hm]; simp)]
theorem drop_ok (h : checkL l = true) (hf : findL l k = some (p : Int)) (hn : (l.getD p default).hold.contains node = true ∨ (l.getD p default).fly.contains node = true) : dropL l node k = (withoutL l p node, 0) := by
  unfold dropL; rw [if_neg (by rw [h]; simp), hf]; simp only [Int.toNat_natCast]; rw [if_pos (by rcases hn with h | h <;> rw [h] <;> simp)]
theorem without_set (hp : p < l.length) (h : keptL (stripL node (l.getD p default)) = true) : withoutL l p node = l.set p (stripL node (l.getD p default)) := by
  rw [withoutL, if_pos h, List.set_eq_take_append_cons_drop, if_pos hp]; rfl
theorem without_cut (h : keptL (stripL node (l.getD p default)) = false) : withoutL l p node = l.take p ++ l.drop (p + 1) := by
  rw [withoutL, if_neg (by rw [h]; simp)]; rfl
theorem finish_e1 (h : checkL l = false) : finishL l k = (([], noWr), 1) := by unfold finishL; rw [if_pos (by rw [h]; rfl)]
theorem finish_none (h : checkL l = true) (hf : findL l k = none) : finishL l k = (([], noWr), 18) := by unfold finishL; rw [if_neg (by rw [h]; simp), hf]
theorem finish_no (h : checkL l = true) (hf : findL l k = some (p : Int)) (hw : (l.getD p default).wait = false) : finishL l k = (([], noWr), 18) := by
  unfold finishL; rw [if_neg (by rw [h]; simp), hf]; simp only [Int.toNat_natCast]; rw [if_pos (by rw [hw]; rfl)]
theorem finish_busy (h : checkL l = true) (hf : findL l k = some (p : Int)) (hw : (l.getD p default).wait = true) (hc : 0 < ((l.getD p default).hold.length : Int) + (l.getD p default).fly.length) : finishL l k = (([], noWr), 13) := by
  unfold finishL; rw [if_neg (by rw [h]; simp), hf]; simp only [Int.toNat_natCast]; rw [if_neg (by rw [hw]; simp), if_pos hc]
theorem finish_ok (h : checkL l = true) (hf : findL l k = some (p : Int)) (hw : (l.getD p default).wait = true) (hc : ¬ 0 < ((l.getD p default).hold.length : Int) + (l.getD p default).fly.length) : finishL l k = ((l.take p ++ l.drop (p + 1), (l.getD p default).nxt), 0) := by
  unfold finishL; rw [if_neg (by rw [h]; simp), hf]; simp only [Int.toNat_natCast]; rw [if_neg (by rw [hw]; simp), if_neg hc]
end
theorem keptp_cell (x : LseT) {c : Nat → D} : (AllLt (fun j => DLe (c j) ((encLse x).getD j default)) 9 ∧ (x.hold.length ≤ 4294967296 ∧ x.fly.length ≤ 4294967296)) → Sx.Spec Try.prog GG 31 [.agg [.d (c 0), .d (c 1), .d (c 2), .d (c 3), .d (c 4), .d (c 5), .d (c 6), .d (c 7), .d (c 8)]] [] (.d (.bool (keptL x))) [] := by
  rintro ⟨hc, h⟩
  have hc := hc.out
  exact (keptp_spec x h).arg (LeL.cons (LeS.agg (LeL.cons (LeS.d (hc 0 (by omega))) (LeL.cons (LeS.d (hc 1 (by omega))) (LeL.cons (LeS.d (hc 2 (by omega))) (LeL.cons (LeS.d (hc 3 (by omega))) (LeL.cons (LeS.d (hc 4 (by omega))) (LeL.cons (LeS.d (hc 5 (by omega))) (LeL.cons (LeS.d (hc 6 (by omega))) (LeL.cons (LeS.d (hc 7 (by omega))) (LeL.cons (LeS.d (hc 8 (by omega))) LeL.nil)))))))))) LeL.nil)
set_option maxHeartbeats 4000000 in
theorem dropp_spec (l : List LseT) (node : Int) (k : List UInt8) : LsB l → Sx.Spec Try.prog GG 16 [.d (encL encLse 9 l), .d (.int .i64 node), .d (.str k)] [] (.tup [.d (encL encLse 9 (dropL l node k).1), .d (.int .i64 (dropL l node k).2)]) [] := by
  intro h
  have hl := h.len
  have hb := h.at
  cases hf : findL l k with
  | none =>
    have q1 := fun h => drop_none (node := node) h hf
    refine spec_intro (E := EE) (fn := Try.f16) eok (by kernel_rfl) (by kernel_rfl) Try.call16 (by kernel_rfl) (by kernel_rfl) ?_
    conv => whnf
    repeat' first
      | (refine call_if (checkp_spec _) (by first | exact .inl rfl | exact .inr ⟨rfl, rfl⟩) (need_intro ?_ ?_); (conv => whnf))
      | (refine call_if (index_at 1000 l) (by first | exact .inl rfl | exact .inr ⟨rfl, rfl⟩) (need_intro ?_ ?_); (conv => whnf))
      | (refine bc_true (by assumption) ?_; (conv => whnf))
      | (refine bc_false (by assumption) ?_; (conv => whnf))
      | (refine bc_intro (fun _ => ?_) (fun _ => ?_) <;> (conv => whnf))
      | (refine need_intro ?_ ?_; (conv => whnf))
      | (refine wk_refl ?_; (conv => whnf))
      | (refine draw_intro (by kernel_rfl) ?_; (conv => whnf))
      | (refine ord_intro (by kernel_rfl) ?_; (conv => whnf))
    all_goals try simp only [hf, Option.isSome_some, Option.isSome_none, Option.getD_some, Option.getD_none, Int.toNat_natCast, Int.toNat_zero, Int.sub_zero, Nat.zero_add, Bool.not_eq_true', Bool.not_eq_false', decide_eq_true_eq, decide_eq_false_iff_not, beq_iff_eq, beq_eq_false_iff_ne, ne_eq, cellsLse, bytesLse, true_and, and_true] at *
    all_goals first
      | omega
      | exact h
      | contradiction
      | (rw [drop_e1 (by assumption)]
         (refine ⟨LeS.tup (LeL.cons ?_ (LeL.cons (LeS.refl _) LeL.nil)), trivial⟩
          first
            | exact LeS.refl _
            | exact les_nil rfl
            | exact les_own rfl
            | exact LeS.refl _)
         done)
      | (rw [q1 (by assumption)]
         (refine ⟨LeS.tup (LeL.cons ?_ (LeL.cons (LeS.refl _) LeL.nil)), trivial⟩
          first
            | exact LeS.refl _
            | exact les_nil rfl
            | exact les_own rfl
            | exact LeS.refl _)
         done)
      | trace_state
  | some n =>
    obtain ⟨p, rfl, hp, hk⟩ := find_some hf
    have hbp := hb p
    have hst := stripL_len (x := l.getD p default) (node := node)
    have hs : IntKind.i64.wrap ((p : Int) + 1) = ((p + 1 : Nat) : Int) := wrap_succ (n := 4294967297) (by omega) (by omega)
    have q1 := fun h => drop_no (node := node) h hf
    have q2 := fun h => drop_ok (node := node) h hf
    refine spec_intro (E := EE) (fn := Try.f16) eok (by kernel_rfl) (by kernel_rfl) Try.call16 (by kernel_rfl) (by kernel_rfl) ?_
    conv => whnf
    repeat' first
      | (refine call_if (checkp_spec _) (by first | exact .inl rfl | exact .inr ⟨rfl, rfl⟩) (need_intro ?_ ?_); (conv => whnf))
      | (refine call_if (index_at 1000 l) (by first | exact .inl rfl | exact .inr ⟨rfl, rfl⟩) (need_intro ?_ ?_); (conv => whnf))
      | (refine call_if (hasp_spec _ _) (by first | exact .inl rfl | exact .inr ⟨rfl, rfl⟩) (need_intro ?_ ?_); (conv => whnf))
      | (refine call_if (allp_at 2000 l (g := cellOf encLse l)) (by first | exact .inl rfl | exact .inr ⟨rfl, rfl⟩) (need_intro ?_ ?_); (conv => whnf))
      | (refine call_if (lessp_spec (l.getD (0 + ((findL l k).getD 0).toNat) default).hold node) (by first | exact .inl rfl | exact .inr ⟨rfl, rfl⟩) (need_intro ?_ ?_); (conv => whnf))
      | (refine call_if (lessp_spec (l.getD (0 + ((findL l k).getD 0).toNat) default).fly node) (by first | exact .inl rfl | exact .inr ⟨rfl, rfl⟩) (need_intro ?_ ?_); (conv => whnf))
      | (refine call_if (keptp_cell (stripL node (l.getD p default))) (by first | exact .inl rfl | exact .inr ⟨rfl, rfl⟩) (need_intro ?_ ?_); (conv => whnf))
      | (refine bc_true (by assumption) ?_; (conv => whnf))
      | (refine bc_false (by assumption) ?_; (conv => whnf))
      | (refine bc_intro (fun _ => ?_) (fun _ => ?_) <;> (conv => whnf))
      | (refine need_intro ?_ ?_; (conv => whnf))
      | (refine wk_refl ?_; (conv => whnf))
      | (refine draw_intro (by kernel_rfl) ?_; (conv => whnf))
      | (refine ord_intro (by kernel_rfl) ?_; (conv => whnf))
    all_goals try simp only [hf, Option.isSome_some, Option.isSome_none, Option.getD_some, Option.getD_none, Int.toNat_natCast, Int.toNat_zero, Int.sub_zero, Nat.zero_add, Bool.not_eq_true', Bool.not_eq_false', decide_eq_true_eq, decide_eq_false_iff_not, beq_iff_eq, beq_eq_false_iff_ne, ne_eq, cellsLse, bytesLse, true_and, and_true] at *
    all_goals try simp only [hs, Int.toNat_natCast] at *
    all_goals first
      | exact trivial
      | omega
      | exact h
      | contradiction
      | exact ⟨by omega, by omega⟩
      | exact ⟨by omega, by omega, by omega⟩
      | (refine ⟨jnine fun j hj => ?_, Nat.le_trans hst.1 (by omega), Nat.le_trans hst.2 (by omega)⟩
         simp only [if_true]
         match j, hj with
         | 0, _ => exact DLe.refl _
         | 1, _ => exact DLe.refl _
         | 2, _ => exact DLe.refl _
         | 3, _ => exact DLe.refl _
         | 4, _ => exact DLe.refl _
         | 5, _ => exact DLe.refl _
         | 6, _ => exact DLe.refl _
         | 7, _ => exact DLe.refl _
         | 8, _ => exact DLe.refl _)
      | exact ⟨⟨trivial, RowLe.refl _ _ _⟩, h⟩
      | exact ⟨⟨rfl, RowLe.refl _ _ _⟩, h⟩
      | exact ⟨RowLe.refl _ _ _, h⟩
      | (rw [drop_e1 (by assumption)]
         (refine ⟨LeS.tup (LeL.cons ?_ (LeL.cons (LeS.refl _) LeL.nil)), trivial⟩
          first
            | exact LeS.refl _
            | exact les_nil rfl
            | exact les_own rfl
            | exact LeS.refl _)
         done)
      | (rw [q1 (by assumption) (by assumption) (by assumption)]
         (refine ⟨LeS.tup (LeL.cons ?_ (LeL.cons (LeS.refl _) LeL.nil)), trivial⟩
          first
            | exact LeS.refl _
            | exact les_nil rfl
            | exact les_own rfl
            | exact LeS.refl _)
         done)
      | (rw [q2 (by assumption) (.inl (by assumption)), without_set hp (by assumption)]
         (refine ⟨LeS.tup (LeL.cons (LeS.d (DLe.rows (by simp) ?_)) (LeL.cons (LeS.refl _) LeL.nil)), trivial⟩
          (refine .of_eq fun i' j' _ hj => ?_
           try simp only [Nat.zero_add, Int.toNat_natCast, cell_set hp]
           by_cases hi9 : i' = p
           · subst hi9
             match j', hj with
             | 0, _ => first | rfl | (simp only [if_true]; rfl)
             | 1, _ => first | rfl | (simp only [if_true]; rfl)
             | 2, _ => first | rfl | (simp only [if_true]; rfl)
             | 3, _ => first | rfl | (simp only [if_true]; rfl)
             | 4, _ => first | rfl | (simp only [if_true]; rfl)
             | 5, _ => first | rfl | (simp only [if_true]; rfl)
             | 6, _ => first | rfl | (simp only [if_true]; rfl)
             | 7, _ => first | rfl | (simp only [if_true]; rfl)
             | 8, _ => first | rfl | (simp only [if_true]; rfl)
           · simp only [if_neg hi9])
          done)
         done)
      | (rw [q2 (by assumption) (.inr (by assumption)), without_set hp (by assumption)]
         (refine ⟨LeS.tup (LeL.cons (LeS.d (DLe.rows (by simp) ?_)) (LeL.cons (LeS.refl _) LeL.nil)), trivial⟩
          (refine .of_eq fun i' j' _ hj => ?_
           try simp only [Nat.zero_add, Int.toNat_natCast, cell_set hp]
           by_cases hi9 : i' = p
           · subst hi9
             match j', hj with
             | 0, _ => first | rfl | (simp only [if_true]; rfl)
             | 1, _ => first | rfl | (simp only [if_true]; rfl)
             | 2, _ => first | rfl | (simp only [if_true]; rfl)
             | 3, _ => first | rfl | (simp only [if_true]; rfl)
             | 4, _ => first | rfl | (simp only [if_true]; rfl)
             | 5, _ => first | rfl | (simp only [if_true]; rfl)
             | 6, _ => first | rfl | (simp only [if_true]; rfl)
             | 7, _ => first | rfl | (simp only [if_true]; rfl)
             | 8, _ => first | rfl | (simp only [if_true]; rfl)
           · simp only [if_neg hi9])
          done)
         done)
      | (rw [q2 (by assumption) (.inl (by assumption)), without_cut (by assumption)]
         (refine ⟨LeS.tup (LeL.cons (LeS.d (DLe.rows (by simp only [List.length_append, List.length_take, List.length_drop]; omega) (.of_eq fun i j _ _ => ?_))) ?_), trivial⟩
          · simp only [cellOf, getD_cut (Nat.le_of_lt hp)]
            by_cases h1 : i < p
            · simp only [if_pos h1, if_neg (show ¬ i = p by omega)]
            · simp only [if_neg h1, if_neg (show ¬ p + 1 + (i - p) = p by omega)]
          · exact LeL.refl _)
         done)
      | (rw [q2 (by assumption) (.inr (by assumption)), without_cut (by assumption)]
         (refine ⟨LeS.tup (LeL.cons (LeS.d (DLe.rows (by simp only [List.length_append, List.length_take, List.length_drop]; omega) (.of_eq fun i j _ _ => ?_))) ?_), trivial⟩
          · simp only [cellOf, getD_cut (Nat.le_of_lt hp)]
            by_cases h1 : i < p
            · simp only [if_pos h1, if_neg (show ¬ i = p by omega)]
            · simp only [if_neg h1, if_neg (show ¬ p + 1 + (i - p) = p by omega)]
          · exact LeL.refl _)
         done)
      | trace_state
end Go.Proofs.Ytggehonedmbnjaa
