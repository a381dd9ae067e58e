/- Contracts of functions that the law reaches: YtggehonedmbnjaaQArr. Written for this claim. -/
import Derived.Test.YtggehonedmbnjaaQSendR
namespace Go.Proofs.Ytggehonedmbnjaa
open Go Go.Sx Go.ChangeShapes Go.WideShapes Go.ChangeAt Go.RowKit
set_option linter.unusedVariables false
set_option linter.unusedSimpArgs false
set_option maxRecDepth 100000
/-! Arrive -/
section
variable {l : List LseT} {node : Int} {k : List UInt8} {p : Nat}
theorem arrive_e1 (h : checkL l = false) : arriveL l node k = ([], 1) := by unfold arriveL; rw [if_pos (by rw [h]; rfl)]
theorem arrive_none (h : checkL l = true) (hf : findL l k = none) : arriveL l node k = ([], 18) := by unfold arriveL; rw [if_neg (by rw [h]; simp), hf]
theorem arrive_no (h : checkL l = true) (hf : findL l k = some (p : Int)) (hn : (l.getD p default).fly.contains node = false) : arriveL l node k = ([], 18) := by
  unfold arriveL; rw [if_neg (by rw [h]; simp), hf]; simp only [Int.toNat_natCast]; rw [if_neg (by rw [hn]; simp)]
theorem arrive_ok (h : checkL l = true) (hf : findL l k = some (p : Int)) (hn : (l.getD p default).fly.contains node = true) : arriveL l node k = (l.set p { l.getD p default with fly := lessN (l.getD p default).fly node, hold := insN node (l.getD p default).hold }, 0) := by
  unfold arriveL; rw [if_neg (by rw [h]; simp), hf]; simp only [Int.toNat_natCast]; rw [if_pos hn]
theorem clear_at (h : checkL l = true) (hp : p < l.length) (hn : (l.getD p default).fly.contains node = true) : node ∉ (l.getD p default).hold := fun hm => by
  have := ((checkL_iff.1 h).at hp).apart node hm
  exact this (by simpa using hn)
end
set_option maxHeartbeats 4000000 in
theorem arrivep_spec (l : List LseT) (node : Int) (k : List UInt8) : LsB l → Sx.Spec Try.prog GG 13 [.d (encL encLse 9 l), .d (.int .i64 node), .d (.str k)] [] (.tup [.d (encL encLse 9 (arriveL l node k).1), .d (.int .i64 (arriveL l node k).2)]) [] := by
  intro h
  have hl := h.len
  have hb := h.at
  cases hf : findL l k with
  | none =>
    have q1 := fun h => arrive_none (node := node) h hf
    refine spec_intro (E := EE) (fn := Try.f13) eok (by kernel_rfl) (by kernel_rfl) Try.call13 (by kernel_rfl) (by kernel_rfl) ?_
    conv => whnf
    repeat' first
      | (refine call_if (checkp_spec _) (by first | exact .inl rfl | exact .inr ⟨rfl, rfl⟩) (need_intro ?_ ?_); (conv => whnf))
      | (refine call_if (index_at 1000 l) (by first | exact .inl rfl | exact .inr ⟨rfl, rfl⟩) (need_intro ?_ ?_); (conv => whnf))
      | (refine bc_true (by assumption) ?_; (conv => whnf))
      | (refine bc_false (by assumption) ?_; (conv => whnf))
      | (refine bc_intro (fun _ => ?_) (fun _ => ?_) <;> (conv => whnf))
      | (refine need_intro ?_ ?_; (conv => whnf))
      | (refine wk_refl ?_; (conv => whnf))
      | (refine draw_intro (by kernel_rfl) ?_; (conv => whnf))
      | (refine ord_intro (by kernel_rfl) ?_; (conv => whnf))
    all_goals try simp only [hf, Option.isSome_some, Option.isSome_none, Option.getD_some, Option.getD_none, Int.toNat_natCast, Int.toNat_zero, Int.sub_zero, Nat.zero_add, Bool.not_eq_true', Bool.not_eq_false', decide_eq_true_eq, decide_eq_false_iff_not, beq_iff_eq, beq_eq_false_iff_ne, ne_eq, cellsLse, bytesLse, true_and, and_true] at *
    all_goals first
      | omega
      | exact h
      | contradiction
      | (rw [arrive_e1 (by assumption)]
         (refine ⟨LeS.tup (LeL.cons ?_ (LeL.cons (LeS.refl _) LeL.nil)), trivial⟩
          first
            | exact LeS.refl _
            | exact les_nil rfl
            | exact les_own rfl
            | exact LeS.refl _)
         done)
      | (rw [q1 (by assumption)]
         (refine ⟨LeS.tup (LeL.cons ?_ (LeL.cons (LeS.refl _) LeL.nil)), trivial⟩
          first
            | exact LeS.refl _
            | exact les_nil rfl
            | exact les_own rfl
            | exact LeS.refl _)
         done)
      | trace_state
  | some n =>
    obtain ⟨p, rfl, hp, hk⟩ := find_some hf
    have hbp := hb p
    have hv : checkL l = true → (((l.getD p default).hold.length ≤ 4294967296 ∧ (l.getD p default).hold.Pairwise (· < ·))) := fun h => ⟨by omega, ((checkL_iff.1 h).at hp).hold.2⟩
    have hnm : checkL l = true → (l.getD p default).fly.contains node = true → node ∉ (l.getD p default).hold := fun h1 h2 => clear_at h1 hp h2
    have q1 := fun h => arrive_no (node := node) h hf
    have q2 := fun h => arrive_ok (node := node) h hf
    refine spec_intro (E := EE) (fn := Try.f13) eok (by kernel_rfl) (by kernel_rfl) Try.call13 (by kernel_rfl) (by kernel_rfl) ?_
    conv => whnf
    repeat' first
      | (refine call_if (checkp_spec _) (by first | exact .inl rfl | exact .inr ⟨rfl, rfl⟩) (need_intro ?_ ?_); (conv => whnf))
      | (refine call_if (index_at 1000 l) (by first | exact .inl rfl | exact .inr ⟨rfl, rfl⟩) (need_intro ?_ ?_); (conv => whnf))
      | (refine call_if (hasp_spec _ _) (by first | exact .inl rfl | exact .inr ⟨rfl, rfl⟩) (need_intro ?_ ?_); (conv => whnf))
      | (refine call_if (allp_at 2000 l (g := cellOf encLse l)) (by first | exact .inl rfl | exact .inr ⟨rfl, rfl⟩) (need_intro ?_ ?_); (conv => whnf))
      | (refine call_if (lessp_spec (l.getD (0 + ((findL l k).getD 0).toNat) default).fly node) (by first | exact .inl rfl | exact .inr ⟨rfl, rfl⟩) (need_intro ?_ ?_); (conv => whnf))
      | (refine call_if (withp_spec (l.getD (0 + ((findL l k).getD 0).toNat) default).hold node) (by first | exact .inl rfl | exact .inr ⟨rfl, rfl⟩) (need_intro ?_ ?_); (conv => whnf))
      | (refine bc_true (by assumption) ?_; (conv => whnf))
      | (refine bc_false (by assumption) ?_; (conv => whnf))
      | (refine bc_intro (fun _ => ?_) (fun _ => ?_) <;> (conv => whnf))
      | (refine need_intro ?_ ?_; (conv => whnf))
      | (refine wk_refl ?_; (conv => whnf))
      | (refine draw_intro (by kernel_rfl) ?_; (conv => whnf))
      | (refine ord_intro (by kernel_rfl) ?_; (conv => whnf))
    all_goals try simp only [hf, Option.isSome_some, Option.isSome_none, Option.getD_some, Option.getD_none, Int.toNat_natCast, Int.toNat_zero, Int.sub_zero, Nat.zero_add, Bool.not_eq_true', Bool.not_eq_false', decide_eq_true_eq, decide_eq_false_iff_not, beq_iff_eq, beq_eq_false_iff_ne, ne_eq, cellsLse, bytesLse, true_and, and_true] at *
    all_goals first
      | exact trivial
      | omega
      | exact h
      | contradiction
      | exact ⟨by omega, by omega⟩
      | exact ⟨⟨trivial, RowLe.refl _ _ _⟩, h⟩
      | exact ⟨⟨rfl, RowLe.refl _ _ _⟩, h⟩
      | exact ⟨RowLe.refl _ _ _, h⟩
      | exact ⟨hv (by assumption), hnm (by assumption) (by assumption)⟩
      | (rw [arrive_e1 (by assumption)]
         (refine ⟨LeS.tup (LeL.cons ?_ (LeL.cons (LeS.refl _) LeL.nil)), trivial⟩
          first
            | exact LeS.refl _
            | exact les_nil rfl
            | exact les_own rfl
            | exact LeS.refl _)
         done)
      | (rw [q1 (by assumption) (by assumption)]
         (refine ⟨LeS.tup (LeL.cons ?_ (LeL.cons (LeS.refl _) LeL.nil)), trivial⟩
          first
            | exact LeS.refl _
            | exact les_nil rfl
            | exact les_own rfl
            | exact LeS.refl _)
         done)
      | (rw [q2 (by assumption) (by assumption)]
         (refine ⟨LeS.tup (LeL.cons (LeS.d (DLe.rows (by simp) ?_)) (LeL.cons (LeS.refl _) LeL.nil)), trivial⟩
          (refine .of_eq fun i' j' _ hj => ?_
           try simp only [Nat.zero_add, Int.toNat_natCast, cell_set hp]
           by_cases hi9 : i' = p
           · subst hi9
             match j', hj with
             | 0, _ => first | rfl | (simp only [if_true]; rfl)
             | 1, _ => first | rfl | (simp only [if_true]; rfl)
             | 2, _ => first | rfl | (simp only [if_true]; rfl)
             | 3, _ => first | rfl | (simp only [if_true]; rfl)
             | 4, _ => first | rfl | (simp only [if_true]; rfl)
             | 5, _ => first | rfl | (simp only [if_true]; rfl)
             | 6, _ => first | rfl | (simp only [if_true]; rfl)
             | 7, _ => first | rfl | (simp only [if_true]; rfl)
             | 8, _ => first | rfl | (simp only [if_true]; rfl)
           · simp only [if_neg hi9])
          done)
         done)
      | trace_state
end Go.Proofs.Ytggehonedmbnjaa
