/- Contracts of functions that the law reaches: YtggehonedmbnjaaQSend. Written for this claim. -/
import Derived.Test.YtggehonedmbnjaaQOps
namespace Go.Proofs.Ytggehonedmbnjaa
open Go Go.Sx Go.ChangeShapes Go.WideShapes Go.ChangeAt Go.RowKit
set_option linter.unusedVariables false
set_option linter.unusedSimpArgs false
set_option maxRecDepth 100000
/-! Send -/
theorem send_e1 {l : List LseT} {node : Int} {k v : List UInt8} {has : Bool} (h : checkL l = false ∨ numOk node = false ∨ ¬ ((k.length : Int) ≤ 64) ∨ fitsV v has = false) : sendL l node k v has = ([], 1) := by
  unfold sendL
  rw [if_pos]
  rcases h with h | h | h | h <;> simp [h]
section
variable {l : List LseT} {node : Int} {k v : List UInt8} {has : Bool} {p : Nat}
theorem send_go (h1 : checkL l = true) (h2 : numOk node = true) (h3 : (k.length : Int) ≤ 64) (h4 : fitsV v has = true) : ¬ (!(checkL l) || (!(numOk node) || (!(decide ((k.length : Int) ≤ 64)) || !(fitsV v has)))) = true := by simp [h1, h2, h3, h4]
theorem send_full (h1 : checkL l = true) (h2 : numOk node = true) (h3 : (k.length : Int) ≤ 64) (h4 : fitsV v has = true) (hf : findL l k = none) (h : l.length = 64) : sendL l node k v has = ([], 16) := by
  unfold sendL; rw [if_neg (send_go h1 h2 h3 h4), hf]; simp only [h, if_true]
theorem send_new (h1 : checkL l = true) (h2 : numOk node = true) (h3 : (k.length : Int) ≤ 64) (h4 : fitsV v has = true) (hf : findL l k = none) (h : ¬ l.length = 64) : sendL l node k v has = (insL ⟨k, v, has, [], [node], false, noWr⟩ l, 0) := by
  unfold sendL; rw [if_neg (send_go h1 h2 h3 h4), hf]; simp only [h, if_false]
theorem send_busy (h1 : checkL l = true) (h2 : numOk node = true) (h3 : (k.length : Int) ≤ 64) (h4 : fitsV v has = true) (hf : findL l k = some (p : Int)) (h : (l.getD p default).wait = true) : sendL l node k v has = ([], 13) := by
  unfold sendL; rw [if_neg (send_go h1 h2 h3 h4), hf]; simp only [Int.toNat_natCast, h, if_true]
theorem send_stale (h1 : checkL l = true) (h2 : numOk node = true) (h3 : (k.length : Int) ≤ 64) (h4 : fitsV v has = true) (hf : findL l k = some (p : Int)) (h : (l.getD p default).wait = false) (h5 : ¬ (l.getD p default).val = v ∨ ¬ (l.getD p default).has = has) : sendL l node k v has = ([], 11) := by
  unfold sendL; rw [if_neg (send_go h1 h2 h3 h4), hf]; simp only [Int.toNat_natCast, h, Bool.false_eq_true, if_false]
  rw [if_pos]
  simp only [Bool.or_eq_true, Bool.not_eq_true', beq_eq_false_iff_ne, ne_eq]
  exact h5
theorem send_dup (h1 : checkL l = true) (h2 : numOk node = true) (h3 : (k.length : Int) ≤ 64) (h4 : fitsV v has = true) (hf : findL l k = some (p : Int)) (h : (l.getD p default).wait = false) (h5 : (l.getD p default).val = v) (h6 : (l.getD p default).has = has) (h7 : (l.getD p default).hold.contains node = true ∨ (l.getD p default).fly.contains node = true) : sendL l node k v has = ([], 5) := by
  unfold sendL; rw [if_neg (send_go h1 h2 h3 h4), hf]; simp only [Int.toNat_natCast, h, Bool.false_eq_true, if_false]
  rw [if_neg (by rw [h6, h5]; simp), if_pos]
  rcases h7 with h7 | h7 <;> rw [h7] <;> simp
theorem send_ok (h1 : checkL l = true) (h2 : numOk node = true) (h3 : (k.length : Int) ≤ 64) (h4 : fitsV v has = true) (hf : findL l k = some (p : Int)) (h : (l.getD p default).wait = false) (h5 : (l.getD p default).val = v) (h6 : (l.getD p default).has = has) (h7 : (l.getD p default).hold.contains node = false) (h8 : (l.getD p default).fly.contains node = false) :
    sendL l node k v has = (l.set p { l.getD p default with fly := insN node (l.getD p default).fly }, 0) := by
  unfold sendL; rw [if_neg (send_go h1 h2 h3 h4), hf]; simp only [Int.toNat_natCast, h, Bool.false_eq_true, if_false]
  rw [if_neg (by rw [h6, h5]; simp), if_neg (by rw [h7, h8]; simp)]
end
theorem send_arg (k v : List UInt8) (has : Bool) (node : Int) (l : List LseT) : (LsB l ∧ l.length ≤ 900000 ∧ SortL l) → Sx.Spec Try.prog GG 25 [.d (encL encLse 9 l), .agg [.d (.str k), .d (.str v), .d (.bool has), .d (.val (.slice none 0 0)), .d (.list 1 1 (tabF (fun _ j => [D.int .i64 0].getD j default) [(0, [D.int .i64 node])])), .d (.bool false), .d (.str []), .d (.str []), .d (.bool false)]] [] (.d (encL encLse 9 (insL ⟨k, v, has, [], [node], false, noWr⟩ l))) [] := fun h =>
  (insertp0 l ⟨k, v, has, [], [node], false, noWr⟩ h).arg (LeL.cons (LeS.refl _) (LeL.cons (LeS.agg (LeL.cons (LeS.refl _) (LeL.cons (LeS.refl _) (LeL.cons (LeS.refl _) (LeL.cons (LeS.d DLe.nil) (LeL.cons (LeS.d (DLe.rows rfl (row_one (jlt1 (DLe.of_eq rfl))))) (LeL.refl _))))))) LeL.nil))
set_option maxHeartbeats 4000000 in
theorem sendp_spec (l : List LseT) (node : Int) (k v : List UInt8) (has : Bool) : LsB l → Sx.Spec Try.prog GG 5 [.d (encL encLse 9 l), .d (.int .i64 node), .d (.str k), .d (.str v), .d (.bool has)] [] (.tup [.d (encL encLse 9 (sendL l node k v has).1), .d (.int .i64 (sendL l node k v has).2)]) [] := by
  intro h
  have hl := h.len
  have hb := h.at
  cases hf : findL l k with
  | none =>
    have q1 := send_full (node := node) (v := v) (has := has) (hf := hf)
    have q2 := send_new (node := node) (v := v) (has := has) (hf := hf)
    refine spec_intro (E := EE) (fn := Try.f5) eok (by kernel_rfl) (by kernel_rfl) Try.call5 (by kernel_rfl) (by kernel_rfl) ?_
    conv => whnf
    repeat' first
      | (refine call_if (checkp_spec _) (by first | exact .inl rfl | exact .inr ⟨rfl, rfl⟩) (need_intro ?_ ?_); (conv => whnf))
      | (refine call_intro (numberedp_spec _) ?_ (by first | exact .inl rfl | exact .inr ⟨rfl, rfl⟩); (conv => whnf))
      | (refine call_intro (validKeyp_spec _) ?_ (by first | exact .inl rfl | exact .inr ⟨rfl, rfl⟩); (conv => whnf))
      | (refine call_intro (fitsp_spec _ _) ?_ (by first | exact .inl rfl | exact .inr ⟨rfl, rfl⟩); (conv => whnf))
      | (refine call_if (index_at 1000 l) (by first | exact .inl rfl | exact .inr ⟨rfl, rfl⟩) (need_intro ?_ ?_); (conv => whnf))
      | (refine call_if (send_arg k v has node l) (by first | exact .inl rfl | exact .inr ⟨rfl, rfl⟩) (need_intro ?_ ?_); (conv => whnf))
      | (refine bc_true (by assumption) ?_; (conv => whnf))
      | (refine bc_false (by assumption) ?_; (conv => whnf))
      | (refine bc_intro (fun _ => ?_) (fun _ => ?_) <;> (conv => whnf))
      | (refine need_intro ?_ ?_; (conv => whnf))
      | (refine wk_refl ?_; (conv => whnf))
      | (refine draw_intro (by kernel_rfl) ?_; (conv => whnf))
      | (refine ord_intro (by kernel_rfl) ?_; (conv => whnf))
    all_goals try simp only [hf, Option.isSome_some, Option.isSome_none, Option.getD_some, Option.getD_none, Int.toNat_natCast, Int.toNat_zero, Int.sub_zero, Nat.zero_add, Bool.not_eq_true', Bool.not_eq_false', decide_eq_true_eq, decide_eq_false_iff_not, beq_iff_eq, beq_eq_false_iff_ne, ne_eq, cellsLse, bytesLse, true_and, and_true] at *
    all_goals try first
      | (rw [send_e1 (.inl (by assumption))]
         (refine ⟨LeS.tup (LeL.cons ?_ (LeL.cons (LeS.refl _) LeL.nil)), trivial⟩
          first
            | exact LeS.refl _
            | exact les_nil rfl
            | exact les_own rfl
            | exact LeS.refl _)
         done)
      | (rw [send_e1 (.inr (.inl (by assumption)))]
         (refine ⟨LeS.tup (LeL.cons ?_ (LeL.cons (LeS.refl _) LeL.nil)), trivial⟩
          first
            | exact LeS.refl _
            | exact les_nil rfl
            | exact les_own rfl
            | exact LeS.refl _)
         done)
      | (rw [send_e1 (.inr (.inr (.inl (by assumption))))]
         (refine ⟨LeS.tup (LeL.cons ?_ (LeL.cons (LeS.refl _) LeL.nil)), trivial⟩
          first
            | exact LeS.refl _
            | exact les_nil rfl
            | exact les_own rfl
            | exact LeS.refl _)
         done)
      | (rw [send_e1 (.inr (.inr (.inr (by assumption))))]
         (refine ⟨LeS.tup (LeL.cons ?_ (LeL.cons (LeS.refl _) LeL.nil)), trivial⟩
          first
            | exact LeS.refl _
            | exact les_nil rfl
            | exact les_own rfl
            | exact LeS.refl _)
         done)
    all_goals first
      | omega
      | exact h
      | contradiction
      | exact ⟨h, by (have := (checkL_iff.1 ‹checkL l = true›).len; omega), (checkL_iff.1 ‹checkL l = true›).sorted⟩
      | (rw [q1 (by assumption) (by assumption) (by assumption) (by assumption) (by omega)]
         (refine ⟨LeS.tup (LeL.cons ?_ (LeL.cons (LeS.refl _) LeL.nil)), trivial⟩
          first
            | exact LeS.refl _
            | exact les_nil rfl
            | exact les_own rfl
            | exact LeS.refl _)
         done)
      | (rw [q2 (by assumption) (by assumption) (by assumption) (by assumption) (by omega)]
         (refine ⟨LeS.tup (LeL.cons ?_ (LeL.cons (LeS.refl _) LeL.nil)), trivial⟩
          first
            | exact LeS.refl _
            | exact les_nil rfl
            | exact les_own rfl
            | exact LeS.refl _)
         done)
      | trace_state
  | some n =>
    obtain ⟨p, rfl, hp, hk⟩ := find_some hf
    have hbp := hb p
    have hv : checkL l = true → (((l.getD p default).fly.length ≤ 4294967296 ∧ (l.getD p default).fly.Pairwise (· < ·))) := fun h => ⟨by omega, ((checkL_iff.1 h).at hp).fly.2⟩
    have hnm : (l.getD p default).fly.contains node = false → node ∉ (l.getD p default).fly := fun h => by simpa using h
    have q1 := send_busy (node := node) (v := v) (has := has) (hf := hf)
    have q2 := send_stale (node := node) (v := v) (has := has) (hf := hf)
    have q3 := send_dup (node := node) (v := v) (has := has) (hf := hf)
    have q4 := send_ok (node := node) (v := v) (has := has) (hf := hf)
    refine spec_intro (E := EE) (fn := Try.f5) eok (by kernel_rfl) (by kernel_rfl) Try.call5 (by kernel_rfl) (by kernel_rfl) ?_
    conv => whnf
    repeat' first
      | (refine call_if (checkp_spec _) (by first | exact .inl rfl | exact .inr ⟨rfl, rfl⟩) (need_intro ?_ ?_); (conv => whnf))
      | (refine call_intro (numberedp_spec _) ?_ (by first | exact .inl rfl | exact .inr ⟨rfl, rfl⟩); (conv => whnf))
      | (refine call_intro (validKeyp_spec _) ?_ (by first | exact .inl rfl | exact .inr ⟨rfl, rfl⟩); (conv => whnf))
      | (refine call_intro (fitsp_spec _ _) ?_ (by first | exact .inl rfl | exact .inr ⟨rfl, rfl⟩); (conv => whnf))
      | (refine call_if (index_at 1000 l) (by first | exact .inl rfl | exact .inr ⟨rfl, rfl⟩) (need_intro ?_ ?_); (conv => whnf))
      | (refine call_if (hasp_spec _ _) (by first | exact .inl rfl | exact .inr ⟨rfl, rfl⟩) (need_intro ?_ ?_); (conv => whnf))
      | (refine call_if (allp_at 2000 l (g := cellOf encLse l)) (by first | exact .inl rfl | exact .inr ⟨rfl, rfl⟩) (need_intro ?_ ?_); (conv => whnf))
      | (refine call_if (withp_spec (l.getD (0 + ((findL l k).getD 0).toNat) default).fly node) (by first | exact .inl rfl | exact .inr ⟨rfl, rfl⟩) (need_intro ?_ ?_); (conv => whnf))
      | (refine bc_true (by assumption) ?_; (conv => whnf))
      | (refine bc_false (by assumption) ?_; (conv => whnf))
      | (refine bc_intro (fun _ => ?_) (fun _ => ?_) <;> (conv => whnf))
      | (refine need_intro ?_ ?_; (conv => whnf))
      | (refine wk_refl ?_; (conv => whnf))
      | (refine draw_intro (by kernel_rfl) ?_; (conv => whnf))
      | (refine ord_intro (by kernel_rfl) ?_; (conv => whnf))
    all_goals try simp only [hf, Option.isSome_some, Option.isSome_none, Option.getD_some, Option.getD_none, Int.toNat_natCast, Int.toNat_zero, Int.sub_zero, Nat.zero_add, Bool.not_eq_true', Bool.not_eq_false', decide_eq_true_eq, decide_eq_false_iff_not, beq_iff_eq, beq_eq_false_iff_ne, ne_eq, cellsLse, bytesLse, true_and, and_true] at *
    all_goals try first
      | (rw [send_e1 (.inl (by assumption))]
         (refine ⟨LeS.tup (LeL.cons ?_ (LeL.cons (LeS.refl _) LeL.nil)), trivial⟩
          first
            | exact LeS.refl _
            | exact les_nil rfl
            | exact les_own rfl
            | exact LeS.refl _)
         done)
      | (rw [send_e1 (.inr (.inl (by assumption)))]
         (refine ⟨LeS.tup (LeL.cons ?_ (LeL.cons (LeS.refl _) LeL.nil)), trivial⟩
          first
            | exact LeS.refl _
            | exact les_nil rfl
            | exact les_own rfl
            | exact LeS.refl _)
         done)
      | (rw [send_e1 (.inr (.inr (.inl (by assumption))))]
         (refine ⟨LeS.tup (LeL.cons ?_ (LeL.cons (LeS.refl _) LeL.nil)), trivial⟩
          first
            | exact LeS.refl _
            | exact les_nil rfl
            | exact les_own rfl
            | exact LeS.refl _)
         done)
      | (rw [send_e1 (.inr (.inr (.inr (by assumption))))]
         (refine ⟨LeS.tup (LeL.cons ?_ (LeL.cons (LeS.refl _) LeL.nil)), trivial⟩
          first
            | exact LeS.refl _
            | exact les_nil rfl
            | exact les_own rfl
            | exact LeS.refl _)
         done)
    all_goals first
      | exact trivial
      | omega
      | exact h
      | contradiction
      | exact ⟨by omega, by omega⟩
      | exact ⟨⟨trivial, RowLe.refl _ _ _⟩, h⟩
      | exact ⟨⟨rfl, RowLe.refl _ _ _⟩, h⟩
      | exact ⟨RowLe.refl _ _ _, h⟩
      | exact ⟨hv (by assumption), hnm (by assumption)⟩
      | (rw [q1 (by assumption) (by assumption) (by assumption) (by assumption) (by assumption)]
         (refine ⟨LeS.tup (LeL.cons ?_ (LeL.cons (LeS.refl _) LeL.nil)), trivial⟩
          first
            | exact LeS.refl _
            | exact les_nil rfl
            | exact les_own rfl
            | exact LeS.refl _)
         done)
      | (rw [q2 (by assumption) (by assumption) (by assumption) (by assumption) (by assumption) (.inl (by assumption))]
         (refine ⟨LeS.tup (LeL.cons ?_ (LeL.cons (LeS.refl _) LeL.nil)), trivial⟩
          first
            | exact LeS.refl _
            | exact les_nil rfl
            | exact les_own rfl
            | exact LeS.refl _)
         done)
      | (rw [q2 (by assumption) (by assumption) (by assumption) (by assumption) (by assumption) (.inr (by assumption))]
         (refine ⟨LeS.tup (LeL.cons ?_ (LeL.cons (LeS.refl _) LeL.nil)), trivial⟩
          first
            | exact LeS.refl _
            | exact les_nil rfl
            | exact les_own rfl
            | exact LeS.refl _)
         done)
      | (rw [q3 (by assumption) (by assumption) (by assumption) (by assumption) (by assumption) (by assumption) (by assumption) (.inl (by assumption))]
         (refine ⟨LeS.tup (LeL.cons ?_ (LeL.cons (LeS.refl _) LeL.nil)), trivial⟩
          first
            | exact LeS.refl _
            | exact les_nil rfl
            | exact les_own rfl
            | exact LeS.refl _)
         done)
      | (rw [q3 (by assumption) (by assumption) (by assumption) (by assumption) (by assumption) (by assumption) (by assumption) (.inr (by assumption))]
         (refine ⟨LeS.tup (LeL.cons ?_ (LeL.cons (LeS.refl _) LeL.nil)), trivial⟩
          first
            | exact LeS.refl _
            | exact les_nil rfl
            | exact les_own rfl
            | exact LeS.refl _)
         done)
      | (rw [q4 (by assumption) (by assumption) (by assumption) (by assumption) (by assumption) (by assumption) (by assumption) (by assumption) (by assumption)]
         (refine ⟨LeS.tup (LeL.cons (LeS.d (DLe.rows (by simp) ?_)) (LeL.cons (LeS.refl _) LeL.nil)), trivial⟩
          (refine .of_eq fun i' j' _ hj => ?_
           try simp only [Nat.zero_add, Int.toNat_natCast, cell_set hp]
           by_cases hi9 : i' = p
           · subst hi9
             match j', hj with
             | 0, _ => first | rfl | (simp only [if_true]; rfl)
             | 1, _ => first | rfl | (simp only [if_true]; rfl)
             | 2, _ => first | rfl | (simp only [if_true]; rfl)
             | 3, _ => first | rfl | (simp only [if_true]; rfl)
             | 4, _ => first | rfl | (simp only [if_true]; rfl)
             | 5, _ => first | rfl | (simp only [if_true]; rfl)
             | 6, _ => first | rfl | (simp only [if_true]; rfl)
             | 7, _ => first | rfl | (simp only [if_true]; rfl)
             | 8, _ => first | rfl | (simp only [if_true]; rfl)
           · simp only [if_neg hi9])
          done)
         done)
      | trace_state
end Go.Proofs.Ytggehonedmbnjaa
