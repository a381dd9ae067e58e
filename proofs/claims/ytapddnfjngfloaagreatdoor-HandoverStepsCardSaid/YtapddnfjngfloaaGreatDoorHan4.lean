/- Contracts of functions that the law reaches: YtapddnfjngfloaaGreatDoorHan4. Written for this claim. -/
import Derived.Test.YtapddnfjngfloaaGreatDoorHan
import Derived.Test.YtapddnfjngfloaaGreatDoorSxHan
namespace Go.Proofs.YtapddnfjngfloaaGreatDoor
open Go Go.Sx Go.ChangeShapes Go.WideShapes Go.ChangeAt Go.RowKit
set_option linter.unusedVariables false
set_option linter.unusedSimpArgs false
set_option maxRecDepth 100000
theorem owners_spec (f t : GrpT) : (f.mem.length ≤ 1000 ∧ t.mem.length ≤ 1000) → Sx.Spec Tryz.prog GG 118 [.agg (grpL f), .agg (grpL t)] [] (.tup [.agg (copyL (ownerG f).1.copy), .agg (copyL (ownerG t).1.copy), .d (.bool (bothG f t))]) [] := by
  rintro ⟨h, h2⟩
  refine spec_intro (E := EE) (fn := Tryz.f118) eok (by kernel_rfl) (by kernel_rfl) Tryz.call118 (by kernel_rfl) (by kernel_rfl) ?_
  conv => whnf
  repeat' first
    | (refine call_if (ownerr_spec f) (by first | exact .inl rfl | exact .inr ⟨rfl, rfl⟩) (need_intro ?_ ?_); (conv => whnf))
    | (refine call_if (ownerr_spec t) (by first | exact .inl rfl | exact .inr ⟨rfl, rfl⟩) (need_intro ?_ ?_); (conv => whnf))
    | (refine bc_true (by assumption) ?_; (conv => whnf))
    | (refine bc_false (by assumption) ?_; (conv => whnf))
    | (refine bc_intro (fun _ => ?_) (fun _ => ?_) <;> (conv => whnf))
    | (refine need_intro ?_ ?_; (conv => whnf))
    | (refine wk_refl ?_; (conv => whnf))
    | (refine draw_intro (by kernel_rfl) ?_; (conv => whnf))
    | (refine ord_intro (by kernel_rfl) ?_; (conv => whnf))
  all_goals first
    | exact h
    | exact h2
    | (refine ⟨LeS.tup (LeL.cons (LeS.refl _) (LeL.cons (LeS.refl _) (LeL.cons (LeS.of_eq ?_) LeL.nil))), trivial⟩
       simp only [bothG, *]; simp [*]
       done)
    | trace_state
theorem changer_one (g : GrpT) (c : CopyT) (e v : Int) {n : Nat} {gf : Nat → Nat → D} : ((n = 1 ∧ RowLe n 2 gf (cellOf encStp [(e, v)])) ∧ GrpB 1000 g ∧ Small c) → Sx.Spec Tryz.prog GG 117 [.agg (grpL g), .agg (copyL c), .d (.list n 2 gf)] [] (.tup [.agg (grpL (changeG g c [(e, v)]).1), .d (.int .i64 (changeG g c [(e, v)]).2)]) [] := fun ⟨⟨e1, hr⟩, h1, h2⟩ => by
  subst e1
  exact (changer_spec g c [(e, v)] ⟨h1, h2, by simp⟩).arg (LeL.cons (LeS.refl _) (LeL.cons (LeS.refl _) (LeL.cons (LeS.d (DLe.rows rfl hr)) LeL.nil)))
set_option maxHeartbeats 2000000 in
theorem freezer_spec (f : GrpT) (bk : List UInt8) (bt : Bool) (side ser to_ : Int) : GrpB 1000 f → Sx.Spec Tryz.prog GG 67 [.agg (grpL f), .agg [.d (.str bk), .d (.bool bt)], .d (.int .i64 side), .d (.int .i64 ser), .d (.int .i64 to_)] [] (.tup [.agg (grpL (freezeG f bk bt side ser to_).1), .d (.int .i64 (freezeG f bk bt side ser to_).2)]) [] := by
  intro h
  have hS := own_small h
  have hl := h.len
  have hD := det_small (bk := bk) (bt := bt) (side := side) (ser := ser) (frm := f.num) (to_ := to_) hS
  refine spec_intro (E := EE) (fn := Tryz.f67) eok (by kernel_rfl) (by kernel_rfl) Tryz.call67 (by kernel_rfl) (by kernel_rfl) ?_
  conv => whnf
  repeat' first
    | (refine call_if (ownerr_spec f) (by first | exact .inl rfl | exact .inr ⟨rfl, rfl⟩) (need_intro ?_ ?_); (conv => whnf))
    | (refine call_if (detachr_spec (ownerG f).1.copy bk bt side ser f.num to_) (by first | exact .inl rfl | exact .inr ⟨rfl, rfl⟩) (need_intro ?_ ?_); (conv => whnf))
    | (refine call_if (changer_nil f _) (by first | exact .inl rfl | exact .inr ⟨rfl, rfl⟩) (need_intro ?_ ?_); (conv => whnf))
    | (refine bc_true (by assumption) ?_; (conv => whnf))
    | (refine bc_false (by assumption) ?_; (conv => whnf))
    | (refine bc_intro (fun _ => ?_) (fun _ => ?_) <;> (conv => whnf))
    | (refine need_intro ?_ ?_; (conv => whnf))
    | (refine wk_refl ?_; (conv => whnf))
    | (refine draw_intro (by kernel_rfl) ?_; (conv => whnf))
    | (refine ord_intro (by kernel_rfl) ?_; (conv => whnf))
  all_goals try simp only [cellsMem, bytesMem, decide_eq_true_eq, decide_eq_false_iff_not, bne_iff_ne, ne_eq, Decidable.not_not, Bool.not_eq_true', Bool.not_eq_false', bne_eq_false_iff_eq] at *
  all_goals first
    | exact hl
    | exact hS
    | exact ⟨h, hD⟩
    | (rw [freeze_down (by assumption)]
       (refine ⟨LeS.tup (LeL.cons (LeS.agg ?_) (LeL.cons (LeS.refl _) LeL.nil)), trivial⟩
        repeat' first
          | exact LeL.nil
          | refine LeL.cons ?_ ?_
        all_goals first
          | exact LeS.refl _
          | exact les_own rfl
          | exact les_nil rfl)
       done)
    | (rw [freeze_shut (by assumption) (by assumption)]
       (refine ⟨LeS.tup (LeL.cons (LeS.agg ?_) (LeL.cons (LeS.refl _) LeL.nil)), trivial⟩
        repeat' first
          | exact LeL.nil
          | refine LeL.cons ?_ ?_
        all_goals first
          | exact LeS.refl _
          | exact les_own rfl
          | exact les_nil rfl)
       done)
    | (rw [freeze_err (by assumption) (by assumption) (by assumption)]
       (refine ⟨LeS.tup (LeL.cons (LeS.agg ?_) (LeL.cons (LeS.refl _) LeL.nil)), trivial⟩
        repeat' first
          | exact LeL.nil
          | refine LeL.cons ?_ ?_
        all_goals first
          | exact LeS.refl _
          | exact les_own rfl
          | exact les_nil rfl)
       done)
    | (rw [freeze_ok (by assumption) (by assumption) (by assumption)]
       (refine ⟨LeS.tup (LeL.cons (LeS.agg ?_) (LeL.cons (LeS.refl _) LeL.nil)), trivial⟩
        repeat' first
          | exact LeL.nil
          | refine LeL.cons ?_ ?_
        all_goals first
          | exact LeS.refl _
          | exact les_own rfl
          | exact les_nil rfl)
       done)
    | (exfalso; simp at *; done)
    | trace_state
set_option maxHeartbeats 2000000 in
theorem installr_spec (f : GrpT) : GrpB 1000 f → Sx.Spec Tryz.prog GG 71 [.agg (grpL f)] [] (.tup [.agg (grpL (installG f).1), .d (.int .i64 (installG f).2)]) [] := by
  intro h
  have hl := h.len
  have hS := own_small h
  have hD : Small (attachC (ownerG f).1.copy).1 := att_small hS
  refine spec_intro (E := EE) (fn := Tryz.f71) eok (by kernel_rfl) (by kernel_rfl) Tryz.call71 (by kernel_rfl) (by kernel_rfl) ?_
  conv => whnf
  repeat' first
    | (refine call_if (ownerr_spec f) (by first | exact .inl rfl | exact .inr ⟨rfl, rfl⟩) (need_intro ?_ ?_); (conv => whnf))
    | (refine call_if (attachr_spec (ownerG f).1.copy) (by first | exact .inl rfl | exact .inr ⟨rfl, rfl⟩) (need_intro ?_ ?_); (conv => whnf))
    | (refine call_if (changer_one f _ (ownerG f).1.copy.inn.se (ownerG f).1.copy.inn.sv) (by first | exact .inl rfl | exact .inr ⟨rfl, rfl⟩) (need_intro ?_ ?_); (conv => whnf))
    | (refine bc_true (by assumption) ?_; (conv => whnf))
    | (refine bc_false (by assumption) ?_; (conv => whnf))
    | (refine bc_intro (fun _ => ?_) (fun _ => ?_) <;> (conv => whnf))
    | (refine need_intro ?_ ?_; (conv => whnf))
    | (refine wk_refl ?_; (conv => whnf))
    | (refine draw_intro (by kernel_rfl) ?_; (conv => whnf))
    | (refine ord_intro (by kernel_rfl) ?_; (conv => whnf))
  all_goals try simp only [cellsMem, bytesMem, decide_eq_true_eq, decide_eq_false_iff_not, bne_iff_ne, ne_eq, Decidable.not_not, Bool.not_eq_true', Bool.not_eq_false', bne_eq_false_iff_eq] at *
  all_goals try simp only [Int.toNat_zero, Int.toNat_one, List.getD_cons_zero, List.getD_cons_succ, beq_iff_eq, beq_eq_false_iff_ne, ne_eq, Bool.and_eq_true] at *
  all_goals first
    | exact hl
    | exact hS
    | exact ⟨⟨rfl, row_one (jlt2 (DLe.of_eq rfl) (DLe.of_eq rfl))⟩, h, hD⟩
    | exact ⟨⟨trivial, row_one (jlt2 (DLe.of_eq rfl) (DLe.of_eq rfl))⟩, h, hD⟩
    | (rw [install_down (by assumption)]
       (refine ⟨LeS.tup (LeL.cons (LeS.agg ?_) (LeL.cons (LeS.refl _) LeL.nil)), trivial⟩
        repeat' first
          | exact LeL.nil
          | refine LeL.cons ?_ ?_
        all_goals first
          | exact LeS.refl _
          | exact les_own rfl
          | exact les_nil rfl)
       done)
    | (rw [install_shut (by assumption) (by assumption)]
       (refine ⟨LeS.tup (LeL.cons (LeS.agg ?_) (LeL.cons (LeS.refl _) LeL.nil)), trivial⟩
        repeat' first
          | exact LeL.nil
          | refine LeL.cons ?_ ?_
        all_goals first
          | exact LeS.refl _
          | exact les_own rfl
          | exact les_nil rfl)
       done)
    | (rw [install_err (by assumption) (by assumption) (by assumption)]
       (refine ⟨LeS.tup (LeL.cons (LeS.agg ?_) (LeL.cons (LeS.refl _) LeL.nil)), trivial⟩
        repeat' first
          | exact LeL.nil
          | refine LeL.cons ?_ ?_
        all_goals first
          | exact LeS.refl _
          | exact les_own rfl
          | exact les_nil rfl)
       done)
    | (rw [install_ok (by assumption) (by assumption) (by assumption)]
       (refine ⟨LeS.tup (LeL.cons (LeS.agg ?_) (LeL.cons (LeS.refl _) LeL.nil)), trivial⟩
        repeat' first
          | exact LeL.nil
          | refine LeL.cons ?_ ?_
        all_goals first
          | exact LeS.refl _
          | exact les_own rfl
          | exact les_nil rfl)
       done)
    | trace_state
set_option maxHeartbeats 2000000 in
theorem refuser_spec (f : GrpT) : GrpB 1000 f → Sx.Spec Tryz.prog GG 74 [.agg (grpL f)] [] (.tup [.agg (grpL (refuseG f).1), .d (.int .i64 (refuseG f).2)]) [] := by
  intro h
  have hl := h.len
  have hS := own_small h
  have hD : Small { (ownerG f).1.copy with inn := noPart } := ⟨hS.1, hS.2.1, hS.2.2.1, by simp [noPart]⟩
  refine spec_intro (E := EE) (fn := Tryz.f74) eok (by kernel_rfl) (by kernel_rfl) Tryz.call74 (by kernel_rfl) (by kernel_rfl) ?_
  conv => whnf
  repeat' first
    | (refine call_if (ownerr_spec f) (by first | exact .inl rfl | exact .inr ⟨rfl, rfl⟩) (need_intro ?_ ?_); (conv => whnf))
    | (refine call_if (changer_in0 f (ownerG f).1.copy) (by first | exact .inl rfl | exact .inr ⟨rfl, rfl⟩) (need_intro ?_ ?_); (conv => whnf))
    | (refine bc_true (by assumption) ?_; (conv => whnf))
    | (refine bc_false (by assumption) ?_; (conv => whnf))
    | (refine bc_intro (fun _ => ?_) (fun _ => ?_) <;> (conv => whnf))
    | (refine need_intro ?_ ?_; (conv => whnf))
    | (refine wk_refl ?_; (conv => whnf))
    | (refine draw_intro (by kernel_rfl) ?_; (conv => whnf))
    | (refine ord_intro (by kernel_rfl) ?_; (conv => whnf))
  all_goals try simp only [cellsMem, bytesMem, decide_eq_true_eq, decide_eq_false_iff_not, bne_iff_ne, ne_eq, Decidable.not_not, Bool.not_eq_true', Bool.not_eq_false', bne_eq_false_iff_eq] at *
  all_goals try simp only [Int.toNat_zero, Int.toNat_one, List.getD_cons_zero, List.getD_cons_succ, beq_iff_eq, beq_eq_false_iff_ne, ne_eq, Bool.and_eq_true] at *
  all_goals first
    | exact hl
    | exact ⟨h, hD⟩
    | (rw [refuse_down (by assumption)]
       (refine ⟨LeS.tup (LeL.cons (LeS.agg ?_) (LeL.cons (LeS.refl _) LeL.nil)), trivial⟩
        repeat' first
          | exact LeL.nil
          | refine LeL.cons ?_ ?_
        all_goals first
          | exact LeS.refl _
          | exact les_own rfl
          | exact les_nil rfl)
       done)
    | (rw [refuse_state (by assumption) (.inl (by assumption))]
       (refine ⟨LeS.tup (LeL.cons (LeS.agg ?_) (LeL.cons (LeS.refl _) LeL.nil)), trivial⟩
        repeat' first
          | exact LeL.nil
          | refine LeL.cons ?_ ?_
        all_goals first
          | exact LeS.refl _
          | exact les_own rfl
          | exact les_nil rfl)
       done)
    | (rw [refuse_state (by assumption) (.inr (by assumption))]
       (refine ⟨LeS.tup (LeL.cons (LeS.agg ?_) (LeL.cons (LeS.refl _) LeL.nil)), trivial⟩
        repeat' first
          | exact LeL.nil
          | refine LeL.cons ?_ ?_
        all_goals first
          | exact LeS.refl _
          | exact les_own rfl
          | exact les_nil rfl)
       done)
    | (rw [refuse_ok (by assumption) (by assumption) (by assumption)]
       (refine ⟨LeS.tup (LeL.cons (LeS.agg ?_) (LeL.cons (LeS.refl _) LeL.nil)), trivial⟩
        repeat' first
          | exact LeL.nil
          | refine LeL.cons ?_ ?_
        all_goals first
          | exact LeS.refl _
          | exact les_own rfl
          | exact les_nil rfl)
       done)
    | trace_state
set_option maxHeartbeats 2000000 in
theorem releaser_spec (f t : GrpT) : (GrpB 1000 f ∧ GrpB 1000 t) → Sx.Spec Tryz.prog GG 72 [.agg (grpL f), .agg (grpL t)] [] (.tup [.agg (grpL (releaseG f t).1), .d (.int .i64 (releaseG f t).2)]) [] := by
  rintro ⟨h, h2⟩
  have hl := h.len
  have hl2 := h2.len
  have hS := own_small h
  have hS2 := own_small h2
  have hD : Small { (ownerG f).1.copy with out := noPart } := ⟨hS.1, hS.2.1, by simp [noPart], hS.2.2.2⟩
  refine spec_intro (E := EE) (fn := Tryz.f72) eok (by kernel_rfl) (by kernel_rfl) Tryz.call72 (by kernel_rfl) (by kernel_rfl) ?_
  conv => whnf
  repeat' first
    | (refine call_if (owners_spec f t) (by first | exact .inl rfl | exact .inr ⟨rfl, rfl⟩) (need_intro ?_ ?_); (conv => whnf))
    | (refine call_if (changer_out0 f (ownerG f).1.copy) (by first | exact .inl rfl | exact .inr ⟨rfl, rfl⟩) (need_intro ?_ ?_); (conv => whnf))
    | (refine bc_true (by assumption) ?_; (conv => whnf))
    | (refine bc_false (by assumption) ?_; (conv => whnf))
    | (refine bc_intro (fun _ => ?_) (fun _ => ?_) <;> (conv => whnf))
    | (refine need_intro ?_ ?_; (conv => whnf))
    | (refine wk_refl ?_; (conv => whnf))
    | (refine draw_intro (by kernel_rfl) ?_; (conv => whnf))
    | (refine ord_intro (by kernel_rfl) ?_; (conv => whnf))
  all_goals try simp only [cellsMem, bytesMem, decide_eq_true_eq, decide_eq_false_iff_not, bne_iff_ne, ne_eq, Decidable.not_not, Bool.not_eq_true', Bool.not_eq_false', bne_eq_false_iff_eq] at *
  all_goals try simp only [Int.toNat_zero, Int.toNat_one, List.getD_cons_zero, List.getD_cons_succ, beq_iff_eq, beq_eq_false_iff_ne, ne_eq, Bool.and_eq_true] at *
  all_goals first
    | exact ⟨hl, hl2⟩
    | exact hS
    | exact ⟨h, hD⟩
    | (rw [release_down (by assumption)]
       (refine ⟨LeS.tup (LeL.cons (LeS.agg ?_) (LeL.cons (LeS.refl _) LeL.nil)), trivial⟩
        repeat' first
          | exact LeL.nil
          | refine LeL.cons ?_ ?_
        all_goals first
          | exact LeS.refl _
          | exact les_own rfl
          | exact les_nil rfl)
       done)
    | (rw [release_state (by assumption) (.inl (by assumption))]
       (refine ⟨LeS.tup (LeL.cons (LeS.agg ?_) (LeL.cons (LeS.refl _) LeL.nil)), trivial⟩
        repeat' first
          | exact LeL.nil
          | refine LeL.cons ?_ ?_
        all_goals first
          | exact LeS.refl _
          | exact les_own rfl
          | exact les_nil rfl)
       done)
    | (rw [release_state (by assumption) (.inr (.inl (by assumption)))]
       (refine ⟨LeS.tup (LeL.cons (LeS.agg ?_) (LeL.cons (LeS.refl _) LeL.nil)), trivial⟩
        repeat' first
          | exact LeL.nil
          | refine LeL.cons ?_ ?_
        all_goals first
          | exact LeS.refl _
          | exact les_own rfl
          | exact les_nil rfl)
       done)
    | (rw [release_state (by assumption) (.inr (.inr (by assumption)))]
       (refine ⟨LeS.tup (LeL.cons (LeS.agg ?_) (LeL.cons (LeS.refl _) LeL.nil)), trivial⟩
        repeat' first
          | exact LeL.nil
          | refine LeL.cons ?_ ?_
        all_goals first
          | exact LeS.refl _
          | exact les_own rfl
          | exact les_nil rfl)
       done)
    | (rw [release_unk (by assumption) (by assumption) (by assumption) (by assumption) (by assumption)]
       (refine ⟨LeS.tup (LeL.cons (LeS.agg ?_) (LeL.cons (LeS.refl _) LeL.nil)), trivial⟩
        repeat' first
          | exact LeL.nil
          | refine LeL.cons ?_ ?_
        all_goals first
          | exact LeS.refl _
          | exact les_own rfl
          | exact les_nil rfl)
       done)
    | (rw [release_not (by assumption) (by assumption) (by assumption) (by assumption) (by assumption) (by assumption)]
       (refine ⟨LeS.tup (LeL.cons (LeS.agg ?_) (LeL.cons (LeS.refl _) LeL.nil)), trivial⟩
        repeat' first
          | exact LeL.nil
          | refine LeL.cons ?_ ?_
        all_goals first
          | exact LeS.refl _
          | exact les_own rfl
          | exact les_nil rfl)
       done)
    | (rw [release_ok (by assumption) (by assumption) (by assumption) (by assumption) (by assumption) (by assumption)]
       (refine ⟨LeS.tup (LeL.cons (LeS.agg ?_) (LeL.cons (LeS.refl _) LeL.nil)), trivial⟩
        repeat' first
          | exact LeL.nil
          | refine LeL.cons ?_ ?_
        all_goals first
          | exact LeS.refl _
          | exact les_own rfl
          | exact les_nil rfl)
       done)
    | trace_state
set_option maxHeartbeats 2000000 in
theorem forgetr_spec (f t : GrpT) : (GrpB 1000 f ∧ GrpB 1000 t) → Sx.Spec Tryz.prog GG 73 [.agg (grpL f), .agg (grpL t)] [] (.tup [.agg (grpL (forgetG f t).1), .d (.int .i64 (forgetG f t).2)]) [] := by
  rintro ⟨h, h2⟩
  have hl := h.len
  have hl2 := h2.len
  have hS := own_small h
  have hS2 := own_small h2
  have hD : Small { (ownerG f).1.copy with took := 0, src := 0 } := ⟨hS.1, hS.2.1, hS.2.2.1, hS.2.2.2⟩
  refine spec_intro (E := EE) (fn := Tryz.f73) eok (by kernel_rfl) (by kernel_rfl) Tryz.call73 (by kernel_rfl) (by kernel_rfl) ?_
  conv => whnf
  repeat' first
    | (refine call_if (owners_spec f t) (by first | exact .inl rfl | exact .inr ⟨rfl, rfl⟩) (need_intro ?_ ?_); (conv => whnf))
    | (refine call_if (changer_nil f { (ownerG f).1.copy with took := 0, src := 0 }) (by first | exact .inl rfl | exact .inr ⟨rfl, rfl⟩) (need_intro ?_ ?_); (conv => whnf))
    | (refine bc_true (by assumption) ?_; (conv => whnf))
    | (refine bc_false (by assumption) ?_; (conv => whnf))
    | (refine bc_intro (fun _ => ?_) (fun _ => ?_) <;> (conv => whnf))
    | (refine need_intro ?_ ?_; (conv => whnf))
    | (refine wk_refl ?_; (conv => whnf))
    | (refine draw_intro (by kernel_rfl) ?_; (conv => whnf))
    | (refine ord_intro (by kernel_rfl) ?_; (conv => whnf))
  all_goals try simp only [cellsMem, bytesMem, decide_eq_true_eq, decide_eq_false_iff_not, bne_iff_ne, ne_eq, Decidable.not_not, Bool.not_eq_true', Bool.not_eq_false', bne_eq_false_iff_eq] at *
  all_goals try simp only [Int.toNat_zero, Int.toNat_one, List.getD_cons_zero, List.getD_cons_succ, beq_iff_eq, beq_eq_false_iff_ne, ne_eq, Bool.and_eq_true] at *
  all_goals first
    | exact ⟨hl, hl2⟩
    | exact hS
    | exact ⟨h, hD⟩
    | (rw [forget_down (by assumption)]
       (refine ⟨LeS.tup (LeL.cons (LeS.agg ?_) (LeL.cons (LeS.refl _) LeL.nil)), trivial⟩
        repeat' first
          | exact LeL.nil
          | refine LeL.cons ?_ ?_
        all_goals first
          | exact LeS.refl _
          | exact les_own rfl
          | exact les_nil rfl)
       done)
    | (rw [forget_state (by assumption) (.inl (by assumption))]
       (refine ⟨LeS.tup (LeL.cons (LeS.agg ?_) (LeL.cons (LeS.refl _) LeL.nil)), trivial⟩
        repeat' first
          | exact LeL.nil
          | refine LeL.cons ?_ ?_
        all_goals first
          | exact LeS.refl _
          | exact les_own rfl
          | exact les_nil rfl)
       done)
    | (rw [forget_state (by assumption) (.inr (.inl (by assumption)))]
       (refine ⟨LeS.tup (LeL.cons (LeS.agg ?_) (LeL.cons (LeS.refl _) LeL.nil)), trivial⟩
        repeat' first
          | exact LeL.nil
          | refine LeL.cons ?_ ?_
        all_goals first
          | exact LeS.refl _
          | exact les_own rfl
          | exact les_nil rfl)
       done)
    | (rw [forget_state (by assumption) (.inr (.inr (by assumption)))]
       (refine ⟨LeS.tup (LeL.cons (LeS.agg ?_) (LeL.cons (LeS.refl _) LeL.nil)), trivial⟩
        repeat' first
          | exact LeL.nil
          | refine LeL.cons ?_ ?_
        all_goals first
          | exact LeS.refl _
          | exact les_own rfl
          | exact les_nil rfl)
       done)
    | (rw [forget_unk (by assumption) (by assumption) (by assumption) (by assumption) (by assumption)]
       (refine ⟨LeS.tup (LeL.cons (LeS.agg ?_) (LeL.cons (LeS.refl _) LeL.nil)), trivial⟩
        repeat' first
          | exact LeL.nil
          | refine LeL.cons ?_ ?_
        all_goals first
          | exact LeS.refl _
          | exact les_own rfl
          | exact les_nil rfl)
       done)
    | (rw [forget_not (by assumption) (by assumption) (by assumption) (by assumption) (by assumption) (by assumption)]
       (refine ⟨LeS.tup (LeL.cons (LeS.agg ?_) (LeL.cons (LeS.refl _) LeL.nil)), trivial⟩
        repeat' first
          | exact LeL.nil
          | refine LeL.cons ?_ ?_
        all_goals first
          | exact LeS.refl _
          | exact les_own rfl
          | exact les_nil rfl)
       done)
    | (rw [forget_ok (by assumption) (by assumption) (by assumption) (by assumption) (by assumption) (by assumption)]
       (refine ⟨LeS.tup (LeL.cons (LeS.agg ?_) (LeL.cons (LeS.refl _) LeL.nil)), trivial⟩
        repeat' first
          | exact LeL.nil
          | refine LeL.cons ?_ ?_
        all_goals first
          | exact LeS.refl _
          | exact les_own rfl
          | exact les_nil rfl)
       done)
    | trace_state
set_option maxHeartbeats 2000000 in
theorem thawr_spec (f t : GrpT) : (GrpB 1000 f ∧ GrpB 1000 t) → Sx.Spec Tryz.prog GG 75 [.agg (grpL f), .agg (grpL t)] [] (.tup [.agg (grpL (thawG f t).1), .d (.int .i64 (thawG f t).2)]) [] := by
  rintro ⟨h, h2⟩
  have hl := h.len
  have hl2 := h2.len
  have hS := own_small h
  have hS2 := own_small h2
  have hD : Small (reattachC (ownerG f).1.copy).1 := reatt_small hS
  refine spec_intro (E := EE) (fn := Tryz.f75) eok (by kernel_rfl) (by kernel_rfl) Tryz.call75 (by kernel_rfl) (by kernel_rfl) ?_
  conv => whnf
  repeat' first
    | (refine call_if (owners_spec f t) (by first | exact .inl rfl | exact .inr ⟨rfl, rfl⟩) (need_intro ?_ ?_); (conv => whnf))
    | (refine call_if (reattachr_spec (ownerG f).1.copy) (by first | exact .inl rfl | exact .inr ⟨rfl, rfl⟩) (need_intro ?_ ?_); (conv => whnf))
    | (refine call_if (changer_nil f _) (by first | exact .inl rfl | exact .inr ⟨rfl, rfl⟩) (need_intro ?_ ?_); (conv => whnf))
    | (refine bc_true (by assumption) ?_; (conv => whnf))
    | (refine bc_false (by assumption) ?_; (conv => whnf))
    | (refine bc_intro (fun _ => ?_) (fun _ => ?_) <;> (conv => whnf))
    | (refine need_intro ?_ ?_; (conv => whnf))
    | (refine wk_refl ?_; (conv => whnf))
    | (refine draw_intro (by kernel_rfl) ?_; (conv => whnf))
    | (refine ord_intro (by kernel_rfl) ?_; (conv => whnf))
  all_goals try simp only [cellsMem, bytesMem, decide_eq_true_eq, decide_eq_false_iff_not, bne_iff_ne, ne_eq, Decidable.not_not, Bool.not_eq_true', Bool.not_eq_false', bne_eq_false_iff_eq] at *
  all_goals try simp only [Int.toNat_zero, Int.toNat_one, List.getD_cons_zero, List.getD_cons_succ, beq_iff_eq, beq_eq_false_iff_ne, ne_eq, Bool.and_eq_true] at *
  all_goals first
    | exact ⟨hl, hl2⟩
    | exact hS
    | exact ⟨h, hD⟩
    | (rw [thaw_down (by assumption)]
       (refine ⟨LeS.tup (LeL.cons (LeS.agg ?_) (LeL.cons (LeS.refl _) LeL.nil)), trivial⟩
        repeat' first
          | exact LeL.nil
          | refine LeL.cons ?_ ?_
        all_goals first
          | exact LeS.refl _
          | exact les_own rfl
          | exact les_nil rfl)
       done)
    | (rw [thaw_state (by assumption) (.inl (by assumption))]
       (refine ⟨LeS.tup (LeL.cons (LeS.agg ?_) (LeL.cons (LeS.refl _) LeL.nil)), trivial⟩
        repeat' first
          | exact LeL.nil
          | refine LeL.cons ?_ ?_
        all_goals first
          | exact LeS.refl _
          | exact les_own rfl
          | exact les_nil rfl)
       done)
    | (rw [thaw_state (by assumption) (.inr (.inl (by assumption)))]
       (refine ⟨LeS.tup (LeL.cons (LeS.agg ?_) (LeL.cons (LeS.refl _) LeL.nil)), trivial⟩
        repeat' first
          | exact LeL.nil
          | refine LeL.cons ?_ ?_
        all_goals first
          | exact LeS.refl _
          | exact les_own rfl
          | exact les_nil rfl)
       done)
    | (rw [thaw_state (by assumption) (.inr (.inr (by assumption)))]
       (refine ⟨LeS.tup (LeL.cons (LeS.agg ?_) (LeL.cons (LeS.refl _) LeL.nil)), trivial⟩
        repeat' first
          | exact LeL.nil
          | refine LeL.cons ?_ ?_
        all_goals first
          | exact LeS.refl _
          | exact les_own rfl
          | exact les_nil rfl)
       done)
    | (rw [thaw_unk (by assumption) (by assumption) (by assumption) (by assumption) (by assumption)]
       (refine ⟨LeS.tup (LeL.cons (LeS.agg ?_) (LeL.cons (LeS.refl _) LeL.nil)), trivial⟩
        repeat' first
          | exact LeL.nil
          | refine LeL.cons ?_ ?_
        all_goals first
          | exact LeS.refl _
          | exact les_own rfl
          | exact les_nil rfl)
       done)
    | (rw [thaw_not (by assumption) (by assumption) (by assumption) (by assumption) (by assumption) (.inl (by assumption))]
       (refine ⟨LeS.tup (LeL.cons (LeS.agg ?_) (LeL.cons (LeS.refl _) LeL.nil)), trivial⟩
        repeat' first
          | exact LeL.nil
          | refine LeL.cons ?_ ?_
        all_goals first
          | exact LeS.refl _
          | exact les_own rfl
          | exact les_nil rfl)
       done)
    | (rw [thaw_not (by assumption) (by assumption) (by assumption) (by assumption) (by assumption) (.inr (by assumption))]
       (refine ⟨LeS.tup (LeL.cons (LeS.agg ?_) (LeL.cons (LeS.refl _) LeL.nil)), trivial⟩
        repeat' first
          | exact LeL.nil
          | refine LeL.cons ?_ ?_
        all_goals first
          | exact LeS.refl _
          | exact les_own rfl
          | exact les_nil rfl)
       done)
    | (rw [thaw_err (by assumption) (by assumption) (by assumption) (by assumption) (by assumption) (by assumption) (by assumption) (by assumption)]
       (refine ⟨LeS.tup (LeL.cons (LeS.agg ?_) (LeL.cons (LeS.refl _) LeL.nil)), trivial⟩
        repeat' first
          | exact LeL.nil
          | refine LeL.cons ?_ ?_
        all_goals first
          | exact LeS.refl _
          | exact les_own rfl
          | exact les_nil rfl)
       done)
    | (rw [thaw_ok (by assumption) (by assumption) (by assumption) (by assumption) (by assumption) (by assumption) (by assumption) (by assumption)]
       (refine ⟨LeS.tup (LeL.cons (LeS.agg ?_) (LeL.cons (LeS.refl _) LeL.nil)), trivial⟩
        repeat' first
          | exact LeL.nil
          | refine LeL.cons ?_ ?_
        all_goals first
          | exact LeS.refl _
          | exact les_own rfl
          | exact les_nil rfl)
       done)
    | trace_state
end Go.Proofs.YtapddnfjngfloaaGreatDoor

namespace Go.Proofs.YtapddnfjngfloaaGreatDoor
open Go Go.Sx Go.ChangeShapes Go.WideShapes Go.ChangeAt Go.RowKit
set_option linter.unusedVariables false
set_option linter.unusedSimpArgs false
set_option maxRecDepth 100000
def setG (t : GrpT) : Bool := (ownerG t).2 && (t.opn && (((ownerG t).1.copy.pend.length : Int) == 0))
theorem set_no {f t : GrpT} (hb : bothG f t = true) (hs : setG t = false) : t.opn = false ∨ quietC (ownerG t).1.copy = false := by
  simp only [bothG, Bool.and_eq_true] at hb
  simp only [setG, hb.2, Bool.true_and, Bool.and_eq_false_iff, beq_eq_false_iff_ne, ne_eq] at hs
  rcases hs with h | h
  · exact .inl h
  · exact .inr (quiet_no (.inl (by omega)))
theorem set_yes {t : GrpT} (hs : setG t = true) : t.opn = true ∧ ¬ ((ownerG t).1.copy.pend.length : Int) > 0 := by
  simp only [setG, Bool.and_eq_true, beq_iff_eq] at hs
  exact ⟨hs.2.1, by omega⟩
theorem settled_spec (t : GrpT) : t.mem.length ≤ 1000 → Sx.Spec Tryz.prog GG 119 [.agg (grpL t)] [] (.d (.bool (setG t))) [] := by
  intro h
  refine spec_intro (E := EE) (fn := Tryz.f119) eok (by kernel_rfl) (by kernel_rfl) Tryz.call119 (by kernel_rfl) (by kernel_rfl) ?_
  conv => whnf
  repeat' first
    | (refine call_if (ownerr_spec t) (by first | exact .inl rfl | exact .inr ⟨rfl, rfl⟩) (need_intro ?_ ?_); (conv => whnf))
    | (refine bc_true (by assumption) ?_; (conv => whnf))
    | (refine bc_false (by assumption) ?_; (conv => whnf))
    | (refine bc_intro (fun _ => ?_) (fun _ => ?_) <;> (conv => whnf))
    | (refine need_intro ?_ ?_; (conv => whnf))
    | (refine wk_refl ?_; (conv => whnf))
    | (refine draw_intro (by kernel_rfl) ?_; (conv => whnf))
    | (refine ord_intro (by kernel_rfl) ?_; (conv => whnf))
  all_goals first
    | exact h
    | (refine ⟨LeS.of_eq ?_, trivial⟩
       simp only [setG, *]; simp [*]
       done)
    | trace_state
theorem nextP_no {c : CopyT} {p : PartT} (h1 : ¬ cmpB p.hk p.ht c.lk c.lt = 0) (h2 : ¬ cmpB p.lk p.lt c.hk c.ht = 0) : nextP c p = false := by simp [next_or, h1, h2]
theorem nextP_1 {c : CopyT} {p : PartT} (h1 : cmpB p.hk p.ht c.lk c.lt = 0) : nextP c p = true := by simp [next_or, h1]
theorem nextP_2 {c : CopyT} {p : PartT} (h1 : cmpB p.lk p.lt c.hk c.ht = 0) : nextP c p = true := by simp [next_or, h1]
set_option maxHeartbeats 2000000 in
theorem deliverr_spec (f t : GrpT) : (GrpB 1000 f ∧ GrpB 1000 t) → Sx.Spec Tryz.prog GG 70 [.agg (grpL f), .agg (grpL t)] [] (.tup [.agg (grpL (deliverG f t).1), .d (.int .i64 (deliverG f t).2)]) [] := by
  rintro ⟨h, h2⟩
  have hl := h.len
  have hl2 := h2.len
  have hS := own_small h
  have hS2 := own_small h2
  have hD : Small { (ownerG t).1.copy with inn := (ownerG f).1.copy.out } := ⟨hS2.1, hS2.2.1, hS2.2.2.1, hS.2.2.1⟩
  refine spec_intro (E := EE) (fn := Tryz.f70) eok (by kernel_rfl) (by kernel_rfl) Tryz.call70 (by kernel_rfl) (by kernel_rfl) ?_
  conv => whnf
  repeat' first
    | (refine call_if (owners_spec f t) (by first | exact .inl rfl | exact .inr ⟨rfl, rfl⟩) (need_intro ?_ ?_); (conv => whnf))
    | (refine call_if (settled_spec t) (by first | exact .inl rfl | exact .inr ⟨rfl, rfl⟩) (need_intro ?_ ?_); (conv => whnf))
    | (refine call_intro (comparer_spec _ _ _ _) ?_ (by first | exact .inl rfl | exact .inr ⟨rfl, rfl⟩); (conv => whnf))
    | (refine call_if (changer_nil t { (ownerG t).1.copy with inn := (ownerG f).1.copy.out }) (by first | exact .inl rfl | exact .inr ⟨rfl, rfl⟩) (need_intro ?_ ?_); (conv => whnf))
    | (refine bc_true (by assumption) ?_; (conv => whnf))
    | (refine bc_false (by assumption) ?_; (conv => whnf))
    | (refine bc_intro (fun _ => ?_) (fun _ => ?_) <;> (conv => whnf))
    | (refine need_intro ?_ ?_; (conv => whnf))
    | (refine wk_refl ?_; (conv => whnf))
    | (refine draw_intro (by kernel_rfl) ?_; (conv => whnf))
    | (refine ord_intro (by kernel_rfl) ?_; (conv => whnf))
  all_goals try simp only [cellsMem, bytesMem, decide_eq_true_eq, decide_eq_false_iff_not, bne_iff_ne, ne_eq, Decidable.not_not, Bool.not_eq_true', Bool.not_eq_false', bne_eq_false_iff_eq] at *
  all_goals try simp only [Int.toNat_zero, Int.toNat_one, List.getD_cons_zero, List.getD_cons_succ, beq_iff_eq, beq_eq_false_iff_ne, ne_eq, Bool.and_eq_true] at *
  all_goals try have hst := set_yes (t := t) (by assumption)
  all_goals first
    | exact ⟨hl, hl2⟩
    | exact hl2
    | exact ⟨h2, hD⟩
    | (rw [deliver_down (by assumption)]
       (refine ⟨LeS.tup (LeL.cons (LeS.agg ?_) (LeL.cons (LeS.refl _) LeL.nil)), trivial⟩
        repeat' first
          | exact LeL.nil
          | refine LeL.cons ?_ ?_
        all_goals first
          | exact LeS.refl _
          | exact les_own rfl
          | exact les_nil rfl)
       done)
    | (rw [deliver_state (by assumption) (.inl (by assumption))]
       (refine ⟨LeS.tup (LeL.cons (LeS.agg ?_) (LeL.cons (LeS.refl _) LeL.nil)), trivial⟩
        repeat' first
          | exact LeL.nil
          | refine LeL.cons ?_ ?_
        all_goals first
          | exact LeS.refl _
          | exact les_own rfl
          | exact les_nil rfl)
       done)
    | (rw [deliver_state (by assumption) (.inr (.inl (by assumption)))]
       (refine ⟨LeS.tup (LeL.cons (LeS.agg ?_) (LeL.cons (LeS.refl _) LeL.nil)), trivial⟩
        repeat' first
          | exact LeL.nil
          | refine LeL.cons ?_ ?_
        all_goals first
          | exact LeS.refl _
          | exact les_own rfl
          | exact les_nil rfl)
       done)
    | (rw [deliver_state (by assumption) (.inr (.inr (set_no (f := f) (by assumption) (by assumption))))]
       (refine ⟨LeS.tup (LeL.cons (LeS.agg ?_) (LeL.cons (LeS.refl _) LeL.nil)), trivial⟩
        repeat' first
          | exact LeL.nil
          | refine LeL.cons ?_ ?_
        all_goals first
          | exact LeS.refl _
          | exact les_own rfl
          | exact les_nil rfl)
       done)
    | (rw [deliver_state (by assumption) (.inr (.inr (.inr (quiet_no (.inr (.inl (by assumption)))))))]
       (refine ⟨LeS.tup (LeL.cons (LeS.agg ?_) (LeL.cons (LeS.refl _) LeL.nil)), trivial⟩
        repeat' first
          | exact LeL.nil
          | refine LeL.cons ?_ ?_
        all_goals first
          | exact LeS.refl _
          | exact les_own rfl
          | exact les_nil rfl)
       done)
    | (rw [deliver_state (by assumption) (.inr (.inr (.inr (quiet_no (.inr (.inr (.inl (by assumption))))))))]
       (refine ⟨LeS.tup (LeL.cons (LeS.agg ?_) (LeL.cons (LeS.refl _) LeL.nil)), trivial⟩
        repeat' first
          | exact LeL.nil
          | refine LeL.cons ?_ ?_
        all_goals first
          | exact LeS.refl _
          | exact les_own rfl
          | exact les_nil rfl)
       done)
    | (rw [deliver_state (by assumption) (.inr (.inr (.inr (quiet_no (.inr (.inr (.inr (by assumption))))))))]
       (refine ⟨LeS.tup (LeL.cons (LeS.agg ?_) (LeL.cons (LeS.refl _) LeL.nil)), trivial⟩
        repeat' first
          | exact LeL.nil
          | refine LeL.cons ?_ ?_
        all_goals first
          | exact LeS.refl _
          | exact les_own rfl
          | exact les_nil rfl)
       done)
    | (rw [deliver_unk (by assumption) (by assumption) (by assumption) hst.1 (quiet_yes hst.2 (by assumption) (by assumption) (by assumption)) (by assumption)]
       (refine ⟨LeS.tup (LeL.cons (LeS.agg ?_) (LeL.cons (LeS.refl _) LeL.nil)), trivial⟩
        repeat' first
          | exact LeL.nil
          | refine LeL.cons ?_ ?_
        all_goals first
          | exact LeS.refl _
          | exact les_own rfl
          | exact les_nil rfl)
       done)
    | (rw [deliver_gap (by assumption) (by assumption) (by assumption) hst.1 (quiet_yes hst.2 (by assumption) (by assumption) (by assumption)) (by assumption) (nextP_no (by assumption) (by assumption))]
       (refine ⟨LeS.tup (LeL.cons (LeS.agg ?_) (LeL.cons (LeS.refl _) LeL.nil)), trivial⟩
        repeat' first
          | exact LeL.nil
          | refine LeL.cons ?_ ?_
        all_goals first
          | exact LeS.refl _
          | exact les_own rfl
          | exact les_nil rfl)
       done)
    | (rw [deliver_ok (by assumption) (by assumption) (by assumption) hst.1 (quiet_yes hst.2 (by assumption) (by assumption) (by assumption)) (by assumption) (nextP_1 (by assumption))]
       (refine ⟨LeS.tup (LeL.cons (LeS.agg ?_) (LeL.cons (LeS.refl _) LeL.nil)), trivial⟩
        repeat' first
          | exact LeL.nil
          | refine LeL.cons ?_ ?_
        all_goals first
          | exact LeS.refl _
          | exact les_own rfl
          | exact les_nil rfl)
       done)
    | (rw [deliver_ok (by assumption) (by assumption) (by assumption) hst.1 (quiet_yes hst.2 (by assumption) (by assumption) (by assumption)) (by assumption) (nextP_2 (by assumption))]
       (refine ⟨LeS.tup (LeL.cons (LeS.agg ?_) (LeL.cons (LeS.refl _) LeL.nil)), trivial⟩
        repeat' first
          | exact LeL.nil
          | refine LeL.cons ?_ ?_
        all_goals first
          | exact LeS.refl _
          | exact les_own rfl
          | exact les_nil rfl)
       done)
    | trace_state
end Go.Proofs.YtapddnfjngfloaaGreatDoor

namespace Go.Proofs.YtapddnfjngfloaaGreatDoor
open Go Go.Sx Go.ChangeShapes Go.WideShapes Go.ChangeAt Go.RowKit
set_option linter.unusedVariables false
set_option linter.unusedSimpArgs false
set_option maxRecDepth 100000
theorem phase_b {r : GrpT × Int} (h : GrpB 1000 r.1) : GrpB 1000 (phaseG r).1 := by
  unfold phaseG
  split
  · exact recover_b h
  · exact h
/-- the groups behind i phases -/
structure RunA where
  f : GrpT
  t : GrpT
def stepR (bk : List UInt8) (bt : Bool) (side ser : Int) (x : RunA) : Nat → GrpT × Int
  | 0 => freezeG x.f bk bt side ser x.t.num
  | 1 => deliverG x.f x.t
  | 2 => installG x.t
  | 3 => releaseG x.f x.t
  | _ => forgetG x.t x.f
def putR (i : Nat) (x : RunA) (g : GrpT) : RunA := if i = 0 ∨ i = 3 then ⟨g, x.t⟩ else ⟨x.f, g⟩
def runR (bk : List UInt8) (bt : Bool) (side ser : Int) : Nat → Nat → RunA → (GrpT × GrpT) × Int
  | 0, _, x => ((x.f, x.t), 0)
  | n + 1, i, x => if (phaseG (stepR bk bt side ser x i)).2 = 0 then runR bk bt side ser n (i + 1) (putR i x (phaseG (stepR bk bt side ser x i)).1) else ((noGrp, noGrp), (phaseG (stepR bk bt side ser x i)).2)
theorem run_eq {f t : GrpT} {bk : List UInt8} {bt : Bool} {side ser : Int} : runG f t bk bt side ser = runR bk bt side ser 5 0 ⟨f, t⟩ := by
  simp only [runG, runR, stepR, putR, ite_not]
  rfl
theorem step_b {bk : List UInt8} {bt : Bool} {side ser : Int} {x : RunA} (h : GrpB 1000 x.f ∧ GrpB 1000 x.t) : ∀ i, GrpB 1000 (stepR bk bt side ser x i).1
  | 0 => freeze_b h.1
  | 1 => deliver_b h.1 h.2
  | 2 => install_b h.2
  | 3 => release_b h.1
  | _ + 4 => forget_b h.2
theorem put_b {i : Nat} {x : RunA} {g : GrpT} (h : GrpB 1000 x.f ∧ GrpB 1000 x.t) (hg : GrpB 1000 g) : GrpB 1000 (putR i x g).f ∧ GrpB 1000 (putR i x g).t := by
  unfold putR
  split
  · exact ⟨hg, h.2⟩
  · exact ⟨h.1, hg⟩
theorem run_go {bk : List UInt8} {bt : Bool} {side ser : Int} {n i : Nat} {x : RunA} (h1 : (stepR bk bt side ser x i).2 = 0) (h2 : (recoverG (stepR bk bt side ser x i).1).2 = 0) : runR bk bt side ser (n + 1) i x = runR bk bt side ser n (i + 1) (putR i x (recoverG (stepR bk bt side ser x i).1).1.1) := by
  have e : phaseG (stepR bk bt side ser x i) = ((recoverG (stepR bk bt side ser x i).1).1.1, (recoverG (stepR bk bt side ser x i).1).2) := by rw [phaseG, if_pos h1]
  rw [runR, e, if_pos h2]
theorem run_no1 {bk : List UInt8} {bt : Bool} {side ser : Int} {n i : Nat} {x : RunA} (h1 : ¬ (stepR bk bt side ser x i).2 = 0) : runR bk bt side ser (n + 1) i x = ((noGrp, noGrp), (stepR bk bt side ser x i).2) := by
  have e : phaseG (stepR bk bt side ser x i) = stepR bk bt side ser x i := by rw [phaseG, if_neg h1]
  rw [runR, e, if_neg h1]
theorem run_no2 {bk : List UInt8} {bt : Bool} {side ser : Int} {n i : Nat} {x : RunA} (h1 : (stepR bk bt side ser x i).2 = 0) (h2 : ¬ (recoverG (stepR bk bt side ser x i).1).2 = 0) : runR bk bt side ser (n + 1) i x = ((noGrp, noGrp), (recoverG (stepR bk bt side ser x i).1).2) := by
  have e : phaseG (stepR bk bt side ser x i) = ((recoverG (stepR bk bt side ser x i).1).1.1, (recoverG (stepR bk bt side ser x i).1).2) := by rw [phaseG, if_pos h1]
  rw [runR, e, if_neg h2]
set_option maxHeartbeats 8000000 in
theorem runr_spec (f t : GrpT) (bk : List UInt8) (bt : Bool) (side ser : Int) : (GrpB 1000 f ∧ GrpB 1000 t) → Sx.Spec Tryz.prog GG 76 [.agg (grpL f), .agg (grpL t), .agg [.d (.str bk), .d (.bool bt)], .d (.int .i64 side), .d (.int .i64 ser)] [] (.tup [.agg (grpL (runG f t bk bt side ser).1.1), .agg (grpL (runG f t bk bt side ser).1.2), .d (.int .i64 (runG f t bk bt side ser).2)]) [] := by
  rintro ⟨h, h2⟩
  rw [run_eq]
  refine spec_intro (E := EE) (fn := Tryz.f76) eok (by kernel_rfl) (by kernel_rfl) Tryz.call76 (by kernel_rfl) (by kernel_rfl) ?_
  conv => whnf
  repeat' first
    | (refine bc_true (by assumption) ?_; (conv => whnf))
    | (refine bc_false (by assumption) ?_; (conv => whnf))
    | (refine need_intro ?_ ?_; (conv => whnf))
    | (refine wk_refl ?_; (conv => whnf))
    | (refine draw_intro (by kernel_rfl) ?_; (conv => whnf))
    | (refine ord_intro (by kernel_rfl) ?_; (conv => whnf))
  refine loop_auto [3, 4, 5, 6, 7, 10, 11, 12] [7, 10, 11] (fun z : Nat × RunA => [(13, .d (.int .i64 z.1))]) (fun z => [(5, .box (grpL z.2.f)), (6, .box (grpL z.2.t))]) (fun z => (z.1 ≤ 5 ∧ runR bk bt side ser 5 0 ⟨f, t⟩ = runR bk bt side ser (5 - z.1) z.1 z.2) ∧ GrpB 1000 z.2.f ∧ GrpB 1000 z.2.t) (fun z => 5 - z.1) (0, ⟨f, t⟩) ?_ (fun z hz => ?_) ⟨⟨by omega, rfl⟩, h, h2⟩
  · conv => whnf
    repeat' first
      | (refine bc_true (by assumption) ?_; (conv => whnf))
      | (refine bc_false (by assumption) ?_; (conv => whnf))
      | (refine bc_intro (fun _ => ?_) (fun _ => ?_) <;> (conv => whnf))
      | (refine need_intro ?_ ?_; (conv => whnf))
      | (refine wk_refl ?_; (conv => whnf))
      | (refine draw_intro (by kernel_rfl) ?_; (conv => whnf))
      | (refine ord_intro (by kernel_rfl) ?_; (conv => whnf))
    all_goals first | exact trivial | exact DLe.refl _ | trace_state
  obtain ⟨i, x⟩ := z
  obtain ⟨⟨hi, hr⟩, hb⟩ := hz
  simp only at hi hr hb
  rw [hr]
  have hst := fun j => step_b (bk := bk) (bt := bt) (side := side) (ser := ser) hb j
  match i, hi with
  | 5, _ =>
    conv => whnf
    repeat' first
      | (refine bc_true (by assumption) ?_; (conv => whnf))
      | (refine bc_false (by assumption) ?_; (conv => whnf))
      | (refine bc_intro (fun _ => ?_) (fun _ => ?_) <;> (conv => whnf))
      | (refine need_intro ?_ ?_; (conv => whnf))
      | (refine wk_refl ?_; (conv => whnf))
      | (refine draw_intro (by kernel_rfl) ?_; (conv => whnf))
      | (refine ord_intro (by kernel_rfl) ?_; (conv => whnf))
    exact ⟨LeS.refl _, trivial⟩
  | 0, _ =>
    conv => whnf
    repeat' first
      | (refine call_if (freezer_spec x.f bk bt side ser x.t.num) (by first | exact .inl rfl | exact .inr ⟨rfl, rfl⟩) (need_intro ?_ ?_); (conv => whnf))
      | (refine call_if (recoverr_spec (stepR bk bt side ser x 0).1) (by first | exact .inl rfl | exact .inr ⟨rfl, rfl⟩) (need_intro ?_ ?_); (conv => whnf))
      | (refine NextVC.mk (1, putR 0 x (recoverG (stepR bk bt side ser x 0).1).1.1) ?_ ?_ ?_; (conv => whnf))
      | (refine bc_true (by assumption) ?_; (conv => whnf))
      | (refine bc_false (by assumption) ?_; (conv => whnf))
      | (refine bc_intro (fun _ => ?_) (fun _ => ?_) <;> (conv => whnf))
      | (refine need_intro ?_ ?_; (conv => whnf))
      | (refine wk_refl ?_; (conv => whnf))
      | (refine draw_intro (by kernel_rfl) ?_; (conv => whnf))
      | (refine ord_intro (by kernel_rfl) ?_; (conv => whnf))
    all_goals try dsimp only at *
    all_goals first
      | exact trivial
      | exact DLe.refl _
      | exact hst 0
      | exact hb.1
      | exact hb.2
      | exact hb
      | exact ⟨hb.2, hb.1⟩
      | exact ⟨⟨by omega, run_go (n := 4 - 0) (i := 0) (x := x) (eq_of_beq (by assumption)) (by first | exact eq_of_beq (by assumption) | assumption | (simp only [bne_eq_false_iff_eq] at *; assumption))⟩, put_b hb (recover_b (hst 0))⟩
      | omega
      | (rw [show 5 - 0 = (4 - 0) + 1 from rfl, run_no1 (i := 0) (x := x) (ne_of_beq_false (by assumption))]
         (refine ⟨LeS.tup (LeL.cons (LeS.agg ?_) (LeL.cons (LeS.agg ?_) (LeL.cons (LeS.refl _) LeL.nil))), trivial⟩
          all_goals repeat' first
            | exact LeL.nil
            | refine LeL.cons ?_ ?_
          all_goals first
            | exact LeS.refl _
            | exact les_nil rfl)
         done)
      | (rw [show 5 - 0 = (4 - 0) + 1 from rfl, run_no2 (i := 0) (x := x) (eq_of_beq (by assumption)) (by first | exact ne_of_beq_false (by assumption) | assumption | (simp only [bne_iff_ne] at *; assumption))]
         (refine ⟨LeS.tup (LeL.cons (LeS.agg ?_) (LeL.cons (LeS.agg ?_) (LeL.cons (LeS.refl _) LeL.nil))), trivial⟩
          all_goals repeat' first
            | exact LeL.nil
            | refine LeL.cons ?_ ?_
          all_goals first
            | exact LeS.refl _
            | exact les_nil rfl)
         done)
      | (exfalso; simp only [bne_eq_false_iff_eq, beq_eq_false_iff_ne, ne_eq] at *; contradiction)
      | trace_state
  | 1, _ =>
    conv => whnf
    repeat' first
      | (refine call_if (deliverr_spec x.f x.t) (by first | exact .inl rfl | exact .inr ⟨rfl, rfl⟩) (need_intro ?_ ?_); (conv => whnf))
      | (refine call_if (recoverr_spec (stepR bk bt side ser x 1).1) (by first | exact .inl rfl | exact .inr ⟨rfl, rfl⟩) (need_intro ?_ ?_); (conv => whnf))
      | (refine NextVC.mk (2, putR 1 x (recoverG (stepR bk bt side ser x 1).1).1.1) ?_ ?_ ?_; (conv => whnf))
      | (refine bc_true (by assumption) ?_; (conv => whnf))
      | (refine bc_false (by assumption) ?_; (conv => whnf))
      | (refine bc_intro (fun _ => ?_) (fun _ => ?_) <;> (conv => whnf))
      | (refine need_intro ?_ ?_; (conv => whnf))
      | (refine wk_refl ?_; (conv => whnf))
      | (refine draw_intro (by kernel_rfl) ?_; (conv => whnf))
      | (refine ord_intro (by kernel_rfl) ?_; (conv => whnf))
    all_goals try dsimp only at *
    all_goals first
      | exact trivial
      | exact DLe.refl _
      | exact hst 1
      | exact hb.1
      | exact hb.2
      | exact hb
      | exact ⟨hb.2, hb.1⟩
      | exact ⟨⟨by omega, run_go (n := 4 - 1) (i := 1) (x := x) (eq_of_beq (by assumption)) (by first | exact eq_of_beq (by assumption) | assumption | (simp only [bne_eq_false_iff_eq] at *; assumption))⟩, put_b hb (recover_b (hst 1))⟩
      | omega
      | (rw [show 5 - 1 = (4 - 1) + 1 from rfl, run_no1 (i := 1) (x := x) (ne_of_beq_false (by assumption))]
         (refine ⟨LeS.tup (LeL.cons (LeS.agg ?_) (LeL.cons (LeS.agg ?_) (LeL.cons (LeS.refl _) LeL.nil))), trivial⟩
          all_goals repeat' first
            | exact LeL.nil
            | refine LeL.cons ?_ ?_
          all_goals first
            | exact LeS.refl _
            | exact les_nil rfl)
         done)
      | (rw [show 5 - 1 = (4 - 1) + 1 from rfl, run_no2 (i := 1) (x := x) (eq_of_beq (by assumption)) (by first | exact ne_of_beq_false (by assumption) | assumption | (simp only [bne_iff_ne] at *; assumption))]
         (refine ⟨LeS.tup (LeL.cons (LeS.agg ?_) (LeL.cons (LeS.agg ?_) (LeL.cons (LeS.refl _) LeL.nil))), trivial⟩
          all_goals repeat' first
            | exact LeL.nil
            | refine LeL.cons ?_ ?_
          all_goals first
            | exact LeS.refl _
            | exact les_nil rfl)
         done)
      | (exfalso; simp only [bne_eq_false_iff_eq, beq_eq_false_iff_ne, ne_eq] at *; contradiction)
      | trace_state
  | 2, _ =>
    conv => whnf
    repeat' first
      | (refine call_if (installr_spec x.t) (by first | exact .inl rfl | exact .inr ⟨rfl, rfl⟩) (need_intro ?_ ?_); (conv => whnf))
      | (refine call_if (recoverr_spec (stepR bk bt side ser x 2).1) (by first | exact .inl rfl | exact .inr ⟨rfl, rfl⟩) (need_intro ?_ ?_); (conv => whnf))
      | (refine NextVC.mk (3, putR 2 x (recoverG (stepR bk bt side ser x 2).1).1.1) ?_ ?_ ?_; (conv => whnf))
      | (refine bc_true (by assumption) ?_; (conv => whnf))
      | (refine bc_false (by assumption) ?_; (conv => whnf))
      | (refine bc_intro (fun _ => ?_) (fun _ => ?_) <;> (conv => whnf))
      | (refine need_intro ?_ ?_; (conv => whnf))
      | (refine wk_refl ?_; (conv => whnf))
      | (refine draw_intro (by kernel_rfl) ?_; (conv => whnf))
      | (refine ord_intro (by kernel_rfl) ?_; (conv => whnf))
    all_goals try dsimp only at *
    all_goals first
      | exact trivial
      | exact DLe.refl _
      | exact hst 2
      | exact hb.1
      | exact hb.2
      | exact hb
      | exact ⟨hb.2, hb.1⟩
      | exact ⟨⟨by omega, run_go (n := 4 - 2) (i := 2) (x := x) (eq_of_beq (by assumption)) (by first | exact eq_of_beq (by assumption) | assumption | (simp only [bne_eq_false_iff_eq] at *; assumption))⟩, put_b hb (recover_b (hst 2))⟩
      | omega
      | (rw [show 5 - 2 = (4 - 2) + 1 from rfl, run_no1 (i := 2) (x := x) (ne_of_beq_false (by assumption))]
         (refine ⟨LeS.tup (LeL.cons (LeS.agg ?_) (LeL.cons (LeS.agg ?_) (LeL.cons (LeS.refl _) LeL.nil))), trivial⟩
          all_goals repeat' first
            | exact LeL.nil
            | refine LeL.cons ?_ ?_
          all_goals first
            | exact LeS.refl _
            | exact les_nil rfl)
         done)
      | (rw [show 5 - 2 = (4 - 2) + 1 from rfl, run_no2 (i := 2) (x := x) (eq_of_beq (by assumption)) (by first | exact ne_of_beq_false (by assumption) | assumption | (simp only [bne_iff_ne] at *; assumption))]
         (refine ⟨LeS.tup (LeL.cons (LeS.agg ?_) (LeL.cons (LeS.agg ?_) (LeL.cons (LeS.refl _) LeL.nil))), trivial⟩
          all_goals repeat' first
            | exact LeL.nil
            | refine LeL.cons ?_ ?_
          all_goals first
            | exact LeS.refl _
            | exact les_nil rfl)
         done)
      | (exfalso; simp only [bne_eq_false_iff_eq, beq_eq_false_iff_ne, ne_eq] at *; contradiction)
      | trace_state
  | 3, _ =>
    conv => whnf
    repeat' first
      | (refine call_if (releaser_spec x.f x.t) (by first | exact .inl rfl | exact .inr ⟨rfl, rfl⟩) (need_intro ?_ ?_); (conv => whnf))
      | (refine call_if (recoverr_spec (stepR bk bt side ser x 3).1) (by first | exact .inl rfl | exact .inr ⟨rfl, rfl⟩) (need_intro ?_ ?_); (conv => whnf))
      | (refine NextVC.mk (4, putR 3 x (recoverG (stepR bk bt side ser x 3).1).1.1) ?_ ?_ ?_; (conv => whnf))
      | (refine bc_true (by assumption) ?_; (conv => whnf))
      | (refine bc_false (by assumption) ?_; (conv => whnf))
      | (refine bc_intro (fun _ => ?_) (fun _ => ?_) <;> (conv => whnf))
      | (refine need_intro ?_ ?_; (conv => whnf))
      | (refine wk_refl ?_; (conv => whnf))
      | (refine draw_intro (by kernel_rfl) ?_; (conv => whnf))
      | (refine ord_intro (by kernel_rfl) ?_; (conv => whnf))
    all_goals try dsimp only at *
    all_goals first
      | exact trivial
      | exact DLe.refl _
      | exact hst 3
      | exact hb.1
      | exact hb.2
      | exact hb
      | exact ⟨hb.2, hb.1⟩
      | exact ⟨⟨by omega, run_go (n := 4 - 3) (i := 3) (x := x) (eq_of_beq (by assumption)) (by first | exact eq_of_beq (by assumption) | assumption | (simp only [bne_eq_false_iff_eq] at *; assumption))⟩, put_b hb (recover_b (hst 3))⟩
      | omega
      | (rw [show 5 - 3 = (4 - 3) + 1 from rfl, run_no1 (i := 3) (x := x) (ne_of_beq_false (by assumption))]
         (refine ⟨LeS.tup (LeL.cons (LeS.agg ?_) (LeL.cons (LeS.agg ?_) (LeL.cons (LeS.refl _) LeL.nil))), trivial⟩
          all_goals repeat' first
            | exact LeL.nil
            | refine LeL.cons ?_ ?_
          all_goals first
            | exact LeS.refl _
            | exact les_nil rfl)
         done)
      | (rw [show 5 - 3 = (4 - 3) + 1 from rfl, run_no2 (i := 3) (x := x) (eq_of_beq (by assumption)) (by first | exact ne_of_beq_false (by assumption) | assumption | (simp only [bne_iff_ne] at *; assumption))]
         (refine ⟨LeS.tup (LeL.cons (LeS.agg ?_) (LeL.cons (LeS.agg ?_) (LeL.cons (LeS.refl _) LeL.nil))), trivial⟩
          all_goals repeat' first
            | exact LeL.nil
            | refine LeL.cons ?_ ?_
          all_goals first
            | exact LeS.refl _
            | exact les_nil rfl)
         done)
      | (exfalso; simp only [bne_eq_false_iff_eq, beq_eq_false_iff_ne, ne_eq] at *; contradiction)
      | trace_state
  | 4, _ =>
    conv => whnf
    repeat' first
      | (refine call_if (forgetr_spec x.t x.f) (by first | exact .inl rfl | exact .inr ⟨rfl, rfl⟩) (need_intro ?_ ?_); (conv => whnf))
      | (refine call_if (recoverr_spec (stepR bk bt side ser x 4).1) (by first | exact .inl rfl | exact .inr ⟨rfl, rfl⟩) (need_intro ?_ ?_); (conv => whnf))
      | (refine NextVC.mk (5, putR 4 x (recoverG (stepR bk bt side ser x 4).1).1.1) ?_ ?_ ?_; (conv => whnf))
      | (refine bc_true (by assumption) ?_; (conv => whnf))
      | (refine bc_false (by assumption) ?_; (conv => whnf))
      | (refine bc_intro (fun _ => ?_) (fun _ => ?_) <;> (conv => whnf))
      | (refine need_intro ?_ ?_; (conv => whnf))
      | (refine wk_refl ?_; (conv => whnf))
      | (refine draw_intro (by kernel_rfl) ?_; (conv => whnf))
      | (refine ord_intro (by kernel_rfl) ?_; (conv => whnf))
    all_goals try dsimp only at *
    all_goals first
      | exact trivial
      | exact DLe.refl _
      | exact hst 4
      | exact hb.1
      | exact hb.2
      | exact hb
      | exact ⟨hb.2, hb.1⟩
      | exact ⟨⟨by omega, run_go (n := 4 - 4) (i := 4) (x := x) (eq_of_beq (by assumption)) (by first | exact eq_of_beq (by assumption) | assumption | (simp only [bne_eq_false_iff_eq] at *; assumption))⟩, put_b hb (recover_b (hst 4))⟩
      | omega
      | (rw [show 5 - 4 = (4 - 4) + 1 from rfl, run_no1 (i := 4) (x := x) (ne_of_beq_false (by assumption))]
         (refine ⟨LeS.tup (LeL.cons (LeS.agg ?_) (LeL.cons (LeS.agg ?_) (LeL.cons (LeS.refl _) LeL.nil))), trivial⟩
          all_goals repeat' first
            | exact LeL.nil
            | refine LeL.cons ?_ ?_
          all_goals first
            | exact LeS.refl _
            | exact les_nil rfl)
         done)
      | (rw [show 5 - 4 = (4 - 4) + 1 from rfl, run_no2 (i := 4) (x := x) (eq_of_beq (by assumption)) (by first | exact ne_of_beq_false (by assumption) | assumption | (simp only [bne_iff_ne] at *; assumption))]
         (refine ⟨LeS.tup (LeL.cons (LeS.agg ?_) (LeL.cons (LeS.agg ?_) (LeL.cons (LeS.refl _) LeL.nil))), trivial⟩
          all_goals repeat' first
            | exact LeL.nil
            | refine LeL.cons ?_ ?_
          all_goals first
            | exact LeS.refl _
            | exact les_nil rfl)
         done)
      | (exfalso; simp only [bne_eq_false_iff_eq, beq_eq_false_iff_ne, ne_eq] at *; contradiction)
      | trace_state
end Go.Proofs.YtapddnfjngfloaaGreatDoor
