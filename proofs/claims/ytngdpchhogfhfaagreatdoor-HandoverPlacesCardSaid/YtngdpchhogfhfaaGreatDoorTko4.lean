/- Contracts of functions that the law reaches: YtngdpchhogfhfaaGreatDoorTko4. Written for this claim. -/
import Derived.Test.YtngdpchhogfhfaaGreatDoorTko3
import Derived.Test.YtngdpchhogfhfaaGreatDoorSxGrp
namespace Go.Proofs.YtngdpchhogfhfaaGreatDoor
open Go Go.Sx Go.ChangeShapes Go.WideShapes Go.ChangeAt Go.RowKit
set_option linter.unusedVariables false
set_option linter.unusedSimpArgs false
set_option maxRecDepth 100000
theorem take_closed {g : GrpT} (h : (takeG g).2 = 0) : (takeG g).1.opn = false := by
  by_cases h1 : g.mem.length = 0 ∨ heirG g.mem 0 = 0
  · rw [take_state h1] at h; cases h
  · by_cases h2 : heirG g.mem 0 < 0
    · rw [take_lost h1 h2] at h; cases h
    · by_cases h3 : (renewF [((g.mem.getD (heirG g.mem 0).toNat default).copy.se, (g.mem.getD (heirG g.mem 0).toNat default).copy.sv)]).2 = 0
      · rw [take_ok h1 h2 h3]
      · rw [take_full h1 h2 h3] at h; exact absurd h h3
theorem down_of {g : GrpT} (h1 : (g.mem.length : Int) > 0) (h2 : (g.mem.getD 0 default).up = false) : downG g = true := by
  simp only [downG, own0, h2, Bool.not_false, Bool.and_true, decide_eq_true_eq]; omega
theorem down_no {g : GrpT} (h : ¬ (g.mem.length : Int) > 0 ∨ (g.mem.getD 0 default).up = true) : downG g = false := by
  simp only [downG, own0, Bool.and_eq_false_iff, decide_eq_false_iff_not, Bool.not_eq_false']
  rcases h with h | h
  · exact .inl (by omega)
  · exact .inr h
theorem rcv_fail {g : GrpT} (h : downG g = true) (h2 : ¬ (takeG g).2 = 0) : recoverG g = ((noGrp, []), (takeG g).2) := by rw [recoverG, if_pos h, if_pos h2]
theorem rcv_take {g : GrpT} (h : downG g = true) (h2 : (takeG g).2 = 0) : recoverG g = rec2 (takeG g).1 := by rw [recoverG, if_pos h, if_neg (by simp [h2])]
theorem rcv_open {g : GrpT} (h : downG g = false) (h2 : (g.mem.length : Int) > 0) (h3 : g.opn = true) : recoverG g = ((noGrp, []), 7) := by rw [recoverG, if_neg (by simp [h]), if_pos ⟨by omega, h3⟩]
theorem rcv_rest {g : GrpT} (h : downG g = false) (h2 : ¬ (g.mem.length : Int) > 0 ∨ g.opn = false) : recoverG g = rec2 g := by
  rw [recoverG, if_neg (by simp [h]), if_neg (by
    rintro ⟨h3, h4⟩
    rcases h2 with h2 | h2
    · omega
    · rw [h4] at h2; cases h2)]
theorem rec2_fail {g : GrpT} {e : Int} (h : recAt g.mem 1 g = (noGrp, e)) (he : ¬ e = 0) : rec2 g = ((noGrp, []), e) := by rw [rec2, h, if_pos he]
theorem rec2_done {g x : GrpT} (h : recAt g.mem 1 g = (x, 0)) : rec2 g = finishG x := by rw [rec2, h, if_neg (by simp)]
set_option maxHeartbeats 2000000 in
theorem recoverp_spec (g : GrpT) : GrpB 1000 g → Sx.Spec Tryz.prog GG 43 [.agg (grpL g)] [] (.tup [.agg (grpL (recoverG g).1.1), .d (encL encWr 3 (recoverG g).1.2), .d (.int .i64 (recoverG g).2)]) [] := by
  intro h
  have hl := h.len
  refine spec_intro (E := EE) (fn := Tryz.f43) eok (by kernel_rfl) (by kernel_rfl) Tryz.call43 (by kernel_rfl) (by kernel_rfl) ?_
  conv => whnf
  repeat' first
    | (refine call_if (takep_spec g) (by first | exact .inl rfl | exact .inr ⟨rfl, rfl⟩) (need_intro ?_ ?_); (conv => whnf))
    | (refine bc_true (by assumption) ?_; (conv => whnf))
    | (refine bc_false (by assumption) ?_; (conv => whnf))
    | (refine bc_intro (fun _ => ?_) (fun _ => ?_) <;> (conv => whnf))
    | (refine need_intro ?_ ?_; (conv => whnf))
    | (refine wk_refl ?_; (conv => whnf))
    | (refine draw_intro (by kernel_rfl) ?_; (conv => whnf))
    | (refine ord_intro (by kernel_rfl) ?_; (conv => whnf))
  all_goals try simp only [cellsMem, bytesMem, decide_eq_true_eq, decide_eq_false_iff_not, bne_iff_ne, ne_eq, Decidable.not_not, Bool.not_eq_true', Bool.not_eq_false', bne_eq_false_iff_eq] at *
  all_goals try simp only [Int.toNat_zero] at *
  all_goals try first
    | exact h
    | exact ⟨Int.le_refl 0, by omega⟩
    | (rw [rcv_fail (down_of (by assumption) (by assumption)) (by assumption)]
       exact ⟨LeS.tup (LeL.cons (LeS.agg (LeL.cons (LeS.refl _) (LeL.cons (LeS.refl _) (LeL.cons (les_nil rfl) LeL.nil)))) (LeL.cons (les_nil rfl) (LeL.cons (LeS.refl _) LeL.nil))), trivial⟩
       done)
    | (rw [rcv_open (down_no (.inr (by assumption))) (by assumption) (by assumption)]
       exact ⟨LeS.tup (LeL.cons (LeS.agg (LeL.cons (LeS.refl _) (LeL.cons (LeS.refl _) (LeL.cons (les_nil rfl) LeL.nil)))) (LeL.cons (les_nil rfl) (LeL.cons (LeS.refl _) LeL.nil))), trivial⟩
       done)
  all_goals first
    | (have hrec := rcv_take (down_of (g := g) (by assumption) (by assumption)) (by assumption)
       have hb1 := take_b h
       refine loop_auto [1, 2, 3, 4, 43, 44] [2] (fun x : Nat × GrpT => [(45, .d (.int .i64 x.1))]) (fun x => [(1, .box (grpL x.2))]) (fun x => x.1 ≤ ((takeG g).1).mem.length ∧ GrpB 1000 x.2 ∧ recAt ((takeG g).1).mem 1 ((takeG g).1) = recAt ((takeG g).1).mem (max x.1 1) x.2) (fun x => ((takeG g).1).mem.length - x.1) (0, (takeG g).1) ?_ (fun x hx => ?_) ⟨by simp, hb1, rfl⟩
       · conv => whnf
         repeat' first
           | (refine bc_true (by assumption) ?_; (conv => whnf))
           | (refine bc_false (by assumption) ?_; (conv => whnf))
           | (refine bc_intro (fun _ => ?_) (fun _ => ?_) <;> (conv => whnf))
           | (refine need_intro ?_ ?_; (conv => whnf))
           | (refine wk_refl ?_; (conv => whnf))
           | (refine draw_intro (by kernel_rfl) ?_; (conv => whnf))
           | (refine ord_intro (by kernel_rfl) ?_; (conv => whnf))
         all_goals first | exact trivial | exact DLe.refl _ | trace_state
       · obtain ⟨i, gj⟩ := x
         obtain ⟨hi, hbj, hr⟩ := hx
         simp only at hi hbj hr
         have hl1 := hb1.len
         have hsi : IntKind.i64.wrap ((i : Int) + 1) = ((i + 1 : Nat) : Int) := wrap_succ (n := 2000) (by omega) (by omega)
         have hst : 0 < i → i < ((takeG g).1).mem.length → _ := fun h0 h => rec_step (ms := ((takeG g).1).mem) (i := i) (g := gj) h
         have hen : ((takeG g).1).mem.length ≤ i → _ := fun h => rec_end (ms := ((takeG g).1).mem) (i := max i 1) (g := gj) (by omega)
         have hm0 : 0 < i → max i 1 = i := fun h => by omega
         have hm1 : max (i + 1) 1 = i + 1 := by omega
         conv => whnf
         repeat' first
           | (refine call_if (replicate_spec gj _) (by first | exact .inl rfl | exact .inr ⟨rfl, rfl⟩) (need_intro ?_ ?_); (conv => whnf))
           | (refine call_if (finishp_spec gj) (by first | exact .inl rfl | exact .inr ⟨rfl, rfl⟩) (need_intro ?_ ?_); (conv => whnf))
           | (refine NextVC.mk (i + 1, (fun _ => (replicateG gj (((takeG g).1).mem.getD i default).id).1) (show ((replicateG gj (((takeG g).1).mem.getD (i : Int).toNat default).id).2 != 0) = false by assumption)) ?_ ?_ ?_; (conv => whnf))
           | (refine NextVC.mk (i + 1, gj) ?_ ?_ ?_; (conv => whnf))
           | (refine bc_true (by assumption) ?_; (conv => whnf))
           | (refine bc_false (by assumption) ?_; (conv => whnf))
           | (refine bc_intro (fun _ => ?_) (fun _ => ?_) <;> (conv => whnf))
           | (refine need_intro ?_ ?_; (conv => whnf))
           | (refine wk_refl ?_; (conv => whnf))
           | (refine draw_intro (by kernel_rfl) ?_; (conv => whnf))
           | (refine ord_intro (by kernel_rfl) ?_; (conv => whnf))
         all_goals try simp only [cellsMem, bytesMem, decide_eq_true_eq, decide_eq_false_iff_not, bne_iff_ne, ne_eq, Decidable.not_not, Bool.not_eq_true', Bool.not_eq_false', bne_eq_false_iff_eq] at *
         all_goals try simp only [Int.toNat_natCast, beq_iff_eq, beq_eq_false_iff_ne, ne_eq] at *
         all_goals first
           | exact trivial
           | exact hbj
           | omega
           | exact DLe.refl _
           | exact DLe.of_eq (by rw [hsi])
           | exact ⟨by omega, by omega⟩
           | (have hu : (((takeG g).1).mem.getD i default).up = true := by assumption
              have he : ¬ (replicateG gj (((takeG g).1).mem.getD i default).id).2 = 0 := by assumption
              have hz : 0 < i := by omega
              rw [hrec, rec2_fail (e := (replicateG gj (((takeG g).1).mem.getD i default).id).2) (by rw [hr, hm0 hz, hst hz (by omega), if_pos hu, if_pos he]) he]
              exact ⟨LeS.tup (LeL.cons (LeS.agg (LeL.cons (LeS.refl _) (LeL.cons (LeS.refl _) (LeL.cons (les_nil rfl) LeL.nil)))) (LeL.cons (les_nil rfl) (LeL.cons (LeS.refl _) LeL.nil))), trivial⟩
              done)
           | (have hu : (((takeG g).1).mem.getD i default).up = true := by assumption
              have he : (replicateG gj (((takeG g).1).mem.getD i default).id).2 = 0 := by first | assumption | exact bne_eq_false_iff_eq.1 (by assumption)
              have hz : 0 < i := by omega
              refine ⟨by omega, replicate_b hbj, ?_⟩
              rw [hm1, hr, hm0 hz, hst hz (by omega), if_pos hu, if_neg (fun h => h he)])
           | (have hu : (((takeG g).1).mem.getD i default).up = false := by assumption
              have hz : 0 < i := by omega
              refine ⟨by omega, hbj, ?_⟩
              rw [hm1, hr, hm0 hz, hst hz (by omega), if_neg (by simp [-List.getD_eq_getElem?_getD, hu])])
           | (have hz : i = 0 := by omega
              subst hz
              exact ⟨by omega, hbj, hr⟩)
           | (rw [hrec, rec2_done (x := gj) (by rw [hr, hen (by omega)])]
              exact ⟨LeS.refl _, trivial⟩)
           | trace_state
       done)
    | (have hrec := rcv_rest (g := g) (down_no (.inl (by omega))) (.inl (by omega))
       have hb1 := h
       refine loop_auto [1, 2, 3, 4, 43, 44] [2] (fun x : Nat × GrpT => [(45, .d (.int .i64 x.1))]) (fun x => [(1, .box (grpL x.2))]) (fun x => x.1 ≤ (g).mem.length ∧ GrpB 1000 x.2 ∧ recAt (g).mem 1 (g) = recAt (g).mem (max x.1 1) x.2) (fun x => (g).mem.length - x.1) (0, g) ?_ (fun x hx => ?_) ⟨by simp, hb1, rfl⟩
       · conv => whnf
         repeat' first
           | (refine bc_true (by assumption) ?_; (conv => whnf))
           | (refine bc_false (by assumption) ?_; (conv => whnf))
           | (refine bc_intro (fun _ => ?_) (fun _ => ?_) <;> (conv => whnf))
           | (refine need_intro ?_ ?_; (conv => whnf))
           | (refine wk_refl ?_; (conv => whnf))
           | (refine draw_intro (by kernel_rfl) ?_; (conv => whnf))
           | (refine ord_intro (by kernel_rfl) ?_; (conv => whnf))
         all_goals first | exact trivial | exact DLe.refl _ | trace_state
       · obtain ⟨i, gj⟩ := x
         obtain ⟨hi, hbj, hr⟩ := hx
         simp only at hi hbj hr
         have hl1 := hb1.len
         have hsi : IntKind.i64.wrap ((i : Int) + 1) = ((i + 1 : Nat) : Int) := wrap_succ (n := 2000) (by omega) (by omega)
         have hst : 0 < i → i < (g).mem.length → _ := fun h0 h => rec_step (ms := (g).mem) (i := i) (g := gj) h
         have hen : (g).mem.length ≤ i → _ := fun h => rec_end (ms := (g).mem) (i := max i 1) (g := gj) (by omega)
         have hm0 : 0 < i → max i 1 = i := fun h => by omega
         have hm1 : max (i + 1) 1 = i + 1 := by omega
         conv => whnf
         repeat' first
           | (refine call_if (replicate_spec gj _) (by first | exact .inl rfl | exact .inr ⟨rfl, rfl⟩) (need_intro ?_ ?_); (conv => whnf))
           | (refine call_if (finishp_spec gj) (by first | exact .inl rfl | exact .inr ⟨rfl, rfl⟩) (need_intro ?_ ?_); (conv => whnf))
           | (refine NextVC.mk (i + 1, (fun _ => (replicateG gj ((g).mem.getD i default).id).1) (show ((replicateG gj ((g).mem.getD (i : Int).toNat default).id).2 != 0) = false by assumption)) ?_ ?_ ?_; (conv => whnf))
           | (refine NextVC.mk (i + 1, gj) ?_ ?_ ?_; (conv => whnf))
           | (refine bc_true (by assumption) ?_; (conv => whnf))
           | (refine bc_false (by assumption) ?_; (conv => whnf))
           | (refine bc_intro (fun _ => ?_) (fun _ => ?_) <;> (conv => whnf))
           | (refine need_intro ?_ ?_; (conv => whnf))
           | (refine wk_refl ?_; (conv => whnf))
           | (refine draw_intro (by kernel_rfl) ?_; (conv => whnf))
           | (refine ord_intro (by kernel_rfl) ?_; (conv => whnf))
         all_goals try simp only [cellsMem, bytesMem, decide_eq_true_eq, decide_eq_false_iff_not, bne_iff_ne, ne_eq, Decidable.not_not, Bool.not_eq_true', Bool.not_eq_false', bne_eq_false_iff_eq] at *
         all_goals try simp only [Int.toNat_natCast, beq_iff_eq, beq_eq_false_iff_ne, ne_eq] at *
         all_goals first
           | exact trivial
           | exact hbj
           | omega
           | exact DLe.refl _
           | exact DLe.of_eq (by rw [hsi])
           | exact ⟨by omega, by omega⟩
           | (have hu : ((g).mem.getD i default).up = true := by assumption
              have he : ¬ (replicateG gj ((g).mem.getD i default).id).2 = 0 := by assumption
              have hz : 0 < i := by omega
              rw [hrec, rec2_fail (e := (replicateG gj ((g).mem.getD i default).id).2) (by rw [hr, hm0 hz, hst hz (by omega), if_pos hu, if_pos he]) he]
              exact ⟨LeS.tup (LeL.cons (LeS.agg (LeL.cons (LeS.refl _) (LeL.cons (LeS.refl _) (LeL.cons (les_nil rfl) LeL.nil)))) (LeL.cons (les_nil rfl) (LeL.cons (LeS.refl _) LeL.nil))), trivial⟩
              done)
           | (have hu : ((g).mem.getD i default).up = true := by assumption
              have he : (replicateG gj ((g).mem.getD i default).id).2 = 0 := by first | assumption | exact bne_eq_false_iff_eq.1 (by assumption)
              have hz : 0 < i := by omega
              refine ⟨by omega, replicate_b hbj, ?_⟩
              rw [hm1, hr, hm0 hz, hst hz (by omega), if_pos hu, if_neg (fun h => h he)])
           | (have hu : ((g).mem.getD i default).up = false := by assumption
              have hz : 0 < i := by omega
              refine ⟨by omega, hbj, ?_⟩
              rw [hm1, hr, hm0 hz, hst hz (by omega), if_neg (by simp [-List.getD_eq_getElem?_getD, hu])])
           | (have hz : i = 0 := by omega
              subst hz
              exact ⟨by omega, hbj, hr⟩)
           | (rw [hrec, rec2_done (x := gj) (by rw [hr, hen (by omega)])]
              exact ⟨LeS.refl _, trivial⟩)
           | trace_state
       done)
    | (have hrec := rcv_rest (g := g) (down_no (.inr (by assumption))) (.inr (by assumption))
       have hb1 := h
       refine loop_auto [1, 2, 3, 4, 43, 44] [2] (fun x : Nat × GrpT => [(45, .d (.int .i64 x.1))]) (fun x => [(1, .box (grpL x.2))]) (fun x => x.1 ≤ (g).mem.length ∧ GrpB 1000 x.2 ∧ recAt (g).mem 1 (g) = recAt (g).mem (max x.1 1) x.2) (fun x => (g).mem.length - x.1) (0, g) ?_ (fun x hx => ?_) ⟨by simp, hb1, rfl⟩
       · conv => whnf
         repeat' first
           | (refine bc_true (by assumption) ?_; (conv => whnf))
           | (refine bc_false (by assumption) ?_; (conv => whnf))
           | (refine bc_intro (fun _ => ?_) (fun _ => ?_) <;> (conv => whnf))
           | (refine need_intro ?_ ?_; (conv => whnf))
           | (refine wk_refl ?_; (conv => whnf))
           | (refine draw_intro (by kernel_rfl) ?_; (conv => whnf))
           | (refine ord_intro (by kernel_rfl) ?_; (conv => whnf))
         all_goals first | exact trivial | exact DLe.refl _ | trace_state
       · obtain ⟨i, gj⟩ := x
         obtain ⟨hi, hbj, hr⟩ := hx
         simp only at hi hbj hr
         have hl1 := hb1.len
         have hsi : IntKind.i64.wrap ((i : Int) + 1) = ((i + 1 : Nat) : Int) := wrap_succ (n := 2000) (by omega) (by omega)
         have hst : 0 < i → i < (g).mem.length → _ := fun h0 h => rec_step (ms := (g).mem) (i := i) (g := gj) h
         have hen : (g).mem.length ≤ i → _ := fun h => rec_end (ms := (g).mem) (i := max i 1) (g := gj) (by omega)
         have hm0 : 0 < i → max i 1 = i := fun h => by omega
         have hm1 : max (i + 1) 1 = i + 1 := by omega
         conv => whnf
         repeat' first
           | (refine call_if (replicate_spec gj _) (by first | exact .inl rfl | exact .inr ⟨rfl, rfl⟩) (need_intro ?_ ?_); (conv => whnf))
           | (refine call_if (finishp_spec gj) (by first | exact .inl rfl | exact .inr ⟨rfl, rfl⟩) (need_intro ?_ ?_); (conv => whnf))
           | (refine NextVC.mk (i + 1, (fun _ => (replicateG gj ((g).mem.getD i default).id).1) (show ((replicateG gj ((g).mem.getD (i : Int).toNat default).id).2 != 0) = false by assumption)) ?_ ?_ ?_; (conv => whnf))
           | (refine NextVC.mk (i + 1, gj) ?_ ?_ ?_; (conv => whnf))
           | (refine bc_true (by assumption) ?_; (conv => whnf))
           | (refine bc_false (by assumption) ?_; (conv => whnf))
           | (refine bc_intro (fun _ => ?_) (fun _ => ?_) <;> (conv => whnf))
           | (refine need_intro ?_ ?_; (conv => whnf))
           | (refine wk_refl ?_; (conv => whnf))
           | (refine draw_intro (by kernel_rfl) ?_; (conv => whnf))
           | (refine ord_intro (by kernel_rfl) ?_; (conv => whnf))
         all_goals try simp only [cellsMem, bytesMem, decide_eq_true_eq, decide_eq_false_iff_not, bne_iff_ne, ne_eq, Decidable.not_not, Bool.not_eq_true', Bool.not_eq_false', bne_eq_false_iff_eq] at *
         all_goals try simp only [Int.toNat_natCast, beq_iff_eq, beq_eq_false_iff_ne, ne_eq] at *
         all_goals first
           | exact trivial
           | exact hbj
           | omega
           | exact DLe.refl _
           | exact DLe.of_eq (by rw [hsi])
           | exact ⟨by omega, by omega⟩
           | (have hu : ((g).mem.getD i default).up = true := by assumption
              have he : ¬ (replicateG gj ((g).mem.getD i default).id).2 = 0 := by assumption
              have hz : 0 < i := by omega
              rw [hrec, rec2_fail (e := (replicateG gj ((g).mem.getD i default).id).2) (by rw [hr, hm0 hz, hst hz (by omega), if_pos hu, if_pos he]) he]
              exact ⟨LeS.tup (LeL.cons (LeS.agg (LeL.cons (LeS.refl _) (LeL.cons (LeS.refl _) (LeL.cons (les_nil rfl) LeL.nil)))) (LeL.cons (les_nil rfl) (LeL.cons (LeS.refl _) LeL.nil))), trivial⟩
              done)
           | (have hu : ((g).mem.getD i default).up = true := by assumption
              have he : (replicateG gj ((g).mem.getD i default).id).2 = 0 := by first | assumption | exact bne_eq_false_iff_eq.1 (by assumption)
              have hz : 0 < i := by omega
              refine ⟨by omega, replicate_b hbj, ?_⟩
              rw [hm1, hr, hm0 hz, hst hz (by omega), if_pos hu, if_neg (fun h => h he)])
           | (have hu : ((g).mem.getD i default).up = false := by assumption
              have hz : 0 < i := by omega
              refine ⟨by omega, hbj, ?_⟩
              rw [hm1, hr, hm0 hz, hst hz (by omega), if_neg (by simp [-List.getD_eq_getElem?_getD, hu])])
           | (have hz : i = 0 := by omega
              subst hz
              exact ⟨by omega, hbj, hr⟩)
           | (rw [hrec, rec2_done (x := gj) (by rw [hr, hen (by omega)])]
              exact ⟨LeS.refl _, trivial⟩)
           | trace_state
       done)
    | trace_state
set_option maxHeartbeats 2000000 in
theorem recoverr_spec (g : GrpT) : GrpB 1000 g → Sx.Spec Tryz.prog GG 26 [.agg (grpL g)] [] (.tup [.agg (grpL (recoverG g).1.1), .d (encL encWr 3 (recoverG g).1.2), .d (.int .i64 (recoverG g).2)]) [] := by
  intro h
  have hl := h.len
  have hon : (g.mem.length : Int) > 0 → (g.mem.getD 0 default).up = true → (ownerG g).2 = true := fun h1 h2 => by rw [owner_some (by omega) h2]
  have hom := fun ho => owner_mem (g := g) ho
  refine spec_intro (E := EE) (fn := Tryz.f26) eok (by kernel_rfl) (by kernel_rfl) Tryz.call26 (by kernel_rfl) (by kernel_rfl) ?_
  conv => whnf
  repeat' first
    | (refine call_if (taker_spec g) (by first | exact .inl rfl | exact .inr ⟨rfl, rfl⟩) (need_intro ?_ ?_); (conv => whnf))
    | (refine call_if (ownerr_spec _) (by first | exact .inl rfl | exact .inr ⟨rfl, rfl⟩) (need_intro ?_ ?_); (conv => whnf))
    | (refine bc_true (by assumption) ?_; (conv => whnf))
    | (refine bc_false (by assumption) ?_; (conv => whnf))
    | (refine bc_intro (fun _ => ?_) (fun _ => ?_) <;> (conv => whnf))
    | (refine need_intro ?_ ?_; (conv => whnf))
    | (refine wk_refl ?_; (conv => whnf))
    | (refine draw_intro (by kernel_rfl) ?_; (conv => whnf))
    | (refine ord_intro (by kernel_rfl) ?_; (conv => whnf))
  all_goals try simp only [cellsMem, bytesMem, decide_eq_true_eq, decide_eq_false_iff_not, bne_iff_ne, ne_eq, Decidable.not_not, Bool.not_eq_true', Bool.not_eq_false', bne_eq_false_iff_eq] at *
  all_goals try simp only [Int.toNat_zero] at *
  all_goals try first
    | exact h
    | exact hl
    | exact (take_b h).len
    | exact ⟨Int.le_refl 0, by omega⟩
    | (rw [rcv_fail (down_of (by assumption) (by assumption)) (by assumption)]
       exact ⟨LeS.tup (LeL.cons (LeS.agg (LeL.cons (LeS.refl _) (LeL.cons (LeS.refl _) (LeL.cons (les_nil rfl) LeL.nil)))) (LeL.cons (les_nil rfl) (LeL.cons (LeS.refl _) LeL.nil))), trivial⟩
       done)
    | (rw [rcv_open (down_no (.inr (by assumption))) (by assumption) (by assumption)]
       exact ⟨LeS.tup (LeL.cons (LeS.agg (LeL.cons (LeS.refl _) (LeL.cons (LeS.refl _) (LeL.cons (les_nil rfl) LeL.nil)))) (LeL.cons (les_nil rfl) (LeL.cons (LeS.refl _) LeL.nil))), trivial⟩
       done)
  all_goals try
    (exfalso
     have h9 := take_closed (g := g) (by assumption)
     have h8 : (takeG g).1.opn = true := by assumption
     rw [h9] at h8
     cases h8)
  all_goals try
    (exfalso
     have h9 := hon (by assumption) (by assumption)
     have h8 : (ownerG g).2 = false := by assumption
     rw [h9] at h8
     cases h8)
  all_goals try
    (have h9 := hom (by assumption)
     rw [rcv_open (down_no (.inr h9.2.1)) (by omega) (by assumption)]
     exact ⟨LeS.tup (LeL.cons (LeS.agg (LeL.cons (LeS.refl _) (LeL.cons (LeS.refl _) (LeL.cons (les_nil rfl) LeL.nil)))) (LeL.cons (les_nil rfl) (LeL.cons (LeS.refl _) LeL.nil))), trivial⟩
     done)
  all_goals first
    | (have hrec := rcv_take (down_of (g := g) (by assumption) (by assumption)) (by assumption)
       have hb1 := take_b h
       refine loop_auto [1, 2, 3, 4, 47, 48] [2] (fun x : Nat × GrpT => [(49, .d (.int .i64 x.1))]) (fun x => [(1, .box (grpL x.2))]) (fun x => x.1 ≤ ((takeG g).1).mem.length ∧ GrpB 1000 x.2 ∧ recAt ((takeG g).1).mem 1 ((takeG g).1) = recAt ((takeG g).1).mem (max x.1 1) x.2) (fun x => ((takeG g).1).mem.length - x.1) (0, (takeG g).1) ?_ (fun x hx => ?_) ⟨by simp, hb1, rfl⟩
       · conv => whnf
         repeat' first
           | (refine bc_true (by assumption) ?_; (conv => whnf))
           | (refine bc_false (by assumption) ?_; (conv => whnf))
           | (refine bc_intro (fun _ => ?_) (fun _ => ?_) <;> (conv => whnf))
           | (refine need_intro ?_ ?_; (conv => whnf))
           | (refine wk_refl ?_; (conv => whnf))
           | (refine draw_intro (by kernel_rfl) ?_; (conv => whnf))
           | (refine ord_intro (by kernel_rfl) ?_; (conv => whnf))
         all_goals first | exact trivial | exact DLe.refl _ | trace_state
       · obtain ⟨i, gj⟩ := x
         obtain ⟨hi, hbj, hr⟩ := hx
         simp only at hi hbj hr
         have hl1 := hb1.len
         have hsi : IntKind.i64.wrap ((i : Int) + 1) = ((i + 1 : Nat) : Int) := wrap_succ (n := 2000) (by omega) (by omega)
         have hst : 0 < i → i < ((takeG g).1).mem.length → _ := fun h0 h => rec_step (ms := ((takeG g).1).mem) (i := i) (g := gj) h
         have hen : ((takeG g).1).mem.length ≤ i → _ := fun h => rec_end (ms := ((takeG g).1).mem) (i := max i 1) (g := gj) (by omega)
         have hm0 : 0 < i → max i 1 = i := fun h => by omega
         have hm1 : max (i + 1) 1 = i + 1 := by omega
         conv => whnf
         repeat' first
           | (refine call_if (replr_spec gj _) (by first | exact .inl rfl | exact .inr ⟨rfl, rfl⟩) (need_intro ?_ ?_); (conv => whnf))
           | (refine call_if (finishr_spec gj) (by first | exact .inl rfl | exact .inr ⟨rfl, rfl⟩) (need_intro ?_ ?_); (conv => whnf))
           | (refine NextVC.mk (i + 1, (fun _ => (replicateG gj (((takeG g).1).mem.getD i default).id).1) (show ((replicateG gj (((takeG g).1).mem.getD (i : Int).toNat default).id).2 != 0) = false by assumption)) ?_ ?_ ?_; (conv => whnf))
           | (refine NextVC.mk (i + 1, gj) ?_ ?_ ?_; (conv => whnf))
           | (refine bc_true (by assumption) ?_; (conv => whnf))
           | (refine bc_false (by assumption) ?_; (conv => whnf))
           | (refine bc_intro (fun _ => ?_) (fun _ => ?_) <;> (conv => whnf))
           | (refine need_intro ?_ ?_; (conv => whnf))
           | (refine wk_refl ?_; (conv => whnf))
           | (refine draw_intro (by kernel_rfl) ?_; (conv => whnf))
           | (refine ord_intro (by kernel_rfl) ?_; (conv => whnf))
         all_goals try simp only [cellsMem, bytesMem, decide_eq_true_eq, decide_eq_false_iff_not, bne_iff_ne, ne_eq, Decidable.not_not, Bool.not_eq_true', Bool.not_eq_false', bne_eq_false_iff_eq] at *
         all_goals try simp only [Int.toNat_natCast, beq_iff_eq, beq_eq_false_iff_ne, ne_eq] at *
         all_goals first
           | exact trivial
           | exact hbj
           | omega
           | exact DLe.refl _
           | exact DLe.of_eq (by rw [hsi])
           | exact ⟨by omega, by omega⟩
           | (have hu : (((takeG g).1).mem.getD i default).up = true := by assumption
              have he : ¬ (replicateG gj (((takeG g).1).mem.getD i default).id).2 = 0 := by assumption
              have hz : 0 < i := by omega
              rw [hrec, rec2_fail (e := (replicateG gj (((takeG g).1).mem.getD i default).id).2) (by rw [hr, hm0 hz, hst hz (by omega), if_pos hu, if_pos he]) he]
              exact ⟨LeS.tup (LeL.cons (LeS.agg (LeL.cons (LeS.refl _) (LeL.cons (LeS.refl _) (LeL.cons (les_nil rfl) LeL.nil)))) (LeL.cons (les_nil rfl) (LeL.cons (LeS.refl _) LeL.nil))), trivial⟩
              done)
           | (have hu : (((takeG g).1).mem.getD i default).up = true := by assumption
              have he : (replicateG gj (((takeG g).1).mem.getD i default).id).2 = 0 := by first | assumption | exact bne_eq_false_iff_eq.1 (by assumption)
              have hz : 0 < i := by omega
              refine ⟨by omega, replicate_b hbj, ?_⟩
              rw [hm1, hr, hm0 hz, hst hz (by omega), if_pos hu, if_neg (fun h => h he)])
           | (have hu : (((takeG g).1).mem.getD i default).up = false := by assumption
              have hz : 0 < i := by omega
              refine ⟨by omega, hbj, ?_⟩
              rw [hm1, hr, hm0 hz, hst hz (by omega), if_neg (by simp [-List.getD_eq_getElem?_getD, hu])])
           | (have hz : i = 0 := by omega
              subst hz
              exact ⟨by omega, hbj, hr⟩)
           | (rw [hrec, rec2_done (x := gj) (by rw [hr, hen (by omega)])]
              exact ⟨LeS.refl _, trivial⟩)
           | trace_state
       done)
    | (have hrec := rcv_rest (g := g) (down_no (.inl (by omega))) (.inl (by omega))
       have hb1 := h
       refine loop_auto [1, 2, 3, 4, 47, 48] [2] (fun x : Nat × GrpT => [(49, .d (.int .i64 x.1))]) (fun x => [(1, .box (grpL x.2))]) (fun x => x.1 ≤ (g).mem.length ∧ GrpB 1000 x.2 ∧ recAt (g).mem 1 (g) = recAt (g).mem (max x.1 1) x.2) (fun x => (g).mem.length - x.1) (0, g) ?_ (fun x hx => ?_) ⟨by simp, hb1, rfl⟩
       · conv => whnf
         repeat' first
           | (refine bc_true (by assumption) ?_; (conv => whnf))
           | (refine bc_false (by assumption) ?_; (conv => whnf))
           | (refine bc_intro (fun _ => ?_) (fun _ => ?_) <;> (conv => whnf))
           | (refine need_intro ?_ ?_; (conv => whnf))
           | (refine wk_refl ?_; (conv => whnf))
           | (refine draw_intro (by kernel_rfl) ?_; (conv => whnf))
           | (refine ord_intro (by kernel_rfl) ?_; (conv => whnf))
         all_goals first | exact trivial | exact DLe.refl _ | trace_state
       · obtain ⟨i, gj⟩ := x
         obtain ⟨hi, hbj, hr⟩ := hx
         simp only at hi hbj hr
         have hl1 := hb1.len
         have hsi : IntKind.i64.wrap ((i : Int) + 1) = ((i + 1 : Nat) : Int) := wrap_succ (n := 2000) (by omega) (by omega)
         have hst : 0 < i → i < (g).mem.length → _ := fun h0 h => rec_step (ms := (g).mem) (i := i) (g := gj) h
         have hen : (g).mem.length ≤ i → _ := fun h => rec_end (ms := (g).mem) (i := max i 1) (g := gj) (by omega)
         have hm0 : 0 < i → max i 1 = i := fun h => by omega
         have hm1 : max (i + 1) 1 = i + 1 := by omega
         conv => whnf
         repeat' first
           | (refine call_if (replr_spec gj _) (by first | exact .inl rfl | exact .inr ⟨rfl, rfl⟩) (need_intro ?_ ?_); (conv => whnf))
           | (refine call_if (finishr_spec gj) (by first | exact .inl rfl | exact .inr ⟨rfl, rfl⟩) (need_intro ?_ ?_); (conv => whnf))
           | (refine NextVC.mk (i + 1, (fun _ => (replicateG gj ((g).mem.getD i default).id).1) (show ((replicateG gj ((g).mem.getD (i : Int).toNat default).id).2 != 0) = false by assumption)) ?_ ?_ ?_; (conv => whnf))
           | (refine NextVC.mk (i + 1, gj) ?_ ?_ ?_; (conv => whnf))
           | (refine bc_true (by assumption) ?_; (conv => whnf))
           | (refine bc_false (by assumption) ?_; (conv => whnf))
           | (refine bc_intro (fun _ => ?_) (fun _ => ?_) <;> (conv => whnf))
           | (refine need_intro ?_ ?_; (conv => whnf))
           | (refine wk_refl ?_; (conv => whnf))
           | (refine draw_intro (by kernel_rfl) ?_; (conv => whnf))
           | (refine ord_intro (by kernel_rfl) ?_; (conv => whnf))
         all_goals try simp only [cellsMem, bytesMem, decide_eq_true_eq, decide_eq_false_iff_not, bne_iff_ne, ne_eq, Decidable.not_not, Bool.not_eq_true', Bool.not_eq_false', bne_eq_false_iff_eq] at *
         all_goals try simp only [Int.toNat_natCast, beq_iff_eq, beq_eq_false_iff_ne, ne_eq] at *
         all_goals first
           | exact trivial
           | exact hbj
           | omega
           | exact DLe.refl _
           | exact DLe.of_eq (by rw [hsi])
           | exact ⟨by omega, by omega⟩
           | (have hu : ((g).mem.getD i default).up = true := by assumption
              have he : ¬ (replicateG gj ((g).mem.getD i default).id).2 = 0 := by assumption
              have hz : 0 < i := by omega
              rw [hrec, rec2_fail (e := (replicateG gj ((g).mem.getD i default).id).2) (by rw [hr, hm0 hz, hst hz (by omega), if_pos hu, if_pos he]) he]
              exact ⟨LeS.tup (LeL.cons (LeS.agg (LeL.cons (LeS.refl _) (LeL.cons (LeS.refl _) (LeL.cons (les_nil rfl) LeL.nil)))) (LeL.cons (les_nil rfl) (LeL.cons (LeS.refl _) LeL.nil))), trivial⟩
              done)
           | (have hu : ((g).mem.getD i default).up = true := by assumption
              have he : (replicateG gj ((g).mem.getD i default).id).2 = 0 := by first | assumption | exact bne_eq_false_iff_eq.1 (by assumption)
              have hz : 0 < i := by omega
              refine ⟨by omega, replicate_b hbj, ?_⟩
              rw [hm1, hr, hm0 hz, hst hz (by omega), if_pos hu, if_neg (fun h => h he)])
           | (have hu : ((g).mem.getD i default).up = false := by assumption
              have hz : 0 < i := by omega
              refine ⟨by omega, hbj, ?_⟩
              rw [hm1, hr, hm0 hz, hst hz (by omega), if_neg (by simp [-List.getD_eq_getElem?_getD, hu])])
           | (have hz : i = 0 := by omega
              subst hz
              exact ⟨by omega, hbj, hr⟩)
           | (rw [hrec, rec2_done (x := gj) (by rw [hr, hen (by omega)])]
              exact ⟨LeS.refl _, trivial⟩)
           | trace_state
       done)
    | (have hrec := rcv_rest (g := g) (down_no (.inr (by assumption))) (.inr (by assumption))
       have hb1 := h
       refine loop_auto [1, 2, 3, 4, 47, 48] [2] (fun x : Nat × GrpT => [(49, .d (.int .i64 x.1))]) (fun x => [(1, .box (grpL x.2))]) (fun x => x.1 ≤ (g).mem.length ∧ GrpB 1000 x.2 ∧ recAt (g).mem 1 (g) = recAt (g).mem (max x.1 1) x.2) (fun x => (g).mem.length - x.1) (0, g) ?_ (fun x hx => ?_) ⟨by simp, hb1, rfl⟩
       · conv => whnf
         repeat' first
           | (refine bc_true (by assumption) ?_; (conv => whnf))
           | (refine bc_false (by assumption) ?_; (conv => whnf))
           | (refine bc_intro (fun _ => ?_) (fun _ => ?_) <;> (conv => whnf))
           | (refine need_intro ?_ ?_; (conv => whnf))
           | (refine wk_refl ?_; (conv => whnf))
           | (refine draw_intro (by kernel_rfl) ?_; (conv => whnf))
           | (refine ord_intro (by kernel_rfl) ?_; (conv => whnf))
         all_goals first | exact trivial | exact DLe.refl _ | trace_state
       · obtain ⟨i, gj⟩ := x
         obtain ⟨hi, hbj, hr⟩ := hx
         simp only at hi hbj hr
         have hl1 := hb1.len
         have hsi : IntKind.i64.wrap ((i : Int) + 1) = ((i + 1 : Nat) : Int) := wrap_succ (n := 2000) (by omega) (by omega)
         have hst : 0 < i → i < (g).mem.length → _ := fun h0 h => rec_step (ms := (g).mem) (i := i) (g := gj) h
         have hen : (g).mem.length ≤ i → _ := fun h => rec_end (ms := (g).mem) (i := max i 1) (g := gj) (by omega)
         have hm0 : 0 < i → max i 1 = i := fun h => by omega
         have hm1 : max (i + 1) 1 = i + 1 := by omega
         conv => whnf
         repeat' first
           | (refine call_if (replr_spec gj _) (by first | exact .inl rfl | exact .inr ⟨rfl, rfl⟩) (need_intro ?_ ?_); (conv => whnf))
           | (refine call_if (finishr_spec gj) (by first | exact .inl rfl | exact .inr ⟨rfl, rfl⟩) (need_intro ?_ ?_); (conv => whnf))
           | (refine NextVC.mk (i + 1, (fun _ => (replicateG gj ((g).mem.getD i default).id).1) (show ((replicateG gj ((g).mem.getD (i : Int).toNat default).id).2 != 0) = false by assumption)) ?_ ?_ ?_; (conv => whnf))
           | (refine NextVC.mk (i + 1, gj) ?_ ?_ ?_; (conv => whnf))
           | (refine bc_true (by assumption) ?_; (conv => whnf))
           | (refine bc_false (by assumption) ?_; (conv => whnf))
           | (refine bc_intro (fun _ => ?_) (fun _ => ?_) <;> (conv => whnf))
           | (refine need_intro ?_ ?_; (conv => whnf))
           | (refine wk_refl ?_; (conv => whnf))
           | (refine draw_intro (by kernel_rfl) ?_; (conv => whnf))
           | (refine ord_intro (by kernel_rfl) ?_; (conv => whnf))
         all_goals try simp only [cellsMem, bytesMem, decide_eq_true_eq, decide_eq_false_iff_not, bne_iff_ne, ne_eq, Decidable.not_not, Bool.not_eq_true', Bool.not_eq_false', bne_eq_false_iff_eq] at *
         all_goals try simp only [Int.toNat_natCast, beq_iff_eq, beq_eq_false_iff_ne, ne_eq] at *
         all_goals first
           | exact trivial
           | exact hbj
           | omega
           | exact DLe.refl _
           | exact DLe.of_eq (by rw [hsi])
           | exact ⟨by omega, by omega⟩
           | (have hu : ((g).mem.getD i default).up = true := by assumption
              have he : ¬ (replicateG gj ((g).mem.getD i default).id).2 = 0 := by assumption
              have hz : 0 < i := by omega
              rw [hrec, rec2_fail (e := (replicateG gj ((g).mem.getD i default).id).2) (by rw [hr, hm0 hz, hst hz (by omega), if_pos hu, if_pos he]) he]
              exact ⟨LeS.tup (LeL.cons (LeS.agg (LeL.cons (LeS.refl _) (LeL.cons (LeS.refl _) (LeL.cons (les_nil rfl) LeL.nil)))) (LeL.cons (les_nil rfl) (LeL.cons (LeS.refl _) LeL.nil))), trivial⟩
              done)
           | (have hu : ((g).mem.getD i default).up = true := by assumption
              have he : (replicateG gj ((g).mem.getD i default).id).2 = 0 := by first | assumption | exact bne_eq_false_iff_eq.1 (by assumption)
              have hz : 0 < i := by omega
              refine ⟨by omega, replicate_b hbj, ?_⟩
              rw [hm1, hr, hm0 hz, hst hz (by omega), if_pos hu, if_neg (fun h => h he)])
           | (have hu : ((g).mem.getD i default).up = false := by assumption
              have hz : 0 < i := by omega
              refine ⟨by omega, hbj, ?_⟩
              rw [hm1, hr, hm0 hz, hst hz (by omega), if_neg (by simp [-List.getD_eq_getElem?_getD, hu])])
           | (have hz : i = 0 := by omega
              subst hz
              exact ⟨by omega, hbj, hr⟩)
           | (rw [hrec, rec2_done (x := gj) (by rw [hr, hen (by omega)])]
              exact ⟨LeS.refl _, trivial⟩)
           | trace_state
       done)
    | trace_state
end Go.Proofs.YtngdpchhogfhfaaGreatDoor
