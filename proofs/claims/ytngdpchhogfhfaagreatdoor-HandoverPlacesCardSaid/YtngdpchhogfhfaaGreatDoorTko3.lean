/- Contracts of functions that the law reaches: YtngdpchhogfhfaaGreatDoorTko3. Written for this claim. -/
import Derived.Test.YtngdpchhogfhfaaGreatDoorTko2
import Derived.Test.YtngdpchhogfhfaaGreatDoorSxGrp
namespace Go.Proofs.YtngdpchhogfhfaaGreatDoor
open Go Go.Sx Go.ChangeShapes Go.WideShapes Go.ChangeAt Go.RowKit
set_option linter.unusedVariables false
set_option linter.unusedSimpArgs false
set_option maxRecDepth 100000
theorem ready_no {g : GrpT} (h : (ownerG g).2 = false ∨ g.opn = true) : readyG g = false := by
  unfold readyG
  rcases h with h | h <;> rw [h] <;> simp
theorem ready_of {g : GrpT} (h1 : (ownerG g).2 = true) (h2 : g.opn = false) : readyG g = !((g.mem.drop 1).any (stale (ownerG g).1.copy)) := by
  unfold readyG
  rw [h1, h2]; simp
theorem stale_of {o : CopyT} {m : MemT} {b : Bool} (hu : m.up = true) (hb : sameC m.copy o = b) : stale o m = !b := by
  unfold stale; rw [hu, hb]; simp
theorem stale_down {o : CopyT} {m : MemT} (hu : m.up = false) : stale o m = false := by
  unfold stale; rw [hu]; simp
set_option maxHeartbeats 1000000 in
theorem readyp_spec (g : GrpT) : GrpB 1000 g → Sx.Spec Tryz.prog GG 110 [.agg (grpL g)] [] (.d (.bool (readyG g))) [] := by
  intro h
  have hl := h.len
  have hs := owner_small h
  have hm := fun ho => (owner_mem (g := g) ho).1
  refine spec_intro (E := EE) (fn := Tryz.f110) eok (by kernel_rfl) (by kernel_rfl) Tryz.call110 (by kernel_rfl) (by kernel_rfl) ?_
  conv => whnf
  repeat' first
    | (refine call_if (owner_spec g) (by first | exact .inl rfl | exact .inr ⟨rfl, rfl⟩) (need_intro ?_ ?_); (conv => whnf))
    | (refine bc_true (by assumption) ?_; (conv => whnf))
    | (refine bc_false (by assumption) ?_; (conv => whnf))
    | (refine bc_intro (fun _ => ?_) (fun _ => ?_) <;> (conv => whnf))
    | (refine need_intro ?_ ?_; (conv => whnf))
    | (refine wk_refl ?_; (conv => whnf))
    | (refine draw_intro (by kernel_rfl) ?_; (conv => whnf))
    | (refine ord_intro (by kernel_rfl) ?_; (conv => whnf))
  all_goals try simp only [cellsMem, bytesMem, decide_eq_true_eq, decide_eq_false_iff_not, bne_iff_ne, ne_eq, Decidable.not_not, Bool.not_eq_true', Bool.not_eq_false', bne_eq_false_iff_eq] at *
  all_goals try first
    | exact h
    | (rw [ready_no (.inl (by assumption))]; exact ⟨LeS.refl _, trivial⟩)
    | (rw [ready_no (.inr (by assumption))]; exact ⟨LeS.refl _, trivial⟩)
    | (have h1 := hm (by assumption); simp only [Option.getD_some, Option.getD_none]; exact ⟨by omega, by omega, by omega⟩)
  all_goals
    have ho : (ownerG g).2 = true := by assumption
    have hop : g.opn = false := by assumption
    have h1 := hm ho
    refine loop_auto [1, 2, 3, 20, 21] [1, 3] (fun i : Nat => [(22, .d (.int .i64 i))]) (fun i => []) (fun i => i + 1 ≤ g.mem.length ∧ (g.mem.drop 1).any (stale (ownerG g).1.copy) = (g.mem.drop (1 + i)).any (stale (ownerG g).1.copy)) (fun i => g.mem.length - i) 0 ?_ (fun i hi => ?_) ⟨by omega, rfl⟩
    · conv => whnf
      repeat' first
        | (refine bc_true (by assumption) ?_; (conv => whnf))
        | (refine bc_false (by assumption) ?_; (conv => whnf))
        | (refine bc_intro (fun _ => ?_) (fun _ => ?_) <;> (conv => whnf))
        | (refine need_intro ?_ ?_; (conv => whnf))
        | (refine wk_refl ?_; (conv => whnf))
        | (refine draw_intro (by kernel_rfl) ?_; (conv => whnf))
        | (refine ord_intro (by kernel_rfl) ?_; (conv => whnf))
      all_goals first | exact trivial | exact DLe.refl _ | trace_state
    · obtain ⟨hi, ha⟩ := hi
      have hst := fun h => stale_step (o := (ownerG g).1.copy) (ms := g.mem) (i := 1 + i) h
      have hen := fun h => stale_end (o := (ownerG g).1.copy) (ms := g.mem) (i := 1 + i) h
      have hsi : IntKind.i64.wrap ((i : Int) + 1) = ((i + 1 : Nat) : Int) := wrap_succ (n := 2000) (by omega) (by omega)
      have hms := fun i => mem_small h i
      conv => whnf
      repeat' first
        | (refine call_if (samep_spec _ _) (by first | exact .inl rfl | exact .inr ⟨rfl, rfl⟩) (need_intro ?_ ?_); (conv => whnf))
        | (refine NextVC.mk (i + 1) ?_ ?_ ?_; (conv => whnf))
        | (refine bc_true (by assumption) ?_; (conv => whnf))
        | (refine bc_false (by assumption) ?_; (conv => whnf))
        | (refine bc_intro (fun _ => ?_) (fun _ => ?_) <;> (conv => whnf))
        | (refine need_intro ?_ ?_; (conv => whnf))
        | (refine wk_refl ?_; (conv => whnf))
        | (refine draw_intro (by kernel_rfl) ?_; (conv => whnf))
        | (refine ord_intro (by kernel_rfl) ?_; (conv => whnf))
      all_goals try simp only [cellsMem, bytesMem, decide_eq_true_eq, decide_eq_false_iff_not, bne_iff_ne, ne_eq, Decidable.not_not, Bool.not_eq_true', Bool.not_eq_false', bne_eq_false_iff_eq] at *
      all_goals try simp only [Option.getD_some, Option.getD_none, Int.toNat_natCast, show Int.toNat 1 = 1 from rfl] at *
      all_goals first
        | exact trivial
        | omega
        | exact DLe.refl _
        | exact DLe.of_eq (by rw [hsi])
        | exact ⟨by omega, by omega⟩
        | exact ⟨hms _, hs⟩
        | (have hu : (g.mem.getD (1 + i) default).up = true := by assumption
           have hc : sameC (g.mem.getD (1 + i) default).copy (ownerG g).1.copy = false := by assumption
           rw [ready_of ho hop, ha, hst (by omega), stale_of hu hc]
           exact ⟨LeS.refl _, trivial⟩)
        | (have hu : (g.mem.getD (1 + i) default).up = true := by assumption
           have hc : sameC (g.mem.getD (1 + i) default).copy (ownerG g).1.copy = true := by assumption
           refine ⟨by omega, ?_⟩
           rw [ha, hst (by omega), stale_of hu hc]
           rfl)
        | (have hu : (g.mem.getD (1 + i) default).up = false := by assumption
           refine ⟨by omega, ?_⟩
           rw [ha, hst (by omega), stale_down hu]
           rfl)
        | (rw [ready_of ho hop, ha, hen (by omega)]
           exact ⟨LeS.refl _, trivial⟩)
        | trace_state
set_option maxHeartbeats 1000000 in
theorem readyr_spec (g : GrpT) : GrpB 1000 g → Sx.Spec Tryz.prog GG 98 [.agg (grpL g)] [] (.d (.bool (readyG g))) [] := by
  intro h
  have hl := h.len
  have hs := owner_small h
  have hm := fun ho => (owner_mem (g := g) ho).1
  have hom := fun ho => owner_mem (g := g) ho
  refine spec_intro (E := EE) (fn := Tryz.f98) eok (by kernel_rfl) (by kernel_rfl) Tryz.call98 (by kernel_rfl) (by kernel_rfl) ?_
  conv => whnf
  repeat' first
    | (refine call_if (ownerr_spec g) (by first | exact .inl rfl | exact .inr ⟨rfl, rfl⟩) (need_intro ?_ ?_); (conv => whnf))
    | (refine bc_true (by assumption) ?_; (conv => whnf))
    | (refine bc_false (by assumption) ?_; (conv => whnf))
    | (refine bc_intro (fun _ => ?_) (fun _ => ?_) <;> (conv => whnf))
    | (refine need_intro ?_ ?_; (conv => whnf))
    | (refine wk_refl ?_; (conv => whnf))
    | (refine draw_intro (by kernel_rfl) ?_; (conv => whnf))
    | (refine ord_intro (by kernel_rfl) ?_; (conv => whnf))
  all_goals try simp only [cellsMem, bytesMem, decide_eq_true_eq, decide_eq_false_iff_not, bne_iff_ne, ne_eq, Decidable.not_not, Bool.not_eq_true', Bool.not_eq_false', bne_eq_false_iff_eq] at *
  all_goals try first
    | exact hl
    | (rw [ready_no (.inl (by assumption))]; exact ⟨LeS.refl _, trivial⟩)
    | (rw [ready_no (.inr (by assumption))]; exact ⟨LeS.refl _, trivial⟩)
  all_goals
    have ho : (ownerG g).2 = true := by assumption
    have hop : g.opn = false := by assumption
    have h1 := hm ho
    have h0 : stale (ownerG g).1.copy (g.mem.getD 0 default) = false := by
      have e := (hom ho).2.2
      rw [e]
      unfold stale
      rw [sameC_refl]; simp
    refine loop_auto [1, 2, 3, 19, 20] [1, 3] (fun i : Nat => [(21, .d (.int .i64 i))]) (fun i => []) (fun i => i ≤ g.mem.length ∧ (i = 0 ∨ (g.mem.drop 1).any (stale (ownerG g).1.copy) = (g.mem.drop i).any (stale (ownerG g).1.copy))) (fun i => g.mem.length - i) 0 ?_ (fun i hi => ?_) ⟨by omega, .inl rfl⟩
    · conv => whnf
      repeat' first
        | (refine bc_true (by assumption) ?_; (conv => whnf))
        | (refine bc_false (by assumption) ?_; (conv => whnf))
        | (refine bc_intro (fun _ => ?_) (fun _ => ?_) <;> (conv => whnf))
        | (refine need_intro ?_ ?_; (conv => whnf))
        | (refine wk_refl ?_; (conv => whnf))
        | (refine draw_intro (by kernel_rfl) ?_; (conv => whnf))
        | (refine ord_intro (by kernel_rfl) ?_; (conv => whnf))
      all_goals first | exact trivial | exact DLe.refl _ | trace_state
    · obtain ⟨hi, ha⟩ := hi
      have hst := fun h => stale_step (o := (ownerG g).1.copy) (ms := g.mem) (i := i) h
      have hen := fun h => stale_end (o := (ownerG g).1.copy) (ms := g.mem) (i := i) h
      have hsi : IntKind.i64.wrap ((i : Int) + 1) = ((i + 1 : Nat) : Int) := wrap_succ (n := 2000) (by omega) (by omega)
      have hms := fun i => mem_small h i
      have ha' : i < g.mem.length → stale (ownerG g).1.copy (g.mem.getD i default) = false → (g.mem.drop 1).any (stale (ownerG g).1.copy) = (g.mem.drop (i + 1)).any (stale (ownerG g).1.copy) := fun h hf => by
        rcases ha with ha | ha
        · subst ha; rfl
        · rw [ha, hst h, hf]; rfl
      have hi0 : stale (ownerG g).1.copy (g.mem.getD i default) = true → i ≠ 0 := fun h e => by
        subst e; rw [h0] at h; cases h
      conv => whnf
      repeat' first
        | (refine call_if (samer_spec _ _) (by first | exact .inl rfl | exact .inr ⟨rfl, rfl⟩) (need_intro ?_ ?_); (conv => whnf))
        | (refine NextVC.mk (i + 1) ?_ ?_ ?_; (conv => whnf))
        | (refine bc_true (by assumption) ?_; (conv => whnf))
        | (refine bc_false (by assumption) ?_; (conv => whnf))
        | (refine bc_intro (fun _ => ?_) (fun _ => ?_) <;> (conv => whnf))
        | (refine need_intro ?_ ?_; (conv => whnf))
        | (refine wk_refl ?_; (conv => whnf))
        | (refine draw_intro (by kernel_rfl) ?_; (conv => whnf))
        | (refine ord_intro (by kernel_rfl) ?_; (conv => whnf))
      all_goals try simp only [cellsMem, bytesMem, decide_eq_true_eq, decide_eq_false_iff_not, bne_iff_ne, ne_eq, Decidable.not_not, Bool.not_eq_true', Bool.not_eq_false', bne_eq_false_iff_eq] at *
      all_goals try simp only [Int.toNat_natCast] at *
      all_goals first
        | exact trivial
        | omega
        | exact DLe.refl _
        | exact DLe.of_eq (by rw [hsi])
        | exact ⟨by omega, by omega⟩
        | exact ⟨hms _, hs⟩
        | (have hu : (g.mem.getD i default).up = true := by assumption
           have hc : sameC (g.mem.getD i default).copy (ownerG g).1.copy = false := by assumption
           have hz := hi0 (stale_of hu hc)
           rw [ready_of ho hop, ha.resolve_left hz, hst (by omega), stale_of hu hc]
           exact ⟨LeS.refl _, trivial⟩)
        | (have hu : (g.mem.getD i default).up = true := by assumption
           have hc : sameC (g.mem.getD i default).copy (ownerG g).1.copy = true := by assumption
           exact ⟨by omega, .inr (ha' (by omega) (stale_of hu hc))⟩)
        | (have hu : (g.mem.getD i default).up = false := by assumption
           exact ⟨by omega, .inr (ha' (by omega) (stale_down hu))⟩)
        | (rw [ready_of ho hop, ha.resolve_left (by omega), hen (by omega)]
           exact ⟨LeS.refl _, trivial⟩)
        | trace_state
theorem finish_down {g : GrpT} (h : (ownerG g).2 = false) : finishG g = ((noGrp, []), 14) := by rw [finishG, if_pos h]
theorem finish_open {g : GrpT} (h : (ownerG g).2 = true) (h2 : g.opn = true) : finishG g = ((noGrp, []), 7) := by rw [finishG, if_neg (by simp [h]), if_pos h2]
theorem finish_busy {g : GrpT} (h : (ownerG g).2 = true) (h2 : g.opn = false) (h3 : readyG g = false) : finishG g = ((noGrp, []), 13) := by rw [finishG, if_neg (by simp [h]), if_neg (by simp [h2]), if_pos h3]
theorem finish_fails {g : GrpT} (h : (ownerG g).2 = true) (h2 : g.opn = false) (h3 : readyG g = true) (h4 : ¬ (settleF (ownerG g).1.copy).2 = 0) : finishG g = ((noGrp, []), (settleF (ownerG g).1.copy).2) := by
  rw [finishG, if_neg (by simp [h]), if_neg (by simp [h2]), if_neg (by simp [h3]), if_pos h4]
theorem finish_ok {g : GrpT} (h : (ownerG g).2 = true) (h2 : g.opn = false) (h3 : readyG g = true) (h4 : (settleF (ownerG g).1.copy).2 = 0) : finishG g = ((openG g (settleF (ownerG g).1.copy).1, (ownerG g).1.copy.pend), 0) := by
  rw [finishG, if_neg (by simp [h]), if_neg (by simp [h2]), if_neg (by simp [h3]), if_neg (by simp [h4])]
set_option maxHeartbeats 1000000 in
theorem finishp_spec (g : GrpT) : GrpB 1000 g → Sx.Spec Tryz.prog GG 77 [.agg (grpL g)] [] (.tup [.agg (grpL (finishG g).1.1), .d (encL encWr 3 (finishG g).1.2), .d (.int .i64 (finishG g).2)]) [] := by
  intro h
  have hl := h.len
  have hs := owner_small h
  have hm := fun ho => (owner_mem (g := g) ho).1
  refine spec_intro (E := EE) (fn := Tryz.f77) eok (by kernel_rfl) (by kernel_rfl) Tryz.call77 (by kernel_rfl) (by kernel_rfl) ?_
  conv => whnf
  repeat' first
    | (refine call_if (owner_spec g) (by first | exact .inl rfl | exact .inr ⟨rfl, rfl⟩) (need_intro ?_ ?_); (conv => whnf))
    | (refine call_if (readyp_spec g) (by first | exact .inl rfl | exact .inr ⟨rfl, rfl⟩) (need_intro ?_ ?_); (conv => whnf))
    | (refine call_if (settlep_spec _) (by first | exact .inl rfl | exact .inr ⟨rfl, rfl⟩) (need_intro ?_ ?_); (conv => whnf))
    | (refine call_if (cloneG_at 1000 g) (by first | exact .inl rfl | exact .inr ⟨rfl, rfl⟩) (need_intro ?_ ?_); (conv => whnf))
    | (refine bc_true (by assumption) ?_; (conv => whnf))
    | (refine bc_false (by assumption) ?_; (conv => whnf))
    | (refine bc_intro (fun _ => ?_) (fun _ => ?_) <;> (conv => whnf))
    | (refine need_intro ?_ ?_; (conv => whnf))
    | (refine wk_refl ?_; (conv => whnf))
    | (refine draw_intro (by kernel_rfl) ?_; (conv => whnf))
    | (refine ord_intro (by kernel_rfl) ?_; (conv => whnf))
  all_goals try simp only [cellsMem, bytesMem, decide_eq_true_eq, decide_eq_false_iff_not, bne_iff_ne, ne_eq, Decidable.not_not, Bool.not_eq_true', Bool.not_eq_false', bne_eq_false_iff_eq] at *
  all_goals first
    | exact h
    | exact hs
    | (have h1 := hm (by assumption); exact ⟨Int.le_refl 0, by omega⟩)
    | (have h1 := hm (by assumption); simp only [Int.toNat_zero]; omega)
    | (rw [finish_down (by assumption)]
       exact ⟨LeS.tup (LeL.cons (LeS.agg (LeL.cons (LeS.refl _) (LeL.cons (LeS.refl _) (LeL.cons (les_nil rfl) LeL.nil)))) (LeL.cons (les_nil rfl) (LeL.cons (LeS.refl _) LeL.nil))), trivial⟩
       done)
    | (rw [finish_open (by assumption) (by assumption)]
       exact ⟨LeS.tup (LeL.cons (LeS.agg (LeL.cons (LeS.refl _) (LeL.cons (LeS.refl _) (LeL.cons (les_nil rfl) LeL.nil)))) (LeL.cons (les_nil rfl) (LeL.cons (LeS.refl _) LeL.nil))), trivial⟩
       done)
    | (rw [finish_busy (by assumption) (by assumption) (by assumption)]
       exact ⟨LeS.tup (LeL.cons (LeS.agg (LeL.cons (LeS.refl _) (LeL.cons (LeS.refl _) (LeL.cons (les_nil rfl) LeL.nil)))) (LeL.cons (les_nil rfl) (LeL.cons (LeS.refl _) LeL.nil))), trivial⟩
       done)
    | (rw [finish_fails (by assumption) (by assumption) (by assumption) (by assumption)]
       exact ⟨LeS.tup (LeL.cons (LeS.agg (LeL.cons (LeS.refl _) (LeL.cons (LeS.refl _) (LeL.cons (les_nil rfl) LeL.nil)))) (LeL.cons (les_nil rfl) (LeL.cons (LeS.refl _) LeL.nil))), trivial⟩
       done)
    | (have h1 := hm (by assumption)
       rw [finish_ok (by assumption) (by assumption) (by assumption) (by assumption)]
       refine ⟨LeS.tup (LeL.cons (LeS.agg (LeL.cons (LeS.refl _) (LeL.cons (LeS.refl _) (LeL.cons (LeS.d (DLe.rows ?_ ?_)) LeL.nil)))) (LeL.cons (LeS.refl _) (LeL.cons (LeS.refl _) LeL.nil))), trivial⟩
       · simp [openG, withG]
       · dsimp only [openG, withG]
         exact row_setC' (p := 0) (by omega))
    | trace_state
set_option maxHeartbeats 1000000 in
theorem finishr_spec (g : GrpT) : GrpB 1000 g → Sx.Spec Tryz.prog GG 61 [.agg (grpL g)] [] (.tup [.agg (grpL (finishG g).1.1), .d (encL encWr 3 (finishG g).1.2), .d (.int .i64 (finishG g).2)]) [] := by
  intro h
  have hl := h.len
  have hs := owner_small h
  have hm := fun ho => (owner_mem (g := g) ho).1
  refine spec_intro (E := EE) (fn := Tryz.f61) eok (by kernel_rfl) (by kernel_rfl) Tryz.call61 (by kernel_rfl) (by kernel_rfl) ?_
  conv => whnf
  repeat' first
    | (refine call_if (ownerr_spec g) (by first | exact .inl rfl | exact .inr ⟨rfl, rfl⟩) (need_intro ?_ ?_); (conv => whnf))
    | (refine call_if (readyr_spec g) (by first | exact .inl rfl | exact .inr ⟨rfl, rfl⟩) (need_intro ?_ ?_); (conv => whnf))
    | (refine call_if (settler_spec _) (by first | exact .inl rfl | exact .inr ⟨rfl, rfl⟩) (need_intro ?_ ?_); (conv => whnf))
    | (refine call_if (ownr_spec g _) (by first | exact .inl rfl | exact .inr ⟨rfl, rfl⟩) (need_intro ?_ ?_); (conv => whnf))
    | (refine bc_true (by assumption) ?_; (conv => whnf))
    | (refine bc_false (by assumption) ?_; (conv => whnf))
    | (refine bc_intro (fun _ => ?_) (fun _ => ?_) <;> (conv => whnf))
    | (refine need_intro ?_ ?_; (conv => whnf))
    | (refine wk_refl ?_; (conv => whnf))
    | (refine draw_intro (by kernel_rfl) ?_; (conv => whnf))
    | (refine ord_intro (by kernel_rfl) ?_; (conv => whnf))
  all_goals try simp only [cellsMem, bytesMem, decide_eq_true_eq, decide_eq_false_iff_not, bne_iff_ne, ne_eq, Decidable.not_not, Bool.not_eq_true', Bool.not_eq_false', bne_eq_false_iff_eq] at *
  all_goals first
    | exact h
    | exact hl
    | exact hs
    | exact ⟨hl, hm (by assumption)⟩
    | (rw [finish_down (by assumption)]
       exact ⟨LeS.tup (LeL.cons (LeS.agg (LeL.cons (LeS.refl _) (LeL.cons (LeS.refl _) (LeL.cons (les_nil rfl) LeL.nil)))) (LeL.cons (les_nil rfl) (LeL.cons (LeS.refl _) LeL.nil))), trivial⟩
       done)
    | (rw [finish_open (by assumption) (by assumption)]
       exact ⟨LeS.tup (LeL.cons (LeS.agg (LeL.cons (LeS.refl _) (LeL.cons (LeS.refl _) (LeL.cons (les_nil rfl) LeL.nil)))) (LeL.cons (les_nil rfl) (LeL.cons (LeS.refl _) LeL.nil))), trivial⟩
       done)
    | (rw [finish_busy (by assumption) (by assumption) (by assumption)]
       exact ⟨LeS.tup (LeL.cons (LeS.agg (LeL.cons (LeS.refl _) (LeL.cons (LeS.refl _) (LeL.cons (les_nil rfl) LeL.nil)))) (LeL.cons (les_nil rfl) (LeL.cons (LeS.refl _) LeL.nil))), trivial⟩
       done)
    | (rw [finish_fails (by assumption) (by assumption) (by assumption) (by assumption)]
       exact ⟨LeS.tup (LeL.cons (LeS.agg (LeL.cons (LeS.refl _) (LeL.cons (LeS.refl _) (LeL.cons (les_nil rfl) LeL.nil)))) (LeL.cons (les_nil rfl) (LeL.cons (LeS.refl _) LeL.nil))), trivial⟩
       done)
    | (rw [finish_ok (by assumption) (by assumption) (by assumption) (by assumption)]
       exact ⟨LeS.refl _, trivial⟩)
    | trace_state
end Go.Proofs.YtngdpchhogfhfaaGreatDoor
