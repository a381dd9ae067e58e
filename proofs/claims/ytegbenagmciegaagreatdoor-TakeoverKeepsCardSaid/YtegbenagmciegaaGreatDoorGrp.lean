/- Contracts of functions that the law reaches: YtegbenagmciegaaGreatDoorGrp. Written for this claim. -/
import Derived.Test.YtegbenagmciegaaGreatDoorSame
import Derived.Test.YtegbenagmciegaaGreatDoorSxGrp
namespace Go.Proofs.YtegbenagmciegaaGreatDoor
open Go Go.Sx Go.ChangeShapes Go.WideShapes Go.ChangeAt Go.RowKit
set_option linter.unusedVariables false
set_option linter.unusedSimpArgs false
set_option maxRecDepth 100000

theorem index_spec (g : GrpT) (id : Int) (f : Nat) : (f ≤ 1 ∧ g.mem.length ≤ 1000) → Sx.Spec Tryz.prog GG 71 [.agg (grpL g), .d (.int .i64 id), .d (.int .i64 f)] [] (.d (.int .i64 (indexG g.mem id f))) [] := by
  rintro ⟨hf, hl⟩
  refine spec_intro (E := EE) (fn := Tryz.f71) eok (by kernel_rfl) (by kernel_rfl) Tryz.call71 (by kernel_rfl) (by kernel_rfl) ?_
  refine loop_auto [1, 3, 6] [3] (fun i : Nat => [(7, .d (.int .i64 i))]) (fun i => []) (fun i => (f ≤ i ∧ i ≤ 1000) ∧ indexG g.mem id f = indexG g.mem id i) (fun i => 2000 - i) f ?_ (fun i hi => ?_) ⟨⟨by omega, by omega⟩, rfl⟩
  · conv => whnf
    repeat' first
      | (refine bc_true (by assumption) ?_; (conv => whnf))
      | (refine bc_false (by assumption) ?_; (conv => whnf))
      | (refine bc_intro (fun _ => ?_) (fun _ => ?_) <;> (conv => whnf))
      | (refine need_intro ?_ ?_; (conv => whnf))
      | (refine wk_refl ?_; (conv => whnf))
      | (refine draw_intro (by kernel_rfl) ?_; (conv => whnf))
      | (refine ord_intro (by kernel_rfl) ?_; (conv => whnf))
    all_goals first | exact trivial | exact DLe.refl _ | trace_state
  · obtain ⟨⟨h1, h2⟩, h3⟩ := hi
    have hs : IntKind.i64.wrap ((i : Int) + 1) = ((i + 1 : Nat) : Int) := wrap_succ (n := 2000) (by omega) (by omega)
    conv => whnf
    repeat' first
      | (refine NextVC.mk (i + 1) ?_ ?_ ?_; (conv => whnf))
      | (refine bc_true (by assumption) ?_; (conv => whnf))
      | (refine bc_false (by assumption) ?_; (conv => whnf))
      | (refine bc_intro (fun _ => ?_) (fun _ => ?_) <;> (conv => whnf))
      | (refine need_intro ?_ ?_; (conv => whnf))
      | (refine wk_refl ?_; (conv => whnf))
      | (refine draw_intro (by kernel_rfl) ?_; (conv => whnf))
      | (refine ord_intro (by kernel_rfl) ?_; (conv => whnf))
    all_goals try simp only [decide_eq_true_eq, decide_eq_false_iff_not, beq_iff_eq, beq_eq_false_iff_ne, ne_eq, Int.toNat_natCast] at *
    all_goals first
      | exact trivial
      | omega
      | exact DLe.refl _
      | exact DLe.of_eq (by rw [hs])
      | exact ⟨by omega, by omega⟩
      | (refine ⟨⟨by omega, by omega⟩, ?_⟩; rw [h3, index_step (by omega), if_neg (by assumption)])
      | (refine ⟨LeS.of_eq ?_, trivial⟩; rw [h3, index_step (by omega), if_pos (by assumption)]; done)
      | (refine ⟨LeS.of_eq ?_, trivial⟩; rw [h3, index_end (by omega)]; done)
      | trace_state
theorem owner_none {g : GrpT} (h : g.mem.length = 0 ∨ (g.mem.getD 0 default).up = false) : ownerG g = (noMem, false) := by
  unfold ownerG
  split
  · rfl
  · rcases h with h | h
    · contradiction
    · rw [h]; rfl
theorem owner_some {g : GrpT} (h1 : ¬ g.mem.length = 0) (h2 : (g.mem.getD 0 default).up = true) : ownerG g = (g.mem.getD 0 default, true) := by
  unfold ownerG
  rw [if_neg h1, if_pos h2]
theorem owner_spec (g : GrpT) : GrpB 1000 g → Sx.Spec Tryz.prog GG 92 [.agg (grpL g)] [] (.tup [.agg (memL (ownerG g).1), .d (.bool (ownerG g).2)]) [] := by
  intro h
  refine spec_intro (E := EE) (fn := Tryz.f92) eok (by kernel_rfl) (by kernel_rfl) Tryz.call92 (by kernel_rfl) (by kernel_rfl) ?_
  conv => whnf
  repeat' first
    | (refine call_if (cloneC_spec (g.mem.getD 0 default).copy) (by first | exact .inl rfl | exact .inr ⟨rfl, rfl⟩) (need_intro ?_ ?_); (conv => whnf))
    | (refine bc_true (by assumption) ?_; (conv => whnf))
    | (refine bc_false (by assumption) ?_; (conv => whnf))
    | (refine bc_intro (fun _ => ?_) (fun _ => ?_) <;> (conv => whnf))
    | (refine need_intro ?_ ?_; (conv => whnf))
    | (refine wk_refl ?_; (conv => whnf))
    | (refine draw_intro (by kernel_rfl) ?_; (conv => whnf))
    | (refine ord_intro (by kernel_rfl) ?_; (conv => whnf))
  all_goals try simp only [decide_eq_true_eq, decide_eq_false_iff_not, beq_iff_eq, beq_eq_false_iff_ne, ne_eq, Bool.not_eq_true', Bool.not_eq_false', Int.toNat_zero] at *
  all_goals first
    | omega
    | exact mem_small h 0
    | (rw [owner_none (.inl (by omega))]
       (refine ⟨LeS.tup (LeL.cons (LeS.agg ?_) (LeL.cons (LeS.refl _) LeL.nil)), trivial⟩
        repeat' first
          | exact LeL.nil
          | refine LeL.cons ?_ ?_
        all_goals first
          | exact LeS.refl _
          | exact les_own rfl
          | exact les_nil rfl)
       done)
    | (rw [owner_none (.inr (by assumption))]
       (refine ⟨LeS.tup (LeL.cons (LeS.agg ?_) (LeL.cons (LeS.refl _) LeL.nil)), trivial⟩
        repeat' first
          | exact LeL.nil
          | refine LeL.cons ?_ ?_
        all_goals first
          | exact LeS.refl _
          | exact les_own rfl
          | exact les_nil rfl)
       done)
    | (rw [owner_some (by omega) (by assumption)]
       (refine ⟨LeS.tup (LeL.cons (LeS.agg ?_) (LeL.cons (LeS.refl _) LeL.nil)), trivial⟩
        repeat' first
          | exact LeL.nil
          | refine LeL.cons ?_ ?_
        all_goals first
          | exact LeS.refl _
          | exact les_own rfl
          | exact les_nil rfl)
       done)
    | trace_state
theorem cellsMem : Tryz.prog.cellsOf 56 = 32 := by kernel_rfl
theorem bytesMem : Tryz.prog.bytesOf 56 = 368 := by kernel_rfl
theorem cloneM0 (xs : List MemT) : xs.length ≤ 1000000 → Sx.Spec Tryz.prog GG 111 [.d (encL encMem 32 xs)] [] (.osl 1000 32 0 xs.length) [(1000, .row 56 32 xs.length (cellOf encMem xs))] := by
  intro hl
  refine spec_intro (E := EE) (fn := Tryz.f111) eok (by kernel_rfl) (by kernel_rfl) Tryz.call111 (by kernel_rfl) (by kernel_rfl) ?_
  conv => whnf
  repeat' first
    | (refine bc_true (by assumption) ?_; (conv => whnf))
    | (refine bc_false (by assumption) ?_; (conv => whnf))
    | (refine bc_intro (fun _ => ?_) (fun _ => ?_) <;> (conv => whnf))
    | (refine need_intro ?_ ?_; (conv => whnf))
    | (refine wk_refl ?_; (conv => whnf))
    | (refine draw_intro (by kernel_rfl) ?_; (conv => whnf))
    | (refine ord_intro (by kernel_rfl) ?_; (conv => whnf))
  all_goals try simp only [cellsMem, bytesMem, true_and, and_true] at *
  all_goals first
    | exact trivial
    | omega
    | exact DLe.refl _
    | exact RowLe.refl _ _ _
    | exact ⟨by omega, by omega⟩
    | trace_state
theorem cloneM_at (m : Nat) (xs : List MemT) : xs.length ≤ 1000000 → Sx.Spec Tryz.prog GG 111 [.d (encL encMem 32 xs)] [] (.osl m 32 0 xs.length) [(m, .row 56 32 xs.length (cellOf encMem xs))] := fun h => (cloneM0 xs h).new1 m
theorem cloneG0 (g : GrpT) : GrpB 1000 g → Sx.Spec Tryz.prog GG 95 [.agg (grpL g)] [] (.agg [.d (.int .i64 g.num), .d (.bool g.opn), .osl 1000 32 0 g.mem.length]) [(1000, .row 56 32 g.mem.length (cellOf encMem g.mem))] := by
  intro h
  have hl := h.len
  refine spec_intro (E := EE) (fn := Tryz.f95) eok (by kernel_rfl) (by kernel_rfl) Tryz.call95 (by kernel_rfl) (by kernel_rfl) ?_
  conv => whnf
  repeat' first
    | (refine call_if (cloneM_at 1000 g.mem) (by first | exact .inl rfl | exact .inr ⟨rfl, rfl⟩) (need_intro ?_ ?_); (conv => whnf))
    | (refine bc_true (by assumption) ?_; (conv => whnf))
    | (refine bc_false (by assumption) ?_; (conv => whnf))
    | (refine need_intro ?_ ?_; (conv => whnf))
    | (refine wk_refl ?_; (conv => whnf))
    | (refine draw_intro (by kernel_rfl) ?_; (conv => whnf))
    | (refine ord_intro (by kernel_rfl) ?_; (conv => whnf))
  all_goals try first | omega
  refine loop_auto [1, 2, 10] [2] (fun i : Nat => [(11, .d (.int .i64 i))]) (fun i => [(1, .box [.d (.int .i64 g.num), .d (.bool g.opn), .osl 1000 32 0 g.mem.length]), (1000, .row 56 32 g.mem.length (cellOf encMem g.mem))]) (fun i => i ≤ g.mem.length) (fun i => g.mem.length - i) 0 ?_ (fun i hi => ?_) (by omega)
  · conv => whnf
    repeat' first
      | (refine bc_true (by assumption) ?_; (conv => whnf))
      | (refine bc_false (by assumption) ?_; (conv => whnf))
      | (refine bc_intro (fun _ => ?_) (fun _ => ?_) <;> (conv => whnf))
      | (refine need_intro ?_ ?_; (conv => whnf))
      | (refine wk_refl ?_; (conv => whnf))
      | (refine draw_intro (by kernel_rfl) ?_; (conv => whnf))
      | (refine ord_intro (by kernel_rfl) ?_; (conv => whnf))
    all_goals first | exact trivial | exact DLe.refl _ | exact RowLe.refl _ _ _ | exact ⟨rfl, rfl⟩ | exact ⟨rfl, rfl, rfl⟩ | trace_state
  · have hs : IntKind.i64.wrap ((i : Int) + 1) = ((i + 1 : Nat) : Int) := wrap_succ (n := 2000) (by omega) (by omega)
    conv => whnf
    repeat' first
      | (refine call_if (cloneC_spec (g.mem.getD (0 + i) default).copy) (by first | exact .inl rfl | exact .inr ⟨rfl, rfl⟩) (need_intro ?_ ?_); (conv => whnf))
      | (refine NextVC.mk (i + 1) ?_ ?_ ?_; (conv => whnf))
      | (refine bc_true (by assumption) ?_; (conv => whnf))
      | (refine bc_false (by assumption) ?_; (conv => whnf))
      | (refine bc_intro (fun _ => ?_) (fun _ => ?_) <;> (conv => whnf))
      | (refine need_intro ?_ ?_; (conv => whnf))
      | (refine wk_refl ?_; (conv => whnf))
      | (refine draw_intro (by kernel_rfl) ?_; (conv => whnf))
      | (refine ord_intro (by kernel_rfl) ?_; (conv => whnf))
    all_goals try simp only [decide_eq_true_eq, decide_eq_false_iff_not, Int.toNat_natCast] at *
    all_goals first
      | exact trivial
      | omega
      | exact DLe.refl _
      | exact RowLe.refl _ _ _
      | exact mem_small h _
      | exact DLe.of_eq (by rw [hs])
      | exact ⟨by omega, by omega⟩
      | exact ⟨rfl, rfl⟩
      | exact ⟨rfl, rfl, rfl⟩
      | exact ⟨trivial, trivial, trivial⟩
      | exact row_sameC (by omega)
      | trace_state
theorem cloneG_at (m : Nat) (g : GrpT) : GrpB 1000 g → Sx.Spec Tryz.prog GG 95 [.agg (grpL g)] [] (.agg [.d (.int .i64 g.num), .d (.bool g.opn), .osl m 32 0 g.mem.length]) [(m, .row 56 32 g.mem.length (cellOf encMem g.mem))] := fun h => (cloneG0 g h).new1 m
theorem with_spec (g : GrpT) (c : CopyT) : (GrpB 1000 g ∧ g.mem.length ≠ 0) → Sx.Spec Tryz.prog GG 125 [.agg (grpL g), .agg (copyL c)] [] (.agg (grpL (withG g c))) [] := by
  rintro ⟨h, h0⟩
  refine spec_intro (E := EE) (fn := Tryz.f125) eok (by kernel_rfl) (by kernel_rfl) Tryz.call125 (by kernel_rfl) (by kernel_rfl) ?_
  conv => whnf
  repeat' first
    | (refine call_if (cloneG_at 1000 g) (by first | exact .inl rfl | exact .inr ⟨rfl, rfl⟩) (need_intro ?_ ?_); (conv => whnf))
    | (refine bc_true (by assumption) ?_; (conv => whnf))
    | (refine bc_false (by assumption) ?_; (conv => whnf))
    | (refine bc_intro (fun _ => ?_) (fun _ => ?_) <;> (conv => whnf))
    | (refine need_intro ?_ ?_; (conv => whnf))
    | (refine wk_refl ?_; (conv => whnf))
    | (refine draw_intro (by kernel_rfl) ?_; (conv => whnf))
    | (refine ord_intro (by kernel_rfl) ?_; (conv => whnf))
  all_goals first
    | exact h
    | omega
    | exact ⟨by omega, by omega⟩
    | (refine ⟨LeS.agg (LeL.cons (LeS.refl _) (LeL.cons (LeS.refl _) (LeL.cons (LeS.d (DLe.rows ?_ ?_)) LeL.nil))), trivial⟩
       · simp [withG]
       · dsimp only
         exact row_setC' (p := 0) (by omega))
    | (simp; omega)
    | trace_state
theorem propose_spec (g : GrpT) (w : Wr) : GrpB 1000 g → Sx.Spec Tryz.prog GG 56 [.agg (grpL g), .agg [.d (.str w.1), .d (.str w.2.1), .d (.bool w.2.2)]] [] (.tup [.agg (grpL (proposeG g w).1), .d (.int .i64 (proposeG g w).2)]) [] := by
  intro h
  have hs := owner_small h
  have hm := fun ho => (owner_mem (g := g) ho).1
  refine spec_intro (E := EE) (fn := Tryz.f56) eok (by kernel_rfl) (by kernel_rfl) Tryz.call56 (by kernel_rfl) (by kernel_rfl) ?_
  conv => whnf
  repeat' first
    | (refine call_if (owner_spec g) (by first | exact .inl rfl | exact .inr ⟨rfl, rfl⟩) (need_intro ?_ ?_); (conv => whnf))
    | (refine call_if (appendp_spec _ _ _ _) (by first | exact .inl rfl | exact .inr ⟨rfl, rfl⟩) (need_intro ?_ ?_); (conv => whnf))
    | (refine call_if (with_spec g _) (by first | exact .inl rfl | exact .inr ⟨rfl, rfl⟩) (need_intro ?_ ?_); (conv => whnf))
    | (refine bc_true (by assumption) ?_; (conv => whnf))
    | (refine bc_false (by assumption) ?_; (conv => whnf))
    | (refine bc_intro (fun _ => ?_) (fun _ => ?_) <;> (conv => whnf))
    | (refine need_intro ?_ ?_; (conv => whnf))
    | (refine wk_refl ?_; (conv => whnf))
    | (refine draw_intro (by kernel_rfl) ?_; (conv => whnf))
    | (refine ord_intro (by kernel_rfl) ?_; (conv => whnf))
  all_goals try simp only [cellsMem, bytesMem, decide_eq_true_eq, decide_eq_false_iff_not, bne_iff_ne, ne_eq, Decidable.not_not, Bool.not_eq_true', Bool.not_eq_false', bne_eq_false_iff_eq] at *
  all_goals first
    | exact h
    | exact hs
    | exact ⟨h, hm (by assumption)⟩
    | (simp only [proposeG, *, if_true, if_false, Bool.false_eq_true, Bool.true_eq_false, not_true_eq_false, not_false_eq_true]
       (refine ⟨LeS.tup (LeL.cons (LeS.agg ?_) (LeL.cons (LeS.refl _) LeL.nil)), trivial⟩
        repeat' first
          | exact LeL.nil
          | refine LeL.cons ?_ ?_
        all_goals first
          | exact LeS.refl _
          | exact les_nil rfl
          | exact LeS.d (DLe.rows (by simp) (row_setC' (by omega)))
          | exact LeS.d (DLe.rows (by simp) (row_setU' (by omega))))
       done)
    | trace_state
theorem replicate_spec (g : GrpT) (id : Int) : GrpB 1000 g → Sx.Spec Tryz.prog GG 58 [.agg (grpL g), .d (.int .i64 id)] [] (.tup [.agg (grpL (replicateG g id).1), .d (.int .i64 (replicateG g id).2)]) [] := by
  intro h
  have hl := h.len
  have hn := fun hi => index_nat (ms := g.mem) (id := id) (f := 1) hi
  refine spec_intro (E := EE) (fn := Tryz.f58) eok (by kernel_rfl) (by kernel_rfl) Tryz.call58 (by kernel_rfl) (by kernel_rfl) ?_
  conv => whnf
  repeat' first
    | (refine call_if (owner_spec g) (by first | exact .inl rfl | exact .inr ⟨rfl, rfl⟩) (need_intro ?_ ?_); (conv => whnf))
    | (refine call_if (index_spec g id 1) (by first | exact .inl rfl | exact .inr ⟨rfl, rfl⟩) (need_intro ?_ ?_); (conv => whnf))
    | (refine call_if (cloneG_at 1000 g) (by first | exact .inl rfl | exact .inr ⟨rfl, rfl⟩) (need_intro ?_ ?_); (conv => whnf))
    | (refine bc_true (by assumption) ?_; (conv => whnf))
    | (refine bc_false (by assumption) ?_; (conv => whnf))
    | (refine bc_intro (fun _ => ?_) (fun _ => ?_) <;> (conv => whnf))
    | (refine need_intro ?_ ?_; (conv => whnf))
    | (refine wk_refl ?_; (conv => whnf))
    | (refine draw_intro (by kernel_rfl) ?_; (conv => whnf))
    | (refine ord_intro (by kernel_rfl) ?_; (conv => whnf))
  all_goals try simp only [cellsMem, bytesMem, decide_eq_true_eq, decide_eq_false_iff_not, bne_iff_ne, ne_eq, Decidable.not_not, Bool.not_eq_true', Bool.not_eq_false', bne_eq_false_iff_eq] at *
  all_goals first
    | exact h
    | omega
    | exact ⟨by omega, by omega⟩
    | (have h1 := hn (by assumption); omega)
    | (have h1 := hn (by assumption); exact ⟨by omega, by omega⟩)
    | (simp only [replicateG, *, if_true, if_false, Bool.false_eq_true, Bool.true_eq_false, not_true_eq_false, not_false_eq_true]
       (refine ⟨LeS.tup (LeL.cons (LeS.agg ?_) (LeL.cons (LeS.refl _) LeL.nil)), trivial⟩
        repeat' first
          | exact LeL.nil
          | refine LeL.cons ?_ ?_
        all_goals first
          | exact LeS.refl _
          | exact les_nil rfl
          | exact LeS.d (DLe.rows (by simp) (row_setC' (by omega)))
          | exact LeS.d (DLe.rows (by simp) (row_setU' (by omega))))
       done)
    | (have h1 := hn (by assumption)
       rw [replicate_ok (by assumption) (by assumption) (by assumption)]
       (refine ⟨LeS.tup (LeL.cons (LeS.agg ?_) (LeL.cons (LeS.refl _) LeL.nil)), trivial⟩
        repeat' first
          | exact LeL.nil
          | refine LeL.cons ?_ ?_
        all_goals first
          | exact LeS.refl _
          | exact les_nil rfl
          | exact LeS.d (DLe.rows (by simp) (row_setC' (by omega)))
          | exact LeS.d (DLe.rows (by simp) (row_setU' (by omega))))
       done)
    | (have h1 := hn (by assumption)
       simp only [replicateG, *, if_true, if_false, Bool.false_eq_true, Bool.true_eq_false, not_true_eq_false, not_false_eq_true]
       (refine ⟨LeS.tup (LeL.cons (LeS.agg ?_) (LeL.cons (LeS.refl _) LeL.nil)), trivial⟩
        repeat' first
          | exact LeL.nil
          | refine LeL.cons ?_ ?_
        all_goals first
          | exact LeS.refl _
          | exact les_nil rfl
          | exact LeS.d (DLe.rows (by simp) (row_setC' (by omega)))
          | exact LeS.d (DLe.rows (by simp) (row_setU' (by omega))))
       done)
    | trace_state
theorem crash_spec (g : GrpT) (id : Int) : GrpB 1000 g → Sx.Spec Tryz.prog GG 59 [.agg (grpL g), .d (.int .i64 id)] [] (.tup [.agg (grpL (crashG g id).1), .d (.int .i64 (crashG g id).2)]) [] := by
  intro h
  have hl := h.len
  have hn := fun hi => index_nat (ms := g.mem) (id := id) (f := 0) hi
  refine spec_intro (E := EE) (fn := Tryz.f59) eok (by kernel_rfl) (by kernel_rfl) Tryz.call59 (by kernel_rfl) (by kernel_rfl) ?_
  conv => whnf
  repeat' first
    | (refine call_if (index_spec g id 0) (by first | exact .inl rfl | exact .inr ⟨rfl, rfl⟩) (need_intro ?_ ?_); (conv => whnf))
    | (refine call_if (cloneG_at 1000 g) (by first | exact .inl rfl | exact .inr ⟨rfl, rfl⟩) (need_intro ?_ ?_); (conv => whnf))
    | (refine bc_true (by assumption) ?_; (conv => whnf))
    | (refine bc_false (by assumption) ?_; (conv => whnf))
    | (refine bc_intro (fun _ => ?_) (fun _ => ?_) <;> (conv => whnf))
    | (refine need_intro ?_ ?_; (conv => whnf))
    | (refine wk_refl ?_; (conv => whnf))
    | (refine draw_intro (by kernel_rfl) ?_; (conv => whnf))
    | (refine ord_intro (by kernel_rfl) ?_; (conv => whnf))
  all_goals try simp only [cellsMem, bytesMem, decide_eq_true_eq, decide_eq_false_iff_not, bne_iff_ne, ne_eq, Decidable.not_not, Bool.not_eq_true', Bool.not_eq_false', bne_eq_false_iff_eq] at *
  all_goals first
    | exact h
    | omega
    | exact ⟨by omega, by omega⟩
    | (have h1 := hn (by assumption); omega)
    | (have h1 := hn (by assumption); exact ⟨by omega, by omega⟩)
    | (simp only [crashG, *, if_true, if_false, Bool.false_eq_true, Bool.true_eq_false, not_true_eq_false, not_false_eq_true]
       (refine ⟨LeS.tup (LeL.cons (LeS.agg ?_) (LeL.cons (LeS.refl _) LeL.nil)), trivial⟩
        repeat' first
          | exact LeL.nil
          | refine LeL.cons ?_ ?_
        all_goals first
          | exact LeS.refl _
          | exact les_nil rfl
          | exact LeS.d (DLe.rows (by simp) (row_setC' (by omega)))
          | exact LeS.d (DLe.rows (by simp) (row_setU' (by omega))))
       done)
    | (have h1 := hn (by assumption)
       simp only [crashG, *, if_true, if_false, Bool.false_eq_true, Bool.true_eq_false, not_true_eq_false, not_false_eq_true]
       (refine ⟨LeS.tup (LeL.cons (LeS.agg ?_) (LeL.cons (LeS.refl _) LeL.nil)), trivial⟩
        repeat' first
          | exact LeL.nil
          | refine LeL.cons ?_ ?_
        all_goals first
          | exact LeS.refl _
          | exact les_nil rfl
          | exact LeS.d (DLe.rows (by simp) (row_setC' (by omega)))
          | exact LeS.d (DLe.rows (by simp) (row_setU' (by omega))))
       done)
    | trace_state
theorem recruit_spec (g : GrpT) (id : Int) : GrpB 1000 g → Sx.Spec Tryz.prog GG 113 [.agg (grpL g), .d (.int .i64 id)] [] (.tup [.agg (grpL (recruitG g id).1), .d (.int .i64 (recruitG g id).2)]) [] := by
  intro h
  have hl := h.len
  refine spec_intro (E := EE) (fn := Tryz.f113) eok (by kernel_rfl) (by kernel_rfl) Tryz.call113 (by kernel_rfl) (by kernel_rfl) ?_
  conv => whnf
  repeat' first
    | (refine call_if (owner_spec g) (by first | exact .inl rfl | exact .inr ⟨rfl, rfl⟩) (need_intro ?_ ?_); (conv => whnf))
    | (refine call_intro (numberedp_spec _) ?_ (by first | exact .inl rfl | exact .inr ⟨rfl, rfl⟩); (conv => whnf))
    | (refine call_if (index_spec g id 0) (by first | exact .inl rfl | exact .inr ⟨rfl, rfl⟩) (need_intro ?_ ?_); (conv => whnf))
    | (refine call_if (cloneG_at 1000 g) (by first | exact .inl rfl | exact .inr ⟨rfl, rfl⟩) (need_intro ?_ ?_); (conv => whnf))
    | (refine bc_true (by assumption) ?_; (conv => whnf))
    | (refine bc_false (by assumption) ?_; (conv => whnf))
    | (refine bc_intro (fun _ => ?_) (fun _ => ?_) <;> (conv => whnf))
    | (refine need_intro ?_ ?_; (conv => whnf))
    | (refine wk_refl ?_; (conv => whnf))
    | (refine draw_intro (by kernel_rfl) ?_; (conv => whnf))
    | (refine ord_intro (by kernel_rfl) ?_; (conv => whnf))
  all_goals try simp only [cellsMem, bytesMem, decide_eq_true_eq, decide_eq_false_iff_not, bne_iff_ne, ne_eq, Decidable.not_not, Bool.not_eq_true', Bool.not_eq_false', bne_eq_false_iff_eq] at *
  all_goals first
    | exact h
    | omega
    | exact ⟨by omega, by omega⟩
    | exact ⟨trivial, by omega, by omega⟩
    | (simp only [recruitG, *, if_true, if_false, Bool.false_eq_true, Bool.true_eq_false, not_true_eq_false, not_false_eq_true]
       (refine ⟨LeS.tup (LeL.cons (LeS.agg ?_) (LeL.cons (LeS.refl _) LeL.nil)), trivial⟩
        repeat' first
          | exact LeL.nil
          | refine LeL.cons ?_ ?_
        all_goals first
          | exact LeS.refl _
          | exact les_nil rfl
          | exact LeS.d (DLe.rows (by simp) (row_setC' (by omega)))
          | exact LeS.d (DLe.rows (by simp) (row_setU' (by omega))))
       done)
    | skip
  all_goals
    rw [recruit_ok (by assumption) (by assumption) (by assumption) (by assumption) (by assumption)]
    refine ⟨LeS.tup (LeL.cons (LeS.agg (LeL.cons (LeS.refl _) (LeL.cons (LeS.refl _) (LeL.cons (LeS.d (DLe.rows (by simp) ?_)) LeL.nil)))) (LeL.cons (LeS.refl _) LeL.nil)), trivial⟩
    refine rowL_snoc (ms := g.mem) (x := ⟨id, true, (ownerG g).1.copy⟩) (AllLt.out ?_)
    repeat' first | exact trivial | exact DLe.refl _ | apply And.intro
theorem hasG_spec (g : GrpT) (id : Int) : GrpB 1000 g → Sx.Spec Tryz.prog GG 122 [.agg (grpL g), .d (.int .i64 id)] [] (.d (.bool (hasG g id))) [] := by
  intro h
  have hl := h.len
  have hn := fun hi => index_nat (ms := g.mem) (id := id) (f := 1) hi
  refine spec_intro (E := EE) (fn := Tryz.f122) eok (by kernel_rfl) (by kernel_rfl) Tryz.call122 (by kernel_rfl) (by kernel_rfl) ?_
  conv => whnf
  repeat' first
    | (refine call_if (owner_spec g) (by first | exact .inl rfl | exact .inr ⟨rfl, rfl⟩) (need_intro ?_ ?_); (conv => whnf))
    | (refine call_if (index_spec g id 1) (by first | exact .inl rfl | exact .inr ⟨rfl, rfl⟩) (need_intro ?_ ?_); (conv => whnf))
    | (refine bc_true (by assumption) ?_; (conv => whnf))
    | (refine bc_false (by assumption) ?_; (conv => whnf))
    | (refine bc_intro (fun _ => ?_) (fun _ => ?_) <;> (conv => whnf))
    | (refine need_intro ?_ ?_; (conv => whnf))
    | (refine wk_refl ?_; (conv => whnf))
    | (refine draw_intro (by kernel_rfl) ?_; (conv => whnf))
    | (refine ord_intro (by kernel_rfl) ?_; (conv => whnf))
  all_goals try simp only [cellsMem, bytesMem, decide_eq_true_eq, decide_eq_false_iff_not, bne_iff_ne, ne_eq, Decidable.not_not, Bool.not_eq_true', Bool.not_eq_false', bne_eq_false_iff_eq] at *
  all_goals first
    | exact h
    | omega
    | exact ⟨by omega, by omega⟩
    | (have h1 := hn (by assumption); omega)
    | (have h1 := hn (by assumption); exact ⟨by omega, by omega⟩)
    | (refine ⟨LeS.of_eq ?_, trivial⟩
       simp only [hasG, *, Bool.true_and, Bool.false_and, Bool.and_false, decide_true, decide_false, Bool.not_true, Bool.not_false]
       done)
    | (refine ⟨LeS.of_eq ?_, trivial⟩
       have h1 : decide (0 ≤ indexG g.mem id 1) = true := decide_eq_true (by omega)
       simp only [hasG, h1, *, Bool.true_and, Bool.false_and, Bool.and_false, Bool.not_true, Bool.not_false]
       done)
    | (refine ⟨LeS.of_eq ?_, trivial⟩
       have h1 : decide (0 ≤ indexG g.mem id 1) = true := decide_eq_true (by omega)
       simp [hasG, h1, *]
       done)
    | (refine ⟨LeS.of_eq ?_, trivial⟩
       have h1 : ¬ 0 ≤ indexG g.mem id 1 := by omega
       simp [hasG, *]
       done)
    | trace_state
theorem commitG_spec (g : GrpT) : GrpB 1000 g → Sx.Spec Tryz.prog GG 57 [.agg (grpL g)] [] (.tup [.agg (grpL (commitG g).1.1), .agg [.d (.str (commitG g).1.2.1), .d (.str (commitG g).1.2.2.1), .d (.bool (commitG g).1.2.2.2)], .d (.int .i64 (commitG g).2)]) [] := by
  intro h
  have hl := h.len
  have hs := owner_small h
  have hm := fun ho => (owner_mem (g := g) ho).1
  refine spec_intro (E := EE) (fn := Tryz.f57) eok (by kernel_rfl) (by kernel_rfl) Tryz.call57 (by kernel_rfl) (by kernel_rfl) ?_
  conv => whnf
  repeat' first
    | (refine call_if (owner_spec g) (by first | exact .inl rfl | exact .inr ⟨rfl, rfl⟩) (need_intro ?_ ?_); (conv => whnf))
    | (refine bc_true (by assumption) ?_; (conv => whnf))
    | (refine bc_false (by assumption) ?_; (conv => whnf))
    | (refine bc_intro (fun _ => ?_) (fun _ => ?_) <;> (conv => whnf))
    | (refine need_intro ?_ ?_; (conv => whnf))
    | (refine wk_refl ?_; (conv => whnf))
    | (refine draw_intro (by kernel_rfl) ?_; (conv => whnf))
    | (refine ord_intro (by kernel_rfl) ?_; (conv => whnf))
  all_goals try simp only [cellsMem, bytesMem, decide_eq_true_eq, decide_eq_false_iff_not, bne_iff_ne, ne_eq, Decidable.not_not, Bool.not_eq_true', Bool.not_eq_false', bne_eq_false_iff_eq] at *
  all_goals try first
    | exact h
    | (have := hm (by assumption)
       simp only [Option.getD_some, Option.getD_none]
       omega)
    | (rw [commit_down (by assumption)]
       exact ⟨LeS.tup (LeL.cons (LeS.agg (LeL.cons (LeS.refl _) (LeL.cons (LeS.refl _) (LeL.cons (les_nil rfl) LeL.nil)))) (LeL.cons (LeS.refl _) (LeL.cons (LeS.refl _) LeL.nil))), trivial⟩)
    | (rw [commit_idle (by assumption) (.inl (by assumption))]
       exact ⟨LeS.tup (LeL.cons (LeS.agg (LeL.cons (LeS.refl _) (LeL.cons (LeS.refl _) (LeL.cons (les_nil rfl) LeL.nil)))) (LeL.cons (LeS.refl _) (LeL.cons (LeS.refl _) LeL.nil))), trivial⟩)
    | (rw [commit_idle (by assumption) (.inr (by simp_all))]
       exact ⟨LeS.tup (LeL.cons (LeS.agg (LeL.cons (LeS.refl _) (LeL.cons (LeS.refl _) (LeL.cons (les_nil rfl) LeL.nil)))) (LeL.cons (LeS.refl _) (LeL.cons (LeS.refl _) LeL.nil))), trivial⟩)
  all_goals
    have ho : (ownerG g).2 = true := by assumption
    have hop : g.opn = true := by assumption
    have hp : ¬ (ownerG g).1.copy.pend.length = 0 := by simp_all
    refine loop_auto [1, 2, 3, 4, 5, 34, 35] [1, 2, 3, 5] (fun i : Nat => [(36, .d (.int .i64 i))]) (fun i => []) (fun i => 1 + i ≤ g.mem.length ∧ anyG g (g.mem.drop 1) = anyG g (g.mem.drop (1 + i))) (fun i => g.mem.length - i) 0 ?_ (fun i hi => ?_) ⟨by have := hm ho; omega, rfl⟩
    · conv => whnf
      repeat' first
        | (refine bc_true (by assumption) ?_; (conv => whnf))
        | (refine bc_false (by assumption) ?_; (conv => whnf))
        | (refine bc_intro (fun _ => ?_) (fun _ => ?_) <;> (conv => whnf))
        | (refine need_intro ?_ ?_; (conv => whnf))
        | (refine wk_refl ?_; (conv => whnf))
        | (refine draw_intro (by kernel_rfl) ?_; (conv => whnf))
        | (refine ord_intro (by kernel_rfl) ?_; (conv => whnf))
      all_goals first | exact trivial | exact DLe.refl _ | trace_state
    · obtain ⟨hi, ha⟩ := hi
      have hst := fun h => any_step (g := g) (ms := g.mem) (i := 1 + i) h
      have hen := fun h => any_end (g := g) (ms := g.mem) (i := 1 + i) h
      have hsi : IntKind.i64.wrap ((i : Int) + 1) = ((i + 1 : Nat) : Int) := wrap_succ (n := 2000) (by omega) (by omega)
      conv => whnf
      repeat' first
        | (refine call_if (hasG_spec g _) (by first | exact .inl rfl | exact .inr ⟨rfl, rfl⟩) (need_intro ?_ ?_); (conv => whnf))
        | (refine call_if (commitp_spec _) (by first | exact .inl rfl | exact .inr ⟨rfl, rfl⟩) (need_intro ?_ ?_); (conv => whnf))
        | (refine call_if (with_spec g _) (by first | exact .inl rfl | exact .inr ⟨rfl, rfl⟩) (need_intro ?_ ?_); (conv => whnf))
        | (refine NextVC.mk (i + 1) ?_ ?_ ?_; (conv => whnf))
        | (refine bc_true (by assumption) ?_; (conv => whnf))
        | (refine bc_false (by assumption) ?_; (conv => whnf))
        | (refine bc_intro (fun _ => ?_) (fun _ => ?_) <;> (conv => whnf))
        | (refine need_intro ?_ ?_; (conv => whnf))
        | (refine wk_refl ?_; (conv => whnf))
        | (refine draw_intro (by kernel_rfl) ?_; (conv => whnf))
        | (refine ord_intro (by kernel_rfl) ?_; (conv => whnf))
      all_goals try simp only [cellsMem, bytesMem, decide_eq_true_eq, decide_eq_false_iff_not, bne_iff_ne, ne_eq, Decidable.not_not, Bool.not_eq_true', Bool.not_eq_false', bne_eq_false_iff_eq] at *
      all_goals try first
        | exact h
        | omega
        | exact trivial
        | exact DLe.refl _
        | exact ⟨h, hm ho⟩
        | exact hs
        | exact DLe.of_eq (by rw [hsi])
        | exact ⟨by omega, by omega⟩
      all_goals try simp only [Option.getD_some, Option.getD_none, Int.toNat_natCast, show Int.toNat 1 = 1 from rfl] at *
      all_goals first
        | (rename_i hlt hu hh
           have hb : anyG g (g.mem.drop 1) = true := by
             rw [ha, hst (by omega), hu, hh]; rfl
           rw [commit_busy ho hop hp hb]
           exact ⟨LeS.tup (LeL.cons (LeS.agg (LeL.cons (LeS.refl _) (LeL.cons (LeS.refl _) (LeL.cons (les_nil rfl) LeL.nil)))) (LeL.cons (LeS.refl _) (LeL.cons (LeS.refl _) LeL.nil))), trivial⟩)
        | (rename_i hlt hu hh
           refine ⟨by omega, ?_⟩
           rw [ha, hst (by omega), hu, hh]
           rfl)
        | (rename_i hlt hu
           refine ⟨by omega, ?_⟩
           rw [ha, hst (by omega), hu]
           rfl)
        | (have hb : anyG g (g.mem.drop 1) = false := by
             rw [ha]; exact hen (by omega)
           rw [commit_fails ho hop hp hb (by assumption)]
           exact ⟨LeS.tup (LeL.cons (LeS.agg (LeL.cons (LeS.refl _) (LeL.cons (LeS.refl _) (LeL.cons (les_nil rfl) LeL.nil)))) (LeL.cons (LeS.refl _) (LeL.cons (LeS.refl _) LeL.nil))), trivial⟩)
        | (have hb : anyG g (g.mem.drop 1) = false := by
             rw [ha]; exact hen (by omega)
           rw [commit_done ho hop hp hb (by assumption)]
           exact ⟨LeS.refl _, trivial⟩)
        | omega
        | exact ⟨by omega, by omega⟩
        | trace_state
def getG (g : GrpT) (k : List UInt8) : List UInt8 × Bool × Int := if (ownerG g).2 = false then ([], false, 14) else if g.opn = false then ([], false, 7) else getC (ownerG g).1.copy k
theorem get_down {g : GrpT} {k : List UInt8} (h : (ownerG g).2 = false) : getG g k = ([], false, 14) := by rw [getG, if_pos h]
theorem get_shut {g : GrpT} {k : List UInt8} (h : (ownerG g).2 = true) (h2 : g.opn = false) : getG g k = ([], false, 7) := by rw [getG, if_neg (by simp [h]), if_pos h2]
theorem getG_ok {g : GrpT} {k : List UInt8} (h : (ownerG g).2 = true) (h2 : g.opn = true) : getG g k = getC (ownerG g).1.copy k := by rw [getG, if_neg (by simp [h]), if_neg (by simp [h2])]

theorem cellsIntG : Tryz.prog.cellsOf 3 = 1 := by kernel_rfl
theorem bytesIntG : Tryz.prog.bytesOf 3 = 8 := by kernel_rfl

theorem viewp_spec (g : GrpT) : GrpB 1000 g → Sx.Spec Tryz.prog GG 119 [.agg (grpL g)] [] (.tup [.agg (viewL (viewG g).1), .d (.int .i64 (viewG g).2)]) [] := by
  intro h
  have hl := h.len
  refine spec_intro (E := EE) (fn := Tryz.f119) eok (by kernel_rfl) (by kernel_rfl) Tryz.call119 (by kernel_rfl) (by kernel_rfl) ?_
  conv => whnf
  repeat' first
    | (refine call_if (owner_spec g) (by first | exact .inl rfl | exact .inr ⟨rfl, rfl⟩) (need_intro ?_ ?_); (conv => whnf))
    | (refine bc_true (by assumption) ?_; (conv => whnf))
    | (refine bc_false (by assumption) ?_; (conv => whnf))
    | (refine bc_intro (fun _ => ?_) (fun _ => ?_) <;> (conv => whnf))
    | (refine need_intro ?_ ?_; (conv => whnf))
    | (refine wk_refl ?_; (conv => whnf))
    | (refine draw_intro (by kernel_rfl) ?_; (conv => whnf))
    | (refine ord_intro (by kernel_rfl) ?_; (conv => whnf))
  all_goals try simp only [cellsMem, bytesMem, decide_eq_true_eq, decide_eq_false_iff_not, bne_iff_ne, ne_eq, Decidable.not_not, Bool.not_eq_true', Bool.not_eq_false', bne_eq_false_iff_eq] at *
  all_goals first
    | exact h
    | exact hl
    | (rw [view_ok (by assumption) (by assumption)]
       exact ⟨LeS.tup (LeL.cons (LeS.refl _) (LeL.cons (LeS.refl _) LeL.nil)), trivial⟩)
    | (rw [view_shut (by assumption) (by assumption)]
       exact ⟨LeS.tup (LeL.cons (LeS.agg (LeL.cons (LeS.refl _) (LeL.cons (LeS.refl _) (LeL.cons (LeS.refl _) (LeL.cons (LeS.refl _) (LeL.cons (LeS.refl _) (LeL.cons (LeS.refl _) (LeL.cons (LeS.refl _) (LeL.cons (les_nil rfl) LeL.nil))))))))) (LeL.cons (LeS.refl _) LeL.nil)), trivial⟩)
    | (rw [view_down (by assumption)]
       exact ⟨LeS.tup (LeL.cons (LeS.agg (LeL.cons (LeS.refl _) (LeL.cons (LeS.refl _) (LeL.cons (LeS.refl _) (LeL.cons (LeS.refl _) (LeL.cons (LeS.refl _) (LeL.cons (LeS.refl _) (LeL.cons (LeS.refl _) (LeL.cons (les_nil rfl) LeL.nil))))))))) (LeL.cons (LeS.refl _) LeL.nil)), trivial⟩)
    | trace_state
theorem getgp_spec (g : GrpT) (k : List UInt8) : GrpB 1000 g → Sx.Spec Tryz.prog GG 117 [.agg (grpL g), .d (.str k)] [] (.tup [.d (.str (getG g k).1), .d (.bool (getG g k).2.1), .d (.int .i64 (getG g k).2.2)]) [] := by
  intro h
  have hl := h.len
  have hs := (owner_small h).1
  refine spec_intro (E := EE) (fn := Tryz.f117) eok (by kernel_rfl) (by kernel_rfl) Tryz.call117 (by kernel_rfl) (by kernel_rfl) ?_
  conv => whnf
  repeat' first
    | (refine call_if (owner_spec g) (by first | exact .inl rfl | exact .inr ⟨rfl, rfl⟩) (need_intro ?_ ?_); (conv => whnf))
    | (refine call_if (getCp_spec _ _) (by first | exact .inl rfl | exact .inr ⟨rfl, rfl⟩) (need_intro ?_ ?_); (conv => whnf))
    | (refine bc_true (by assumption) ?_; (conv => whnf))
    | (refine bc_false (by assumption) ?_; (conv => whnf))
    | (refine bc_intro (fun _ => ?_) (fun _ => ?_) <;> (conv => whnf))
    | (refine need_intro ?_ ?_; (conv => whnf))
    | (refine wk_refl ?_; (conv => whnf))
    | (refine draw_intro (by kernel_rfl) ?_; (conv => whnf))
    | (refine ord_intro (by kernel_rfl) ?_; (conv => whnf))
  all_goals try simp only [cellsMem, bytesMem, decide_eq_true_eq, decide_eq_false_iff_not, bne_iff_ne, ne_eq, Decidable.not_not, Bool.not_eq_true', Bool.not_eq_false', bne_eq_false_iff_eq] at *
  all_goals first
    | exact h
    | exact hl
    | exact hs
    | (rw [getG_ok (by assumption) (by assumption)]
       exact ⟨LeS.refl _, trivial⟩)
    | (rw [get_shut (by assumption) (by assumption)]
       exact ⟨LeS.refl _, trivial⟩)
    | (rw [get_down (by assumption)]
       exact ⟨LeS.refl _, trivial⟩)
    | trace_state
theorem livep_spec0 (g : GrpT) : g.mem.length ≤ 1000 → Sx.Spec Tryz.prog GG 121 [.agg (grpL g)] [] (.d (encL encI 1 (liveL g.mem))) [] := by
  intro hl
  have hll : ∀ i, (liveL (g.mem.take i)).length ≤ 1000 := fun i => by
    refine Nat.le_trans ?_ hl
    unfold liveL
    rw [List.length_map]
    exact Nat.le_trans (List.length_filter_le _ _) (by simp only [List.length_take]; omega)
  refine spec_intro (E := EE) (fn := Tryz.f121) eok (by kernel_rfl) (by kernel_rfl) Tryz.call121 (by kernel_rfl) (by kernel_rfl) ?_
  conv => whnf
  repeat' first
    | (refine bc_true (by assumption) ?_; (conv => whnf))
    | (refine bc_false (by assumption) ?_; (conv => whnf))
    | (refine need_intro ?_ ?_; (conv => whnf))
    | (refine wk_refl ?_; (conv => whnf))
    | (refine draw_intro (by kernel_rfl) ?_; (conv => whnf))
    | (refine ord_intro (by kernel_rfl) ?_; (conv => whnf))
  refine loop_auto [1, 2, 7, 8] [1] (fun i : Nat => [(9, .d (.int .i64 i)), (3, .osl 500 1 0 (liveL (g.mem.take i)).length)]) (fun i => [(500, .row 3 1 (liveL (g.mem.take i)).length (cellOf encI (liveL (g.mem.take i))))]) (fun i => i ≤ g.mem.length) (fun i => g.mem.length - i) 0 ?_ (fun i hi => ?_) (by omega)
  · conv => whnf
    repeat' first
      | (refine bc_true (by assumption) ?_; (conv => whnf))
      | (refine bc_false (by assumption) ?_; (conv => whnf))
      | (refine bc_intro (fun _ => ?_) (fun _ => ?_) <;> (conv => whnf))
      | (refine need_intro ?_ ?_; (conv => whnf))
      | (refine wk_refl ?_; (conv => whnf))
      | (refine draw_intro (by kernel_rfl) ?_; (conv => whnf))
      | (refine ord_intro (by kernel_rfl) ?_; (conv => whnf))
    all_goals first | exact trivial | exact DLe.refl _ | exact DLe.nil | exact RowLe.refl _ _ _ | exact ⟨rfl, rfl⟩ | exact ⟨rfl, rfl, rfl⟩ | trace_state
  · have hs : IntKind.i64.wrap ((i : Int) + 1) = ((i + 1 : Nat) : Int) := wrap_succ (n := 2000) (by omega) (by omega)
    have hli := hll i
    have ht := fun h => live_take (ms := g.mem) (i := i) h
    have ht1 : i < g.mem.length → (g.mem.getD i default).up = true → liveL (g.mem.take (i + 1)) = liveL (g.mem.take i) ++ [(g.mem.getD i default).id] := fun h hu => by rw [ht h, hu]; rfl
    have ht2 : i < g.mem.length → (g.mem.getD i default).up = false → liveL (g.mem.take (i + 1)) = liveL (g.mem.take i) := fun h hu => by rw [ht h, hu]; simp
    conv => whnf
    repeat' first
      | (refine NextVC.mk (i + 1) ?_ ?_ ?_; (conv => whnf))
      | (refine bc_true (by assumption) ?_; (conv => whnf))
      | (refine bc_false (by assumption) ?_; (conv => whnf))
      | (refine bc_intro (fun _ => ?_) (fun _ => ?_) <;> (conv => whnf))
      | (refine need_intro ?_ ?_; (conv => whnf))
      | (refine wk_refl ?_; (conv => whnf))
      | (refine draw_intro (by kernel_rfl) ?_; (conv => whnf))
      | (refine ord_intro (by kernel_rfl) ?_; (conv => whnf))
    all_goals try simp only [cellsMem, bytesMem, decide_eq_true_eq, decide_eq_false_iff_not, bne_iff_ne, ne_eq, Decidable.not_not, Bool.not_eq_true', Bool.not_eq_false', bne_eq_false_iff_eq] at *
    all_goals try simp only [Int.toNat_natCast] at *
    all_goals first
      | exact trivial
      | omega
      | exact DLe.refl _
      | exact DLe.of_eq (by rw [hs])
      | exact ⟨by omega, by omega⟩
      | exact ⟨trivial, by omega, by omega⟩
      | (rw [ht2 (by omega) (by assumption)]; done)
      | (rw [ht2 (by omega) (by assumption)]; exact RowLe.refl _ _ _)
      | exact ⟨trivial, trivial, by rw [ht2 (by omega) (by assumption)]⟩
      | (rw [ht1 (by omega) (by assumption), List.length_append, List.length_singleton]; done)
      | exact ⟨trivial, cellsIntG, by rw [ht1 (by omega) (by assumption), List.length_append, List.length_singleton]⟩
      | exact ⟨cellsIntG, trivial, by rw [ht1 (by omega) (by assumption), List.length_append, List.length_singleton]⟩
      | exact ⟨trivial, by rw [bytesIntG]; omega, by omega⟩
      | (rw [ht1 (by omega) (by assumption), List.length_append, List.length_singleton]
         exact row_snoc rfl (RowLe.refl _ _ _) (jlt1 (DLe.of_eq rfl)))
      | (have e : i = g.mem.length := by omega
         subst e
         refine ⟨?_, trivial⟩
         rw [List.take_length]
         exact les_own rfl)
      | trace_state
theorem row_cutP {ms : List MemT} {p n : Nat} {x y : Int} (hx : x = p) (hy : y = p + 1) (hp : p < ms.length) (hn : n + 1 = ms.length) : RowLe n 32 (fun i j => if 0 + i < (x - 0).toNat then cellOf encMem ms (0 + i) j else cellOf encMem ms (0 + y.toNat + (0 + i - (x - 0).toNat)) j) (cellOf encMem (ms.take p ++ ms.drop (p + 1))) := by
  refine .of_eq fun i j hi _ => ?_
  have e1 : (x - 0).toNat = p := by omega
  have e2 : y.toNat = p + 1 := by omega
  simp only [cellOf, Nat.zero_add, e1, e2]
  rw [getD_cutM hp (by omega)]
  split
  · rfl
  · rw [show p + 1 + (i - p) = i + 1 by omega]
theorem dismp_spec (g : GrpT) (id : Int) : GrpB 1000 g → Sx.Spec Tryz.prog GG 115 [.agg (grpL g), .d (.int .i64 id)] [] (.tup [.agg (grpL (dismissG g id).1), .d (.int .i64 (dismissG g id).2)]) [] := by
  intro h
  have hl := h.len
  have hn := fun hi => index_nat (ms := g.mem) (id := id) (f := 1) hi
  have hw : ¬ indexG g.mem id 1 < 0 → IntKind.i64.wrap (indexG g.mem id 1 + 1) = indexG g.mem id 1 + 1 := fun hi => by
    have := hn hi
    exact wrap_of (by omega) (by omega)
  refine spec_intro (E := EE) (fn := Tryz.f115) eok (by kernel_rfl) (by kernel_rfl) Tryz.call115 (by kernel_rfl) (by kernel_rfl) ?_
  conv => whnf
  repeat' first
    | (refine call_if (owner_spec g) (by first | exact .inl rfl | exact .inr ⟨rfl, rfl⟩) (need_intro ?_ ?_); (conv => whnf))
    | (refine call_if (index_spec g id 1) (by first | exact .inl rfl | exact .inr ⟨rfl, rfl⟩) (need_intro ?_ ?_); (conv => whnf))
    | (refine call_if (cloneG_at 1000 g) (by first | exact .inl rfl | exact .inr ⟨rfl, rfl⟩) (need_intro ?_ ?_); (conv => whnf))
    | (refine bc_true (by assumption) ?_; (conv => whnf))
    | (refine bc_false (by assumption) ?_; (conv => whnf))
    | (refine bc_intro (fun _ => ?_) (fun _ => ?_) <;> (conv => whnf))
    | (refine need_intro ?_ ?_; (conv => whnf))
    | (refine wk_refl ?_; (conv => whnf))
    | (refine draw_intro (by kernel_rfl) ?_; (conv => whnf))
    | (refine ord_intro (by kernel_rfl) ?_; (conv => whnf))
  all_goals try simp only [cellsMem, bytesMem, decide_eq_true_eq, decide_eq_false_iff_not, bne_iff_ne, ne_eq, Decidable.not_not, Bool.not_eq_true', Bool.not_eq_false', bne_eq_false_iff_eq] at *
  all_goals try simp only [Option.getD_some, Option.getD_none] at *
  all_goals first
    | exact h
    | omega
    | exact ⟨by omega, by omega⟩
    | exact ⟨by omega, by omega, by omega⟩
    | (have h1 := hn (by assumption); have h2 := hw (by assumption); omega)
    | (have h1 := hn (by assumption); have h2 := hw (by assumption); exact ⟨by omega, by omega⟩)
    | (have h1 := hn (by assumption); have h2 := hw (by assumption); exact ⟨by omega, by omega, by omega⟩)
    | (simp only [dismissG, *, if_true, if_false, Bool.false_eq_true, Bool.true_eq_false, not_true_eq_false, not_false_eq_true]
       (refine ⟨LeS.tup (LeL.cons (LeS.agg ?_) (LeL.cons (LeS.refl _) LeL.nil)), trivial⟩
        repeat' first
          | exact LeL.nil
          | refine LeL.cons ?_ ?_
        all_goals first
          | exact LeS.refl _
          | exact les_nil rfl
          | exact LeS.d (DLe.rows (by simp) (row_setC' (by omega)))
          | exact LeS.d (DLe.rows (by simp) (row_setU' (by omega))))
       done)
    | (have h1 := hn (by assumption)
       have h2 := hw (by assumption)
       rw [dismiss_ok (by assumption) (by assumption) (by assumption)]
       have hlen : (g.mem.take (indexG g.mem id 1).toNat ++ g.mem.drop ((indexG g.mem id 1).toNat + 1)).length + 1 = g.mem.length := by
         simp only [List.length_append, List.length_take, List.length_drop]; omega
       refine ⟨LeS.tup (LeL.cons (LeS.agg (LeL.cons (LeS.refl _) (LeL.cons (LeS.refl _) (LeL.cons (LeS.d (DLe.rows ?_ ?_)) LeL.nil)))) (LeL.cons (LeS.refl _) LeL.nil)), trivial⟩
       · simp only; omega
       · exact row_cutP (p := (indexG g.mem id 1).toNat) (by omega) (by omega) h1.1 hlen)
    | trace_state
end Go.Proofs.YtegbenagmciegaaGreatDoor
