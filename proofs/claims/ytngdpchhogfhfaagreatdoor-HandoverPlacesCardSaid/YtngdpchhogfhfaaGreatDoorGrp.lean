/- Contracts of functions that the law reaches: YtngdpchhogfhfaaGreatDoorGrp. Written for this claim. -/
import Derived.Test.YtngdpchhogfhfaaGreatDoorSame
import Derived.Test.YtngdpchhogfhfaaGreatDoorSxGrp
namespace Go.Proofs.YtngdpchhogfhfaaGreatDoor
open Go Go.Sx Go.ChangeShapes Go.WideShapes Go.ChangeAt Go.RowKit
set_option linter.unusedVariables false
set_option linter.unusedSimpArgs false
set_option maxRecDepth 100000
theorem index_spec (g : GrpT) (id : Int) (f : Nat) : (f ≤ 1 ∧ g.mem.length ≤ 1000) → Sx.Spec Tryz.prog GG 109 [.agg (grpL g), .d (.int .i64 id), .d (.int .i64 f)] [] (.d (.int .i64 (indexG g.mem id f))) [] := by
  rintro ⟨hf, hl⟩
  refine spec_intro (E := EE) (fn := Tryz.f109) eok (by kernel_rfl) (by kernel_rfl) Tryz.call109 (by kernel_rfl) (by kernel_rfl) ?_
  refine loop_auto [1, 3, 6] [3] (fun i : Nat => [(7, .d (.int .i64 i))]) (fun i => []) (fun i => (f ≤ i ∧ i ≤ 1000) ∧ indexG g.mem id f = indexG g.mem id i) (fun i => 2000 - i) f ?_ (fun i hi => ?_) ⟨⟨by omega, by omega⟩, rfl⟩
  · conv => whnf
    repeat' first
      | (refine bc_true (by assumption) ?_; (conv => whnf))
      | (refine bc_false (by assumption) ?_; (conv => whnf))
      | (refine bc_intro (fun _ => ?_) (fun _ => ?_) <;> (conv => whnf))
      | (refine need_intro ?_ ?_; (conv => whnf))
      | (refine wk_refl ?_; (conv => whnf))
      | (refine draw_intro (by kernel_rfl) ?_; (conv => whnf))
      | (refine ord_intro (by kernel_rfl) ?_; (conv => whnf))
    all_goals first | exact trivial | exact DLe.refl _ | trace_state
  · obtain ⟨⟨h1, h2⟩, h3⟩ := hi
    have hs : IntKind.i64.wrap ((i : Int) + 1) = ((i + 1 : Nat) : Int) := wrap_succ (n := 2000) (by omega) (by omega)
    conv => whnf
    repeat' first
      | (refine NextVC.mk (i + 1) ?_ ?_ ?_; (conv => whnf))
      | (refine bc_true (by assumption) ?_; (conv => whnf))
      | (refine bc_false (by assumption) ?_; (conv => whnf))
      | (refine bc_intro (fun _ => ?_) (fun _ => ?_) <;> (conv => whnf))
      | (refine need_intro ?_ ?_; (conv => whnf))
      | (refine wk_refl ?_; (conv => whnf))
      | (refine draw_intro (by kernel_rfl) ?_; (conv => whnf))
      | (refine ord_intro (by kernel_rfl) ?_; (conv => whnf))
    all_goals try simp only [decide_eq_true_eq, decide_eq_false_iff_not, beq_iff_eq, beq_eq_false_iff_ne, ne_eq, Int.toNat_natCast] at *
    all_goals first
      | exact trivial
      | omega
      | exact DLe.refl _
      | exact DLe.of_eq (by rw [hs])
      | exact ⟨by omega, by omega⟩
      | (refine ⟨⟨by omega, by omega⟩, ?_⟩; rw [h3, index_step (by omega), if_neg (by assumption)])
      | (refine ⟨LeS.of_eq ?_, trivial⟩; rw [h3, index_step (by omega), if_pos (by assumption)]; done)
      | (refine ⟨LeS.of_eq ?_, trivial⟩; rw [h3, index_end (by omega)]; done)
      | trace_state
theorem owner_none {g : GrpT} (h : g.mem.length = 0 ∨ (g.mem.getD 0 default).up = false) : ownerG g = (noMem, false) := by
  unfold ownerG
  split
  · rfl
  · rcases h with h | h
    · contradiction
    · rw [h]; rfl
theorem owner_some {g : GrpT} (h1 : ¬ g.mem.length = 0) (h2 : (g.mem.getD 0 default).up = true) : ownerG g = (g.mem.getD 0 default, true) := by
  unfold ownerG
  rw [if_neg h1, if_pos h2]
theorem owner_spec (g : GrpT) : GrpB 1000 g → Sx.Spec Tryz.prog GG 78 [.agg (grpL g)] [] (.tup [.agg (memL (ownerG g).1), .d (.bool (ownerG g).2)]) [] := by
  intro h
  refine spec_intro (E := EE) (fn := Tryz.f78) eok (by kernel_rfl) (by kernel_rfl) Tryz.call78 (by kernel_rfl) (by kernel_rfl) ?_
  conv => whnf
  repeat' first
    | (refine call_if (cloneC_spec (g.mem.getD 0 default).copy) (by first | exact .inl rfl | exact .inr ⟨rfl, rfl⟩) (need_intro ?_ ?_); (conv => whnf))
    | (refine bc_true (by assumption) ?_; (conv => whnf))
    | (refine bc_false (by assumption) ?_; (conv => whnf))
    | (refine bc_intro (fun _ => ?_) (fun _ => ?_) <;> (conv => whnf))
    | (refine need_intro ?_ ?_; (conv => whnf))
    | (refine wk_refl ?_; (conv => whnf))
    | (refine draw_intro (by kernel_rfl) ?_; (conv => whnf))
    | (refine ord_intro (by kernel_rfl) ?_; (conv => whnf))
  all_goals try simp only [decide_eq_true_eq, decide_eq_false_iff_not, beq_iff_eq, beq_eq_false_iff_ne, ne_eq, Bool.not_eq_true', Bool.not_eq_false', Int.toNat_zero] at *
  all_goals first
    | omega
    | exact mem_small h 0
    | (rw [owner_none (.inl (by omega))]
       (refine ⟨LeS.tup (LeL.cons (LeS.agg ?_) (LeL.cons (LeS.refl _) LeL.nil)), trivial⟩
        repeat' first
          | exact LeL.nil
          | refine LeL.cons ?_ ?_
        all_goals first
          | exact LeS.refl _
          | exact les_own rfl
          | exact les_nil rfl)
       done)
    | (rw [owner_none (.inr (by assumption))]
       (refine ⟨LeS.tup (LeL.cons (LeS.agg ?_) (LeL.cons (LeS.refl _) LeL.nil)), trivial⟩
        repeat' first
          | exact LeL.nil
          | refine LeL.cons ?_ ?_
        all_goals first
          | exact LeS.refl _
          | exact les_own rfl
          | exact les_nil rfl)
       done)
    | (rw [owner_some (by omega) (by assumption)]
       (refine ⟨LeS.tup (LeL.cons (LeS.agg ?_) (LeL.cons (LeS.refl _) LeL.nil)), trivial⟩
        repeat' first
          | exact LeL.nil
          | refine LeL.cons ?_ ?_
        all_goals first
          | exact LeS.refl _
          | exact les_own rfl
          | exact les_nil rfl)
       done)
    | trace_state
theorem cellsMem : Tryz.prog.cellsOf 59 = 32 := by kernel_rfl
theorem bytesMem : Tryz.prog.bytesOf 59 = 368 := by kernel_rfl
theorem cloneM0 (xs : List MemT) : xs.length ≤ 1000000 → Sx.Spec Tryz.prog GG 108 [.d (encL encMem 32 xs)] [] (.osl 1000 32 0 xs.length) [(1000, .row 59 32 xs.length (cellOf encMem xs))] := by
  intro hl
  refine spec_intro (E := EE) (fn := Tryz.f108) eok (by kernel_rfl) (by kernel_rfl) Tryz.call108 (by kernel_rfl) (by kernel_rfl) ?_
  conv => whnf
  repeat' first
    | (refine bc_true (by assumption) ?_; (conv => whnf))
    | (refine bc_false (by assumption) ?_; (conv => whnf))
    | (refine bc_intro (fun _ => ?_) (fun _ => ?_) <;> (conv => whnf))
    | (refine need_intro ?_ ?_; (conv => whnf))
    | (refine wk_refl ?_; (conv => whnf))
    | (refine draw_intro (by kernel_rfl) ?_; (conv => whnf))
    | (refine ord_intro (by kernel_rfl) ?_; (conv => whnf))
  all_goals try simp only [cellsMem, bytesMem, true_and, and_true] at *
  all_goals first
    | exact trivial
    | omega
    | exact DLe.refl _
    | exact RowLe.refl _ _ _
    | exact ⟨by omega, by omega⟩
    | trace_state
theorem cloneM_at (m : Nat) (xs : List MemT) : xs.length ≤ 1000000 → Sx.Spec Tryz.prog GG 108 [.d (encL encMem 32 xs)] [] (.osl m 32 0 xs.length) [(m, .row 59 32 xs.length (cellOf encMem xs))] := fun h => (cloneM0 xs h).new1 m
theorem cloneG0 (g : GrpT) : GrpB 1000 g → Sx.Spec Tryz.prog GG 94 [.agg (grpL g)] [] (.agg [.d (.int .i64 g.num), .d (.bool g.opn), .osl 1000 32 0 g.mem.length]) [(1000, .row 59 32 g.mem.length (cellOf encMem g.mem))] := by
  intro h
  have hl := h.len
  refine spec_intro (E := EE) (fn := Tryz.f94) eok (by kernel_rfl) (by kernel_rfl) Tryz.call94 (by kernel_rfl) (by kernel_rfl) ?_
  conv => whnf
  repeat' first
    | (refine call_if (cloneM_at 1000 g.mem) (by first | exact .inl rfl | exact .inr ⟨rfl, rfl⟩) (need_intro ?_ ?_); (conv => whnf))
    | (refine bc_true (by assumption) ?_; (conv => whnf))
    | (refine bc_false (by assumption) ?_; (conv => whnf))
    | (refine need_intro ?_ ?_; (conv => whnf))
    | (refine wk_refl ?_; (conv => whnf))
    | (refine draw_intro (by kernel_rfl) ?_; (conv => whnf))
    | (refine ord_intro (by kernel_rfl) ?_; (conv => whnf))
  all_goals try first | omega
  refine loop_auto [1, 2, 10] [2] (fun i : Nat => [(11, .d (.int .i64 i))]) (fun i => [(1, .box [.d (.int .i64 g.num), .d (.bool g.opn), .osl 1000 32 0 g.mem.length]), (1000, .row 59 32 g.mem.length (cellOf encMem g.mem))]) (fun i => i ≤ g.mem.length) (fun i => g.mem.length - i) 0 ?_ (fun i hi => ?_) (by omega)
  · conv => whnf
    repeat' first
      | (refine bc_true (by assumption) ?_; (conv => whnf))
      | (refine bc_false (by assumption) ?_; (conv => whnf))
      | (refine bc_intro (fun _ => ?_) (fun _ => ?_) <;> (conv => whnf))
      | (refine need_intro ?_ ?_; (conv => whnf))
      | (refine wk_refl ?_; (conv => whnf))
      | (refine draw_intro (by kernel_rfl) ?_; (conv => whnf))
      | (refine ord_intro (by kernel_rfl) ?_; (conv => whnf))
    all_goals first | exact trivial | exact DLe.refl _ | exact RowLe.refl _ _ _ | exact ⟨rfl, rfl⟩ | exact ⟨rfl, rfl, rfl⟩ | trace_state
  · have hs : IntKind.i64.wrap ((i : Int) + 1) = ((i + 1 : Nat) : Int) := wrap_succ (n := 2000) (by omega) (by omega)
    conv => whnf
    repeat' first
      | (refine call_if (cloneC_spec (g.mem.getD (0 + i) default).copy) (by first | exact .inl rfl | exact .inr ⟨rfl, rfl⟩) (need_intro ?_ ?_); (conv => whnf))
      | (refine NextVC.mk (i + 1) ?_ ?_ ?_; (conv => whnf))
      | (refine bc_true (by assumption) ?_; (conv => whnf))
      | (refine bc_false (by assumption) ?_; (conv => whnf))
      | (refine bc_intro (fun _ => ?_) (fun _ => ?_) <;> (conv => whnf))
      | (refine need_intro ?_ ?_; (conv => whnf))
      | (refine wk_refl ?_; (conv => whnf))
      | (refine draw_intro (by kernel_rfl) ?_; (conv => whnf))
      | (refine ord_intro (by kernel_rfl) ?_; (conv => whnf))
    all_goals try simp only [decide_eq_true_eq, decide_eq_false_iff_not, Int.toNat_natCast] at *
    all_goals first
      | exact trivial
      | omega
      | exact DLe.refl _
      | exact RowLe.refl _ _ _
      | exact mem_small h _
      | exact DLe.of_eq (by rw [hs])
      | exact ⟨by omega, by omega⟩
      | exact ⟨rfl, rfl⟩
      | exact ⟨rfl, rfl, rfl⟩
      | exact ⟨trivial, trivial, trivial⟩
      | exact row_sameC (by omega)
      | trace_state
theorem cloneG_at (m : Nat) (g : GrpT) : GrpB 1000 g → Sx.Spec Tryz.prog GG 94 [.agg (grpL g)] [] (.agg [.d (.int .i64 g.num), .d (.bool g.opn), .osl m 32 0 g.mem.length]) [(m, .row 59 32 g.mem.length (cellOf encMem g.mem))] := fun h => (cloneG0 g h).new1 m
theorem replicate_spec (g : GrpT) (id : Int) : GrpB 1000 g → Sx.Spec Tryz.prog GG 76 [.agg (grpL g), .d (.int .i64 id)] [] (.tup [.agg (grpL (replicateG g id).1), .d (.int .i64 (replicateG g id).2)]) [] := by
  intro h
  have hl := h.len
  have hn := fun hi => index_nat (ms := g.mem) (id := id) (f := 1) hi
  refine spec_intro (E := EE) (fn := Tryz.f76) eok (by kernel_rfl) (by kernel_rfl) Tryz.call76 (by kernel_rfl) (by kernel_rfl) ?_
  conv => whnf
  repeat' first
    | (refine call_if (owner_spec g) (by first | exact .inl rfl | exact .inr ⟨rfl, rfl⟩) (need_intro ?_ ?_); (conv => whnf))
    | (refine call_if (index_spec g id 1) (by first | exact .inl rfl | exact .inr ⟨rfl, rfl⟩) (need_intro ?_ ?_); (conv => whnf))
    | (refine call_if (cloneG_at 1000 g) (by first | exact .inl rfl | exact .inr ⟨rfl, rfl⟩) (need_intro ?_ ?_); (conv => whnf))
    | (refine bc_true (by assumption) ?_; (conv => whnf))
    | (refine bc_false (by assumption) ?_; (conv => whnf))
    | (refine bc_intro (fun _ => ?_) (fun _ => ?_) <;> (conv => whnf))
    | (refine need_intro ?_ ?_; (conv => whnf))
    | (refine wk_refl ?_; (conv => whnf))
    | (refine draw_intro (by kernel_rfl) ?_; (conv => whnf))
    | (refine ord_intro (by kernel_rfl) ?_; (conv => whnf))
  all_goals try simp only [cellsMem, bytesMem, decide_eq_true_eq, decide_eq_false_iff_not, bne_iff_ne, ne_eq, Decidable.not_not, Bool.not_eq_true', Bool.not_eq_false', bne_eq_false_iff_eq] at *
  all_goals first
    | exact h
    | omega
    | exact ⟨by omega, by omega⟩
    | (have h1 := hn (by assumption); omega)
    | (have h1 := hn (by assumption); exact ⟨by omega, by omega⟩)
    | (simp only [replicateG, *, if_true, if_false, Bool.false_eq_true, Bool.true_eq_false, not_true_eq_false, not_false_eq_true]
       (refine ⟨LeS.tup (LeL.cons (LeS.agg ?_) (LeL.cons (LeS.refl _) LeL.nil)), trivial⟩
        repeat' first
          | exact LeL.nil
          | refine LeL.cons ?_ ?_
        all_goals first
          | exact LeS.refl _
          | exact les_nil rfl
          | exact LeS.d (DLe.rows (by simp) (row_setC' (by omega)))
          | exact LeS.d (DLe.rows (by simp) (row_setU' (by omega))))
       done)
    | (have h1 := hn (by assumption)
       rw [replicate_ok (by assumption) (by assumption) (by assumption)]
       (refine ⟨LeS.tup (LeL.cons (LeS.agg ?_) (LeL.cons (LeS.refl _) LeL.nil)), trivial⟩
        repeat' first
          | exact LeL.nil
          | refine LeL.cons ?_ ?_
        all_goals first
          | exact LeS.refl _
          | exact les_nil rfl
          | exact LeS.d (DLe.rows (by simp) (row_setC' (by omega)))
          | exact LeS.d (DLe.rows (by simp) (row_setU' (by omega))))
       done)
    | (have h1 := hn (by assumption)
       simp only [replicateG, *, if_true, if_false, Bool.false_eq_true, Bool.true_eq_false, not_true_eq_false, not_false_eq_true]
       (refine ⟨LeS.tup (LeL.cons (LeS.agg ?_) (LeL.cons (LeS.refl _) LeL.nil)), trivial⟩
        repeat' first
          | exact LeL.nil
          | refine LeL.cons ?_ ?_
        all_goals first
          | exact LeS.refl _
          | exact les_nil rfl
          | exact LeS.d (DLe.rows (by simp) (row_setC' (by omega)))
          | exact LeS.d (DLe.rows (by simp) (row_setU' (by omega))))
       done)
    | trace_state
theorem cellsIntG : Tryz.prog.cellsOf 3 = 1 := by kernel_rfl
theorem bytesIntG : Tryz.prog.bytesOf 3 = 8 := by kernel_rfl
end Go.Proofs.YtngdpchhogfhfaaGreatDoor
