/- Contracts of functions that the law reaches: YtegbenagmciegaaDoorGrp. Written for this claim. -/
import Derived.Test.YtegbenagmciegaaDoorSame
import Derived.Test.YtegbenagmciegaaDoorSxGrp
namespace Go.Proofs.YtegbenagmciegaaDoor
open Go Go.Sx Go.ChangeShapes Go.WideShapes Go.ChangeAt Go.RowKit
set_option linter.unusedVariables false
set_option linter.unusedSimpArgs false
set_option maxRecDepth 100000

theorem index_spec (g : GrpT) (id : Int) (f : Nat) : (f ≤ 1 ∧ g.mem.length ≤ 1000) → Sx.Spec Tryd.prog GG 38 [.agg (grpL g), .d (.int .i64 id), .d (.int .i64 f)] [] (.d (.int .i64 (indexG g.mem id f))) [] := by
  rintro ⟨hf, hl⟩
  refine spec_intro (E := EE) (fn := Tryd.f38) eok (by kernel_rfl) (by kernel_rfl) Tryd.call38 (by kernel_rfl) (by kernel_rfl) ?_
  refine loop_auto [1, 3, 6] [3] (fun i : Nat => [(7, .d (.int .i64 i))]) (fun i => []) (fun i => (f ≤ i ∧ i ≤ 1000) ∧ indexG g.mem id f = indexG g.mem id i) (fun i => 2000 - i) f ?_ (fun i hi => ?_) ⟨⟨by omega, by omega⟩, rfl⟩
  · conv => whnf
    repeat' first
      | (refine bc_true (by assumption) ?_; (conv => whnf))
      | (refine bc_false (by assumption) ?_; (conv => whnf))
      | (refine bc_intro (fun _ => ?_) (fun _ => ?_) <;> (conv => whnf))
      | (refine need_intro ?_ ?_; (conv => whnf))
      | (refine wk_refl ?_; (conv => whnf))
      | (refine draw_intro (by kernel_rfl) ?_; (conv => whnf))
      | (refine ord_intro (by kernel_rfl) ?_; (conv => whnf))
    all_goals first | exact trivial | exact DLe.refl _ | trace_state
  · obtain ⟨⟨h1, h2⟩, h3⟩ := hi
    have hs : IntKind.i64.wrap ((i : Int) + 1) = ((i + 1 : Nat) : Int) := wrap_succ (n := 2000) (by omega) (by omega)
    conv => whnf
    repeat' first
      | (refine NextVC.mk (i + 1) ?_ ?_ ?_; (conv => whnf))
      | (refine bc_true (by assumption) ?_; (conv => whnf))
      | (refine bc_false (by assumption) ?_; (conv => whnf))
      | (refine bc_intro (fun _ => ?_) (fun _ => ?_) <;> (conv => whnf))
      | (refine need_intro ?_ ?_; (conv => whnf))
      | (refine wk_refl ?_; (conv => whnf))
      | (refine draw_intro (by kernel_rfl) ?_; (conv => whnf))
      | (refine ord_intro (by kernel_rfl) ?_; (conv => whnf))
    all_goals try simp only [decide_eq_true_eq, decide_eq_false_iff_not, beq_iff_eq, beq_eq_false_iff_ne, ne_eq, Int.toNat_natCast] at *
    all_goals first
      | exact trivial
      | omega
      | exact DLe.refl _
      | exact DLe.of_eq (by rw [hs])
      | exact ⟨by omega, by omega⟩
      | (refine ⟨⟨by omega, by omega⟩, ?_⟩; rw [h3, index_step (by omega), if_neg (by assumption)])
      | (refine ⟨LeS.of_eq ?_, trivial⟩; rw [h3, index_step (by omega), if_pos (by assumption)]; done)
      | (refine ⟨LeS.of_eq ?_, trivial⟩; rw [h3, index_end (by omega)]; done)
      | trace_state
theorem owner_none {g : GrpT} (h : g.mem.length = 0 ∨ (g.mem.getD 0 default).up = false) : ownerG g = (noMem, false) := by
  unfold ownerG
  split
  · rfl
  · rcases h with h | h
    · contradiction
    · rw [h]; rfl
theorem owner_some {g : GrpT} (h1 : ¬ g.mem.length = 0) (h2 : (g.mem.getD 0 default).up = true) : ownerG g = (g.mem.getD 0 default, true) := by
  unfold ownerG
  rw [if_neg h1, if_pos h2]
theorem owner_spec (g : GrpT) : GrpB 1000 g → Sx.Spec Tryd.prog GG 32 [.agg (grpL g)] [] (.tup [.agg (memL (ownerG g).1), .d (.bool (ownerG g).2)]) [] := by
  intro h
  refine spec_intro (E := EE) (fn := Tryd.f32) eok (by kernel_rfl) (by kernel_rfl) Tryd.call32 (by kernel_rfl) (by kernel_rfl) ?_
  conv => whnf
  repeat' first
    | (refine call_if (cloneC_spec (g.mem.getD 0 default).copy) (by first | exact .inl rfl | exact .inr ⟨rfl, rfl⟩) (need_intro ?_ ?_); (conv => whnf))
    | (refine bc_true (by assumption) ?_; (conv => whnf))
    | (refine bc_false (by assumption) ?_; (conv => whnf))
    | (refine bc_intro (fun _ => ?_) (fun _ => ?_) <;> (conv => whnf))
    | (refine need_intro ?_ ?_; (conv => whnf))
    | (refine wk_refl ?_; (conv => whnf))
    | (refine draw_intro (by kernel_rfl) ?_; (conv => whnf))
    | (refine ord_intro (by kernel_rfl) ?_; (conv => whnf))
  all_goals try simp only [decide_eq_true_eq, decide_eq_false_iff_not, beq_iff_eq, beq_eq_false_iff_ne, ne_eq, Bool.not_eq_true', Bool.not_eq_false', Int.toNat_zero] at *
  all_goals first
    | omega
    | exact mem_small h 0
    | (rw [owner_none (.inl (by omega))]
       (refine ⟨LeS.tup (LeL.cons (LeS.agg ?_) (LeL.cons (LeS.refl _) LeL.nil)), trivial⟩
        repeat' first
          | exact LeL.nil
          | refine LeL.cons ?_ ?_
        all_goals first
          | exact LeS.refl _
          | exact les_own rfl
          | exact les_nil rfl)
       done)
    | (rw [owner_none (.inr (by assumption))]
       (refine ⟨LeS.tup (LeL.cons (LeS.agg ?_) (LeL.cons (LeS.refl _) LeL.nil)), trivial⟩
        repeat' first
          | exact LeL.nil
          | refine LeL.cons ?_ ?_
        all_goals first
          | exact LeS.refl _
          | exact les_own rfl
          | exact les_nil rfl)
       done)
    | (rw [owner_some (by omega) (by assumption)]
       (refine ⟨LeS.tup (LeL.cons (LeS.agg ?_) (LeL.cons (LeS.refl _) LeL.nil)), trivial⟩
        repeat' first
          | exact LeL.nil
          | refine LeL.cons ?_ ?_
        all_goals first
          | exact LeS.refl _
          | exact les_own rfl
          | exact les_nil rfl)
       done)
    | trace_state
theorem cellsMem : Tryd.prog.cellsOf 43 = 32 := by kernel_rfl
theorem bytesMem : Tryd.prog.bytesOf 43 = 368 := by kernel_rfl
theorem cloneM0 (xs : List MemT) : xs.length ≤ 1000000 → Sx.Spec Tryd.prog GG 63 [.d (encL encMem 32 xs)] [] (.osl 1000 32 0 xs.length) [(1000, .row 43 32 xs.length (cellOf encMem xs))] := by
  intro hl
  refine spec_intro (E := EE) (fn := Tryd.f63) eok (by kernel_rfl) (by kernel_rfl) Tryd.call63 (by kernel_rfl) (by kernel_rfl) ?_
  conv => whnf
  repeat' first
    | (refine bc_true (by assumption) ?_; (conv => whnf))
    | (refine bc_false (by assumption) ?_; (conv => whnf))
    | (refine bc_intro (fun _ => ?_) (fun _ => ?_) <;> (conv => whnf))
    | (refine need_intro ?_ ?_; (conv => whnf))
    | (refine wk_refl ?_; (conv => whnf))
    | (refine draw_intro (by kernel_rfl) ?_; (conv => whnf))
    | (refine ord_intro (by kernel_rfl) ?_; (conv => whnf))
  all_goals try simp only [cellsMem, bytesMem, true_and, and_true] at *
  all_goals first
    | exact trivial
    | omega
    | exact DLe.refl _
    | exact RowLe.refl _ _ _
    | exact ⟨by omega, by omega⟩
    | trace_state
theorem cloneM_at (m : Nat) (xs : List MemT) : xs.length ≤ 1000000 → Sx.Spec Tryd.prog GG 63 [.d (encL encMem 32 xs)] [] (.osl m 32 0 xs.length) [(m, .row 43 32 xs.length (cellOf encMem xs))] := fun h => (cloneM0 xs h).new1 m
theorem cloneG0 (g : GrpT) : GrpB 1000 g → Sx.Spec Tryd.prog GG 39 [.agg (grpL g)] [] (.agg [.d (.int .i64 g.num), .d (.bool g.opn), .osl 1000 32 0 g.mem.length]) [(1000, .row 43 32 g.mem.length (cellOf encMem g.mem))] := by
  intro h
  have hl := h.len
  refine spec_intro (E := EE) (fn := Tryd.f39) eok (by kernel_rfl) (by kernel_rfl) Tryd.call39 (by kernel_rfl) (by kernel_rfl) ?_
  conv => whnf
  repeat' first
    | (refine call_if (cloneM_at 1000 g.mem) (by first | exact .inl rfl | exact .inr ⟨rfl, rfl⟩) (need_intro ?_ ?_); (conv => whnf))
    | (refine bc_true (by assumption) ?_; (conv => whnf))
    | (refine bc_false (by assumption) ?_; (conv => whnf))
    | (refine need_intro ?_ ?_; (conv => whnf))
    | (refine wk_refl ?_; (conv => whnf))
    | (refine draw_intro (by kernel_rfl) ?_; (conv => whnf))
    | (refine ord_intro (by kernel_rfl) ?_; (conv => whnf))
  all_goals try first | omega
  refine loop_auto [1, 2, 10] [2] (fun i : Nat => [(11, .d (.int .i64 i))]) (fun i => [(1, .box [.d (.int .i64 g.num), .d (.bool g.opn), .osl 1000 32 0 g.mem.length]), (1000, .row 43 32 g.mem.length (cellOf encMem g.mem))]) (fun i => i ≤ g.mem.length) (fun i => g.mem.length - i) 0 ?_ (fun i hi => ?_) (by omega)
  · conv => whnf
    repeat' first
      | (refine bc_true (by assumption) ?_; (conv => whnf))
      | (refine bc_false (by assumption) ?_; (conv => whnf))
      | (refine bc_intro (fun _ => ?_) (fun _ => ?_) <;> (conv => whnf))
      | (refine need_intro ?_ ?_; (conv => whnf))
      | (refine wk_refl ?_; (conv => whnf))
      | (refine draw_intro (by kernel_rfl) ?_; (conv => whnf))
      | (refine ord_intro (by kernel_rfl) ?_; (conv => whnf))
    all_goals first | exact trivial | exact DLe.refl _ | exact RowLe.refl _ _ _ | exact ⟨rfl, rfl⟩ | exact ⟨rfl, rfl, rfl⟩ | trace_state
  · have hs : IntKind.i64.wrap ((i : Int) + 1) = ((i + 1 : Nat) : Int) := wrap_succ (n := 2000) (by omega) (by omega)
    conv => whnf
    repeat' first
      | (refine call_if (cloneC_spec (g.mem.getD (0 + i) default).copy) (by first | exact .inl rfl | exact .inr ⟨rfl, rfl⟩) (need_intro ?_ ?_); (conv => whnf))
      | (refine NextVC.mk (i + 1) ?_ ?_ ?_; (conv => whnf))
      | (refine bc_true (by assumption) ?_; (conv => whnf))
      | (refine bc_false (by assumption) ?_; (conv => whnf))
      | (refine bc_intro (fun _ => ?_) (fun _ => ?_) <;> (conv => whnf))
      | (refine need_intro ?_ ?_; (conv => whnf))
      | (refine wk_refl ?_; (conv => whnf))
      | (refine draw_intro (by kernel_rfl) ?_; (conv => whnf))
      | (refine ord_intro (by kernel_rfl) ?_; (conv => whnf))
    all_goals try simp only [decide_eq_true_eq, decide_eq_false_iff_not, Int.toNat_natCast] at *
    all_goals first
      | exact trivial
      | omega
      | exact DLe.refl _
      | exact RowLe.refl _ _ _
      | exact mem_small h _
      | exact DLe.of_eq (by rw [hs])
      | exact ⟨by omega, by omega⟩
      | exact ⟨rfl, rfl⟩
      | exact ⟨rfl, rfl, rfl⟩
      | exact ⟨trivial, trivial, trivial⟩
      | exact row_sameC (by omega)
      | trace_state
theorem cloneG_at (m : Nat) (g : GrpT) : GrpB 1000 g → Sx.Spec Tryd.prog GG 39 [.agg (grpL g)] [] (.agg [.d (.int .i64 g.num), .d (.bool g.opn), .osl m 32 0 g.mem.length]) [(m, .row 43 32 g.mem.length (cellOf encMem g.mem))] := fun h => (cloneG0 g h).new1 m
theorem with_spec (g : GrpT) (c : CopyT) : (GrpB 1000 g ∧ g.mem.length ≠ 0) → Sx.Spec Tryd.prog GG 34 [.agg (grpL g), .agg (copyL c)] [] (.agg (grpL (withG g c))) [] := by
  rintro ⟨h, h0⟩
  refine spec_intro (E := EE) (fn := Tryd.f34) eok (by kernel_rfl) (by kernel_rfl) Tryd.call34 (by kernel_rfl) (by kernel_rfl) ?_
  conv => whnf
  repeat' first
    | (refine call_if (cloneG_at 1000 g) (by first | exact .inl rfl | exact .inr ⟨rfl, rfl⟩) (need_intro ?_ ?_); (conv => whnf))
    | (refine bc_true (by assumption) ?_; (conv => whnf))
    | (refine bc_false (by assumption) ?_; (conv => whnf))
    | (refine bc_intro (fun _ => ?_) (fun _ => ?_) <;> (conv => whnf))
    | (refine need_intro ?_ ?_; (conv => whnf))
    | (refine wk_refl ?_; (conv => whnf))
    | (refine draw_intro (by kernel_rfl) ?_; (conv => whnf))
    | (refine ord_intro (by kernel_rfl) ?_; (conv => whnf))
  all_goals first
    | exact h
    | omega
    | exact ⟨by omega, by omega⟩
    | (refine ⟨LeS.agg (LeL.cons (LeS.refl _) (LeL.cons (LeS.refl _) (LeL.cons (LeS.d (DLe.rows ?_ ?_)) LeL.nil))), trivial⟩
       · simp [withG]
       · dsimp only
         exact row_setC' (p := 0) (by omega))
    | (simp; omega)
    | trace_state
theorem propose_spec (g : GrpT) (w : Wr) : GrpB 1000 g → Sx.Spec Tryd.prog GG 10 [.agg (grpL g), .agg [.d (.str w.1), .d (.str w.2.1), .d (.bool w.2.2)]] [] (.tup [.agg (grpL (proposeG g w).1), .d (.int .i64 (proposeG g w).2)]) [] := by
  intro h
  have hs := owner_small h
  have hm := fun ho => (owner_mem (g := g) ho).1
  refine spec_intro (E := EE) (fn := Tryd.f10) eok (by kernel_rfl) (by kernel_rfl) Tryd.call10 (by kernel_rfl) (by kernel_rfl) ?_
  conv => whnf
  repeat' first
    | (refine call_if (owner_spec g) (by first | exact .inl rfl | exact .inr ⟨rfl, rfl⟩) (need_intro ?_ ?_); (conv => whnf))
    | (refine call_if (appendp_spec _ _ _ _) (by first | exact .inl rfl | exact .inr ⟨rfl, rfl⟩) (need_intro ?_ ?_); (conv => whnf))
    | (refine call_if (with_spec g _) (by first | exact .inl rfl | exact .inr ⟨rfl, rfl⟩) (need_intro ?_ ?_); (conv => whnf))
    | (refine bc_true (by assumption) ?_; (conv => whnf))
    | (refine bc_false (by assumption) ?_; (conv => whnf))
    | (refine bc_intro (fun _ => ?_) (fun _ => ?_) <;> (conv => whnf))
    | (refine need_intro ?_ ?_; (conv => whnf))
    | (refine wk_refl ?_; (conv => whnf))
    | (refine draw_intro (by kernel_rfl) ?_; (conv => whnf))
    | (refine ord_intro (by kernel_rfl) ?_; (conv => whnf))
  all_goals try simp only [cellsMem, bytesMem, decide_eq_true_eq, decide_eq_false_iff_not, bne_iff_ne, ne_eq, Decidable.not_not, Bool.not_eq_true', Bool.not_eq_false', bne_eq_false_iff_eq] at *
  all_goals first
    | exact h
    | exact hs
    | exact ⟨h, hm (by assumption)⟩
    | (simp only [proposeG, *, if_true, if_false, Bool.false_eq_true, Bool.true_eq_false, not_true_eq_false, not_false_eq_true]
       (refine ⟨LeS.tup (LeL.cons (LeS.agg ?_) (LeL.cons (LeS.refl _) LeL.nil)), trivial⟩
        repeat' first
          | exact LeL.nil
          | refine LeL.cons ?_ ?_
        all_goals first
          | exact LeS.refl _
          | exact les_nil rfl
          | exact LeS.d (DLe.rows (by simp) (row_setC' (by omega)))
          | exact LeS.d (DLe.rows (by simp) (row_setU' (by omega))))
       done)
    | trace_state
theorem replicate_spec (g : GrpT) (id : Int) : GrpB 1000 g → Sx.Spec Tryd.prog GG 12 [.agg (grpL g), .d (.int .i64 id)] [] (.tup [.agg (grpL (replicateG g id).1), .d (.int .i64 (replicateG g id).2)]) [] := by
  intro h
  have hl := h.len
  have hn := fun hi => index_nat (ms := g.mem) (id := id) (f := 1) hi
  refine spec_intro (E := EE) (fn := Tryd.f12) eok (by kernel_rfl) (by kernel_rfl) Tryd.call12 (by kernel_rfl) (by kernel_rfl) ?_
  conv => whnf
  repeat' first
    | (refine call_if (owner_spec g) (by first | exact .inl rfl | exact .inr ⟨rfl, rfl⟩) (need_intro ?_ ?_); (conv => whnf))
    | (refine call_if (index_spec g id 1) (by first | exact .inl rfl | exact .inr ⟨rfl, rfl⟩) (need_intro ?_ ?_); (conv => whnf))
    | (refine call_if (cloneG_at 1000 g) (by first | exact .inl rfl | exact .inr ⟨rfl, rfl⟩) (need_intro ?_ ?_); (conv => whnf))
    | (refine bc_true (by assumption) ?_; (conv => whnf))
    | (refine bc_false (by assumption) ?_; (conv => whnf))
    | (refine bc_intro (fun _ => ?_) (fun _ => ?_) <;> (conv => whnf))
    | (refine need_intro ?_ ?_; (conv => whnf))
    | (refine wk_refl ?_; (conv => whnf))
    | (refine draw_intro (by kernel_rfl) ?_; (conv => whnf))
    | (refine ord_intro (by kernel_rfl) ?_; (conv => whnf))
  all_goals try simp only [cellsMem, bytesMem, decide_eq_true_eq, decide_eq_false_iff_not, bne_iff_ne, ne_eq, Decidable.not_not, Bool.not_eq_true', Bool.not_eq_false', bne_eq_false_iff_eq] at *
  all_goals first
    | exact h
    | omega
    | exact ⟨by omega, by omega⟩
    | (have h1 := hn (by assumption); omega)
    | (have h1 := hn (by assumption); exact ⟨by omega, by omega⟩)
    | (simp only [replicateG, *, if_true, if_false, Bool.false_eq_true, Bool.true_eq_false, not_true_eq_false, not_false_eq_true]
       (refine ⟨LeS.tup (LeL.cons (LeS.agg ?_) (LeL.cons (LeS.refl _) LeL.nil)), trivial⟩
        repeat' first
          | exact LeL.nil
          | refine LeL.cons ?_ ?_
        all_goals first
          | exact LeS.refl _
          | exact les_nil rfl
          | exact LeS.d (DLe.rows (by simp) (row_setC' (by omega)))
          | exact LeS.d (DLe.rows (by simp) (row_setU' (by omega))))
       done)
    | (have h1 := hn (by assumption)
       rw [replicate_ok (by assumption) (by assumption) (by assumption)]
       (refine ⟨LeS.tup (LeL.cons (LeS.agg ?_) (LeL.cons (LeS.refl _) LeL.nil)), trivial⟩
        repeat' first
          | exact LeL.nil
          | refine LeL.cons ?_ ?_
        all_goals first
          | exact LeS.refl _
          | exact les_nil rfl
          | exact LeS.d (DLe.rows (by simp) (row_setC' (by omega)))
          | exact LeS.d (DLe.rows (by simp) (row_setU' (by omega))))
       done)
    | (have h1 := hn (by assumption)
       simp only [replicateG, *, if_true, if_false, Bool.false_eq_true, Bool.true_eq_false, not_true_eq_false, not_false_eq_true]
       (refine ⟨LeS.tup (LeL.cons (LeS.agg ?_) (LeL.cons (LeS.refl _) LeL.nil)), trivial⟩
        repeat' first
          | exact LeL.nil
          | refine LeL.cons ?_ ?_
        all_goals first
          | exact LeS.refl _
          | exact les_nil rfl
          | exact LeS.d (DLe.rows (by simp) (row_setC' (by omega)))
          | exact LeS.d (DLe.rows (by simp) (row_setU' (by omega))))
       done)
    | trace_state
theorem crash_spec (g : GrpT) (id : Int) : GrpB 1000 g → Sx.Spec Tryd.prog GG 15 [.agg (grpL g), .d (.int .i64 id)] [] (.tup [.agg (grpL (crashG g id).1), .d (.int .i64 (crashG g id).2)]) [] := by
  intro h
  have hl := h.len
  have hn := fun hi => index_nat (ms := g.mem) (id := id) (f := 0) hi
  refine spec_intro (E := EE) (fn := Tryd.f15) eok (by kernel_rfl) (by kernel_rfl) Tryd.call15 (by kernel_rfl) (by kernel_rfl) ?_
  conv => whnf
  repeat' first
    | (refine call_if (index_spec g id 0) (by first | exact .inl rfl | exact .inr ⟨rfl, rfl⟩) (need_intro ?_ ?_); (conv => whnf))
    | (refine call_if (cloneG_at 1000 g) (by first | exact .inl rfl | exact .inr ⟨rfl, rfl⟩) (need_intro ?_ ?_); (conv => whnf))
    | (refine bc_true (by assumption) ?_; (conv => whnf))
    | (refine bc_false (by assumption) ?_; (conv => whnf))
    | (refine bc_intro (fun _ => ?_) (fun _ => ?_) <;> (conv => whnf))
    | (refine need_intro ?_ ?_; (conv => whnf))
    | (refine wk_refl ?_; (conv => whnf))
    | (refine draw_intro (by kernel_rfl) ?_; (conv => whnf))
    | (refine ord_intro (by kernel_rfl) ?_; (conv => whnf))
  all_goals try simp only [cellsMem, bytesMem, decide_eq_true_eq, decide_eq_false_iff_not, bne_iff_ne, ne_eq, Decidable.not_not, Bool.not_eq_true', Bool.not_eq_false', bne_eq_false_iff_eq] at *
  all_goals first
    | exact h
    | omega
    | exact ⟨by omega, by omega⟩
    | (have h1 := hn (by assumption); omega)
    | (have h1 := hn (by assumption); exact ⟨by omega, by omega⟩)
    | (simp only [crashG, *, if_true, if_false, Bool.false_eq_true, Bool.true_eq_false, not_true_eq_false, not_false_eq_true]
       (refine ⟨LeS.tup (LeL.cons (LeS.agg ?_) (LeL.cons (LeS.refl _) LeL.nil)), trivial⟩
        repeat' first
          | exact LeL.nil
          | refine LeL.cons ?_ ?_
        all_goals first
          | exact LeS.refl _
          | exact les_nil rfl
          | exact LeS.d (DLe.rows (by simp) (row_setC' (by omega)))
          | exact LeS.d (DLe.rows (by simp) (row_setU' (by omega))))
       done)
    | (have h1 := hn (by assumption)
       simp only [crashG, *, if_true, if_false, Bool.false_eq_true, Bool.true_eq_false, not_true_eq_false, not_false_eq_true]
       (refine ⟨LeS.tup (LeL.cons (LeS.agg ?_) (LeL.cons (LeS.refl _) LeL.nil)), trivial⟩
        repeat' first
          | exact LeL.nil
          | refine LeL.cons ?_ ?_
        all_goals first
          | exact LeS.refl _
          | exact les_nil rfl
          | exact LeS.d (DLe.rows (by simp) (row_setC' (by omega)))
          | exact LeS.d (DLe.rows (by simp) (row_setU' (by omega))))
       done)
    | trace_state
theorem recruit_spec (g : GrpT) (id : Int) : GrpB 1000 g → Sx.Spec Tryd.prog GG 16 [.agg (grpL g), .d (.int .i64 id)] [] (.tup [.agg (grpL (recruitG g id).1), .d (.int .i64 (recruitG g id).2)]) [] := by
  intro h
  have hl := h.len
  refine spec_intro (E := EE) (fn := Tryd.f16) eok (by kernel_rfl) (by kernel_rfl) Tryd.call16 (by kernel_rfl) (by kernel_rfl) ?_
  conv => whnf
  repeat' first
    | (refine call_if (owner_spec g) (by first | exact .inl rfl | exact .inr ⟨rfl, rfl⟩) (need_intro ?_ ?_); (conv => whnf))
    | (refine call_intro (numberedp_spec _) ?_ (by first | exact .inl rfl | exact .inr ⟨rfl, rfl⟩); (conv => whnf))
    | (refine call_if (index_spec g id 0) (by first | exact .inl rfl | exact .inr ⟨rfl, rfl⟩) (need_intro ?_ ?_); (conv => whnf))
    | (refine call_if (cloneG_at 1000 g) (by first | exact .inl rfl | exact .inr ⟨rfl, rfl⟩) (need_intro ?_ ?_); (conv => whnf))
    | (refine bc_true (by assumption) ?_; (conv => whnf))
    | (refine bc_false (by assumption) ?_; (conv => whnf))
    | (refine bc_intro (fun _ => ?_) (fun _ => ?_) <;> (conv => whnf))
    | (refine need_intro ?_ ?_; (conv => whnf))
    | (refine wk_refl ?_; (conv => whnf))
    | (refine draw_intro (by kernel_rfl) ?_; (conv => whnf))
    | (refine ord_intro (by kernel_rfl) ?_; (conv => whnf))
  all_goals try simp only [cellsMem, bytesMem, decide_eq_true_eq, decide_eq_false_iff_not, bne_iff_ne, ne_eq, Decidable.not_not, Bool.not_eq_true', Bool.not_eq_false', bne_eq_false_iff_eq] at *
  all_goals first
    | exact h
    | omega
    | exact ⟨by omega, by omega⟩
    | exact ⟨trivial, by omega, by omega⟩
    | (simp only [recruitG, *, if_true, if_false, Bool.false_eq_true, Bool.true_eq_false, not_true_eq_false, not_false_eq_true]
       (refine ⟨LeS.tup (LeL.cons (LeS.agg ?_) (LeL.cons (LeS.refl _) LeL.nil)), trivial⟩
        repeat' first
          | exact LeL.nil
          | refine LeL.cons ?_ ?_
        all_goals first
          | exact LeS.refl _
          | exact les_nil rfl
          | exact LeS.d (DLe.rows (by simp) (row_setC' (by omega)))
          | exact LeS.d (DLe.rows (by simp) (row_setU' (by omega))))
       done)
    | skip
  all_goals
    rw [recruit_ok (by assumption) (by assumption) (by assumption) (by assumption) (by assumption)]
    refine ⟨LeS.tup (LeL.cons (LeS.agg (LeL.cons (LeS.refl _) (LeL.cons (LeS.refl _) (LeL.cons (LeS.d (DLe.rows (by simp) ?_)) LeL.nil)))) (LeL.cons (LeS.refl _) LeL.nil)), trivial⟩
    refine rowL_snoc (ms := g.mem) (x := ⟨id, true, (ownerG g).1.copy⟩) (AllLt.out ?_)
    repeat' first | exact trivial | exact DLe.refl _ | apply And.intro
theorem hasG_spec (g : GrpT) (id : Int) : GrpB 1000 g → Sx.Spec Tryd.prog GG 41 [.agg (grpL g), .d (.int .i64 id)] [] (.d (.bool (hasG g id))) [] := by
  intro h
  have hl := h.len
  have hn := fun hi => index_nat (ms := g.mem) (id := id) (f := 1) hi
  refine spec_intro (E := EE) (fn := Tryd.f41) eok (by kernel_rfl) (by kernel_rfl) Tryd.call41 (by kernel_rfl) (by kernel_rfl) ?_
  conv => whnf
  repeat' first
    | (refine call_if (owner_spec g) (by first | exact .inl rfl | exact .inr ⟨rfl, rfl⟩) (need_intro ?_ ?_); (conv => whnf))
    | (refine call_if (index_spec g id 1) (by first | exact .inl rfl | exact .inr ⟨rfl, rfl⟩) (need_intro ?_ ?_); (conv => whnf))
    | (refine bc_true (by assumption) ?_; (conv => whnf))
    | (refine bc_false (by assumption) ?_; (conv => whnf))
    | (refine bc_intro (fun _ => ?_) (fun _ => ?_) <;> (conv => whnf))
    | (refine need_intro ?_ ?_; (conv => whnf))
    | (refine wk_refl ?_; (conv => whnf))
    | (refine draw_intro (by kernel_rfl) ?_; (conv => whnf))
    | (refine ord_intro (by kernel_rfl) ?_; (conv => whnf))
  all_goals try simp only [cellsMem, bytesMem, decide_eq_true_eq, decide_eq_false_iff_not, bne_iff_ne, ne_eq, Decidable.not_not, Bool.not_eq_true', Bool.not_eq_false', bne_eq_false_iff_eq] at *
  all_goals first
    | exact h
    | omega
    | exact ⟨by omega, by omega⟩
    | (have h1 := hn (by assumption); omega)
    | (have h1 := hn (by assumption); exact ⟨by omega, by omega⟩)
    | (refine ⟨LeS.of_eq ?_, trivial⟩
       simp only [hasG, *, Bool.true_and, Bool.false_and, Bool.and_false, decide_true, decide_false, Bool.not_true, Bool.not_false]
       done)
    | (refine ⟨LeS.of_eq ?_, trivial⟩
       have h1 : decide (0 ≤ indexG g.mem id 1) = true := decide_eq_true (by omega)
       simp only [hasG, h1, *, Bool.true_and, Bool.false_and, Bool.and_false, Bool.not_true, Bool.not_false]
       done)
    | (refine ⟨LeS.of_eq ?_, trivial⟩
       have h1 : decide (0 ≤ indexG g.mem id 1) = true := decide_eq_true (by omega)
       simp [hasG, h1, *]
       done)
    | (refine ⟨LeS.of_eq ?_, trivial⟩
       have h1 : ¬ 0 ≤ indexG g.mem id 1 := by omega
       simp [hasG, *]
       done)
    | trace_state
theorem commitG_spec (g : GrpT) : GrpB 1000 g → Sx.Spec Tryd.prog GG 14 [.agg (grpL g)] [] (.tup [.agg (grpL (commitG g).1.1), .agg [.d (.str (commitG g).1.2.1), .d (.str (commitG g).1.2.2.1), .d (.bool (commitG g).1.2.2.2)], .d (.int .i64 (commitG g).2)]) [] := by
  intro h
  have hl := h.len
  have hs := owner_small h
  have hm := fun ho => (owner_mem (g := g) ho).1
  refine spec_intro (E := EE) (fn := Tryd.f14) eok (by kernel_rfl) (by kernel_rfl) Tryd.call14 (by kernel_rfl) (by kernel_rfl) ?_
  conv => whnf
  repeat' first
    | (refine call_if (owner_spec g) (by first | exact .inl rfl | exact .inr ⟨rfl, rfl⟩) (need_intro ?_ ?_); (conv => whnf))
    | (refine bc_true (by assumption) ?_; (conv => whnf))
    | (refine bc_false (by assumption) ?_; (conv => whnf))
    | (refine bc_intro (fun _ => ?_) (fun _ => ?_) <;> (conv => whnf))
    | (refine need_intro ?_ ?_; (conv => whnf))
    | (refine wk_refl ?_; (conv => whnf))
    | (refine draw_intro (by kernel_rfl) ?_; (conv => whnf))
    | (refine ord_intro (by kernel_rfl) ?_; (conv => whnf))
  all_goals try simp only [cellsMem, bytesMem, decide_eq_true_eq, decide_eq_false_iff_not, bne_iff_ne, ne_eq, Decidable.not_not, Bool.not_eq_true', Bool.not_eq_false', bne_eq_false_iff_eq] at *
  all_goals try first
    | exact h
    | (have := hm (by assumption)
       simp only [Option.getD_some, Option.getD_none]
       omega)
    | (rw [commit_down (by assumption)]
       exact ⟨LeS.tup (LeL.cons (LeS.agg (LeL.cons (LeS.refl _) (LeL.cons (LeS.refl _) (LeL.cons (les_nil rfl) LeL.nil)))) (LeL.cons (LeS.refl _) (LeL.cons (LeS.refl _) LeL.nil))), trivial⟩)
    | (rw [commit_idle (by assumption) (.inl (by assumption))]
       exact ⟨LeS.tup (LeL.cons (LeS.agg (LeL.cons (LeS.refl _) (LeL.cons (LeS.refl _) (LeL.cons (les_nil rfl) LeL.nil)))) (LeL.cons (LeS.refl _) (LeL.cons (LeS.refl _) LeL.nil))), trivial⟩)
    | (rw [commit_idle (by assumption) (.inr (by simp_all))]
       exact ⟨LeS.tup (LeL.cons (LeS.agg (LeL.cons (LeS.refl _) (LeL.cons (LeS.refl _) (LeL.cons (les_nil rfl) LeL.nil)))) (LeL.cons (LeS.refl _) (LeL.cons (LeS.refl _) LeL.nil))), trivial⟩)
  all_goals
    have ho : (ownerG g).2 = true := by assumption
    have hop : g.opn = true := by assumption
    have hp : ¬ (ownerG g).1.copy.pend.length = 0 := by simp_all
    refine loop_auto [1, 2, 3, 4, 5, 34, 35] [1, 2, 3, 5] (fun i : Nat => [(36, .d (.int .i64 i))]) (fun i => []) (fun i => 1 + i ≤ g.mem.length ∧ anyG g (g.mem.drop 1) = anyG g (g.mem.drop (1 + i))) (fun i => g.mem.length - i) 0 ?_ (fun i hi => ?_) ⟨by have := hm ho; omega, rfl⟩
    · conv => whnf
      repeat' first
        | (refine bc_true (by assumption) ?_; (conv => whnf))
        | (refine bc_false (by assumption) ?_; (conv => whnf))
        | (refine bc_intro (fun _ => ?_) (fun _ => ?_) <;> (conv => whnf))
        | (refine need_intro ?_ ?_; (conv => whnf))
        | (refine wk_refl ?_; (conv => whnf))
        | (refine draw_intro (by kernel_rfl) ?_; (conv => whnf))
        | (refine ord_intro (by kernel_rfl) ?_; (conv => whnf))
      all_goals first | exact trivial | exact DLe.refl _ | trace_state
    · obtain ⟨hi, ha⟩ := hi
      have hst := fun h => any_step (g := g) (ms := g.mem) (i := 1 + i) h
      have hen := fun h => any_end (g := g) (ms := g.mem) (i := 1 + i) h
      have hsi : IntKind.i64.wrap ((i : Int) + 1) = ((i + 1 : Nat) : Int) := wrap_succ (n := 2000) (by omega) (by omega)
      conv => whnf
      repeat' first
        | (refine call_if (hasG_spec g _) (by first | exact .inl rfl | exact .inr ⟨rfl, rfl⟩) (need_intro ?_ ?_); (conv => whnf))
        | (refine call_if (commitp_spec _) (by first | exact .inl rfl | exact .inr ⟨rfl, rfl⟩) (need_intro ?_ ?_); (conv => whnf))
        | (refine call_if (with_spec g _) (by first | exact .inl rfl | exact .inr ⟨rfl, rfl⟩) (need_intro ?_ ?_); (conv => whnf))
        | (refine NextVC.mk (i + 1) ?_ ?_ ?_; (conv => whnf))
        | (refine bc_true (by assumption) ?_; (conv => whnf))
        | (refine bc_false (by assumption) ?_; (conv => whnf))
        | (refine bc_intro (fun _ => ?_) (fun _ => ?_) <;> (conv => whnf))
        | (refine need_intro ?_ ?_; (conv => whnf))
        | (refine wk_refl ?_; (conv => whnf))
        | (refine draw_intro (by kernel_rfl) ?_; (conv => whnf))
        | (refine ord_intro (by kernel_rfl) ?_; (conv => whnf))
      all_goals try simp only [cellsMem, bytesMem, decide_eq_true_eq, decide_eq_false_iff_not, bne_iff_ne, ne_eq, Decidable.not_not, Bool.not_eq_true', Bool.not_eq_false', bne_eq_false_iff_eq] at *
      all_goals try first
        | exact h
        | omega
        | exact trivial
        | exact DLe.refl _
        | exact ⟨h, hm ho⟩
        | exact hs
        | exact DLe.of_eq (by rw [hsi])
        | exact ⟨by omega, by omega⟩
      all_goals try simp only [Option.getD_some, Option.getD_none, Int.toNat_natCast, show Int.toNat 1 = 1 from rfl] at *
      all_goals first
        | (rename_i hlt hu hh
           have hb : anyG g (g.mem.drop 1) = true := by
             rw [ha, hst (by omega), hu, hh]; rfl
           rw [commit_busy ho hop hp hb]
           exact ⟨LeS.tup (LeL.cons (LeS.agg (LeL.cons (LeS.refl _) (LeL.cons (LeS.refl _) (LeL.cons (les_nil rfl) LeL.nil)))) (LeL.cons (LeS.refl _) (LeL.cons (LeS.refl _) LeL.nil))), trivial⟩)
        | (rename_i hlt hu hh
           refine ⟨by omega, ?_⟩
           rw [ha, hst (by omega), hu, hh]
           rfl)
        | (rename_i hlt hu
           refine ⟨by omega, ?_⟩
           rw [ha, hst (by omega), hu]
           rfl)
        | (have hb : anyG g (g.mem.drop 1) = false := by
             rw [ha]; exact hen (by omega)
           rw [commit_fails ho hop hp hb (by assumption)]
           exact ⟨LeS.tup (LeL.cons (LeS.agg (LeL.cons (LeS.refl _) (LeL.cons (LeS.refl _) (LeL.cons (les_nil rfl) LeL.nil)))) (LeL.cons (LeS.refl _) (LeL.cons (LeS.refl _) LeL.nil))), trivial⟩)
        | (have hb : anyG g (g.mem.drop 1) = false := by
             rw [ha]; exact hen (by omega)
           rw [commit_done ho hop hp hb (by assumption)]
           exact ⟨LeS.refl _, trivial⟩)
        | omega
        | exact ⟨by omega, by omega⟩
        | trace_state
def getG (g : GrpT) (k : List UInt8) : List UInt8 × Bool × Int := if (ownerG g).2 = false then ([], false, 14) else if g.opn = false then ([], false, 7) else getC (ownerG g).1.copy k
theorem get_down {g : GrpT} {k : List UInt8} (h : (ownerG g).2 = false) : getG g k = ([], false, 14) := by rw [getG, if_pos h]
theorem get_shut {g : GrpT} {k : List UInt8} (h : (ownerG g).2 = true) (h2 : g.opn = false) : getG g k = ([], false, 7) := by rw [getG, if_neg (by simp [h]), if_pos h2]
theorem getG_ok {g : GrpT} {k : List UInt8} (h : (ownerG g).2 = true) (h2 : g.opn = true) : getG g k = getC (ownerG g).1.copy k := by rw [getG, if_neg (by simp [h]), if_neg (by simp [h2])]

theorem cellsIntG : Tryd.prog.cellsOf 3 = 1 := by kernel_rfl
theorem bytesIntG : Tryd.prog.bytesOf 3 = 8 := by kernel_rfl

theorem viewp_spec (g : GrpT) : GrpB 1000 g → Sx.Spec Tryd.prog GG 19 [.agg (grpL g)] [] (.tup [.agg (viewL (viewG g).1), .d (.int .i64 (viewG g).2)]) [] := by
  intro h
  have hl := h.len
  refine spec_intro (E := EE) (fn := Tryd.f19) eok (by kernel_rfl) (by kernel_rfl) Tryd.call19 (by kernel_rfl) (by kernel_rfl) ?_
  conv => whnf
  repeat' first
    | (refine call_if (owner_spec g) (by first | exact .inl rfl | exact .inr ⟨rfl, rfl⟩) (need_intro ?_ ?_); (conv => whnf))
    | (refine bc_true (by assumption) ?_; (conv => whnf))
    | (refine bc_false (by assumption) ?_; (conv => whnf))
    | (refine bc_intro (fun _ => ?_) (fun _ => ?_) <;> (conv => whnf))
    | (refine need_intro ?_ ?_; (conv => whnf))
    | (refine wk_refl ?_; (conv => whnf))
    | (refine draw_intro (by kernel_rfl) ?_; (conv => whnf))
    | (refine ord_intro (by kernel_rfl) ?_; (conv => whnf))
  all_goals try simp only [cellsMem, bytesMem, decide_eq_true_eq, decide_eq_false_iff_not, bne_iff_ne, ne_eq, Decidable.not_not, Bool.not_eq_true', Bool.not_eq_false', bne_eq_false_iff_eq] at *
  all_goals first
    | exact h
    | exact hl
    | (rw [view_ok (by assumption) (by assumption)]
       exact ⟨LeS.tup (LeL.cons (LeS.refl _) (LeL.cons (LeS.refl _) LeL.nil)), trivial⟩)
    | (rw [view_shut (by assumption) (by assumption)]
       exact ⟨LeS.tup (LeL.cons (LeS.agg (LeL.cons (LeS.refl _) (LeL.cons (LeS.refl _) (LeL.cons (LeS.refl _) (LeL.cons (LeS.refl _) (LeL.cons (LeS.refl _) (LeL.cons (LeS.refl _) (LeL.cons (LeS.refl _) (LeL.cons (les_nil rfl) LeL.nil))))))))) (LeL.cons (LeS.refl _) LeL.nil)), trivial⟩)
    | (rw [view_down (by assumption)]
       exact ⟨LeS.tup (LeL.cons (LeS.agg (LeL.cons (LeS.refl _) (LeL.cons (LeS.refl _) (LeL.cons (LeS.refl _) (LeL.cons (LeS.refl _) (LeL.cons (LeS.refl _) (LeL.cons (LeS.refl _) (LeL.cons (LeS.refl _) (LeL.cons (les_nil rfl) LeL.nil))))))))) (LeL.cons (LeS.refl _) LeL.nil)), trivial⟩)
    | trace_state
theorem getgp_spec (g : GrpT) (k : List UInt8) : GrpB 1000 g → Sx.Spec Tryd.prog GG 23 [.agg (grpL g), .d (.str k)] [] (.tup [.d (.str (getG g k).1), .d (.bool (getG g k).2.1), .d (.int .i64 (getG g k).2.2)]) [] := by
  intro h
  have hl := h.len
  have hs := (owner_small h).1
  refine spec_intro (E := EE) (fn := Tryd.f23) eok (by kernel_rfl) (by kernel_rfl) Tryd.call23 (by kernel_rfl) (by kernel_rfl) ?_
  conv => whnf
  repeat' first
    | (refine call_if (owner_spec g) (by first | exact .inl rfl | exact .inr ⟨rfl, rfl⟩) (need_intro ?_ ?_); (conv => whnf))
    | (refine call_if (getCp_spec _ _) (by first | exact .inl rfl | exact .inr ⟨rfl, rfl⟩) (need_intro ?_ ?_); (conv => whnf))
    | (refine bc_true (by assumption) ?_; (conv => whnf))
    | (refine bc_false (by assumption) ?_; (conv => whnf))
    | (refine bc_intro (fun _ => ?_) (fun _ => ?_) <;> (conv => whnf))
    | (refine need_intro ?_ ?_; (conv => whnf))
    | (refine wk_refl ?_; (conv => whnf))
    | (refine draw_intro (by kernel_rfl) ?_; (conv => whnf))
    | (refine ord_intro (by kernel_rfl) ?_; (conv => whnf))
  all_goals try simp only [cellsMem, bytesMem, decide_eq_true_eq, decide_eq_false_iff_not, bne_iff_ne, ne_eq, Decidable.not_not, Bool.not_eq_true', Bool.not_eq_false', bne_eq_false_iff_eq] at *
  all_goals first
    | exact h
    | exact hl
    | exact hs
    | (rw [getG_ok (by assumption) (by assumption)]
       exact ⟨LeS.refl _, trivial⟩)
    | (rw [get_shut (by assumption) (by assumption)]
       exact ⟨LeS.refl _, trivial⟩)
    | (rw [get_down (by assumption)]
       exact ⟨LeS.refl _, trivial⟩)
    | trace_state
theorem row_cutP {ms : List MemT} {p n : Nat} {x y : Int} (hx : x = p) (hy : y = p + 1) (hp : p < ms.length) (hn : n + 1 = ms.length) : RowLe n 32 (fun i j => if 0 + i < (x - 0).toNat then cellOf encMem ms (0 + i) j else cellOf encMem ms (0 + y.toNat + (0 + i - (x - 0).toNat)) j) (cellOf encMem (ms.take p ++ ms.drop (p + 1))) := by
  refine .of_eq fun i j hi _ => ?_
  have e1 : (x - 0).toNat = p := by omega
  have e2 : y.toNat = p + 1 := by omega
  simp only [cellOf, Nat.zero_add, e1, e2]
  rw [getD_cutM hp (by omega)]
  split
  · rfl
  · rw [show p + 1 + (i - p) = i + 1 by omega]
end Go.Proofs.YtegbenagmciegaaDoor
