/- Contracts of functions that the law reaches: YtngdpchhogfhfaaGreatDoorGrpR. Written for this claim. -/
import Derived.Test.YtngdpchhogfhfaaGreatDoorGrp
import Derived.Test.YtngdpchhogfhfaaGreatDoorSxGrp
namespace Go.Proofs.YtngdpchhogfhfaaGreatDoor
open Go Go.Sx Go.ChangeShapes Go.WideShapes Go.ChangeAt Go.RowKit
set_option linter.unusedVariables false
set_option linter.unusedSimpArgs false
set_option maxRecDepth 100000
theorem placeG_spec {n : Nat} {gf : Nat → Nat → D} (num : Int) (opn : Bool) (ms : List MemT) (id : Int) : ((n = ms.length ∧ RowLe n 32 gf (cellOf encMem ms)) ∧ ms.length ≤ 1000) → Sx.Spec Tryz.prog GG 65 [.agg [.d (.int .i64 num), .d (.bool opn), .d (.list n 32 gf)], .d (.int .i64 id)] [] (.d (.int .i64 (indexG ms id 0))) [] := by
  rintro ⟨⟨rfl, hr⟩, hl⟩
  refine Sx.Spec.arg (args' := [.agg [.d (.int .i64 num), .d (.bool opn), .d (encL encMem 32 ms)], .d (.int .i64 id)]) ?_ (LeL.cons (LeS.agg (LeL.cons (LeS.refl _) (LeL.cons (LeS.refl _) (LeL.cons (LeS.d (DLe.rows rfl hr)) LeL.nil)))) (LeL.cons (LeS.refl _) LeL.nil))
  refine spec_intro (E := EE) (fn := Tryz.f65) eok (by kernel_rfl) (by kernel_rfl) Tryz.call65 (by kernel_rfl) (by kernel_rfl) ?_
  conv => whnf
  repeat' first
    | (refine bc_true (by assumption) ?_; (conv => whnf))
    | (refine bc_false (by assumption) ?_; (conv => whnf))
    | (refine need_intro ?_ ?_; (conv => whnf))
    | (refine wk_refl ?_; (conv => whnf))
    | (refine draw_intro (by kernel_rfl) ?_; (conv => whnf))
    | (refine ord_intro (by kernel_rfl) ?_; (conv => whnf))
  refine loop_auto [1, 2, 4, 8, 9] [2] (fun i : Nat => [(10, .d (.int .i64 i))]) (fun i => []) (fun i => i ≤ 1000 ∧ indexG ms id 0 = indexG ms id i) (fun i => 2000 - i) 0 ?_ (fun i hi => ?_) ⟨by omega, rfl⟩
  · conv => whnf
    repeat' first
      | (refine bc_true (by assumption) ?_; (conv => whnf))
      | (refine bc_false (by assumption) ?_; (conv => whnf))
      | (refine bc_intro (fun _ => ?_) (fun _ => ?_) <;> (conv => whnf))
      | (refine need_intro ?_ ?_; (conv => whnf))
      | (refine wk_refl ?_; (conv => whnf))
      | (refine draw_intro (by kernel_rfl) ?_; (conv => whnf))
      | (refine ord_intro (by kernel_rfl) ?_; (conv => whnf))
    all_goals first | exact trivial | exact DLe.refl _ | trace_state
  · obtain ⟨h2, h3⟩ := hi
    have hs : IntKind.i64.wrap ((i : Int) + 1) = ((i + 1 : Nat) : Int) := wrap_succ (n := 2000) (by omega) (by omega)
    conv => whnf
    repeat' first
      | (refine NextVC.mk (i + 1) ?_ ?_ ?_; (conv => whnf))
      | (refine bc_true (by assumption) ?_; (conv => whnf))
      | (refine bc_false (by assumption) ?_; (conv => whnf))
      | (refine bc_intro (fun _ => ?_) (fun _ => ?_) <;> (conv => whnf))
      | (refine need_intro ?_ ?_; (conv => whnf))
      | (refine wk_refl ?_; (conv => whnf))
      | (refine draw_intro (by kernel_rfl) ?_; (conv => whnf))
      | (refine ord_intro (by kernel_rfl) ?_; (conv => whnf))
    all_goals try simp only [decide_eq_true_eq, decide_eq_false_iff_not, beq_iff_eq, beq_eq_false_iff_ne, ne_eq, Int.toNat_natCast] at *
    all_goals first
      | exact trivial
      | omega
      | exact DLe.refl _
      | exact DLe.of_eq (by rw [hs])
      | exact ⟨by omega, by omega⟩
      | (refine ⟨by omega, ?_⟩; rw [h3, index_step (by omega), if_neg (by assumption)])
      | (refine ⟨LeS.of_eq ?_, trivial⟩; rw [h3, index_step (by omega), if_pos (by assumption)]; done)
      | (refine ⟨LeS.of_eq ?_, trivial⟩; rw [h3, index_end (by omega)]; done)
      | trace_state
theorem row_setM {ms : List MemT} {p n : Nat} {x : MemT} (hp : p < ms.length) : RowLe n 32 (fun i j => if 0 + i = 0 + p then if j < 0 then cellOf encMem ms (0 + i) j else if j < 0 + (encMem x).length then (encMem x).getD (j - 0) default else cellOf encMem ms (0 + i) j else cellOf encMem ms (0 + i) j)
    (cellOf encMem (ms.set p x)) := by
  refine .of_eq fun i' j' _ hj => ?_
  have hl : (encMem x).length = 32 := rfl
  simp only [Nat.zero_add, hl, Nat.not_lt_zero, if_false, hj, if_true, Nat.sub_zero]
  by_cases hi : i' = p
  · subst hi
    rw [if_pos rfl]
    simp only [cellOf, getD_set_self hp]
  · rw [if_neg hi]
    simp only [cellOf, Go.Sx.getD_set_ne hi]
theorem ownerr_spec (g : GrpT) : g.mem.length ≤ 1000 → Sx.Spec Tryz.prog GG 60 [.agg (grpL g)] [] (.tup [.agg (memL (ownerG g).1), .d (.bool (ownerG g).2)]) [] := by
  intro h
  refine spec_intro (E := EE) (fn := Tryz.f60) eok (by kernel_rfl) (by kernel_rfl) Tryz.call60 (by kernel_rfl) (by kernel_rfl) ?_
  conv => whnf
  repeat' first
    | (refine bc_true (by assumption) ?_; (conv => whnf))
    | (refine bc_false (by assumption) ?_; (conv => whnf))
    | (refine bc_intro (fun _ => ?_) (fun _ => ?_) <;> (conv => whnf))
    | (refine need_intro ?_ ?_; (conv => whnf))
    | (refine wk_refl ?_; (conv => whnf))
    | (refine draw_intro (by kernel_rfl) ?_; (conv => whnf))
    | (refine ord_intro (by kernel_rfl) ?_; (conv => whnf))
  all_goals try simp only [decide_eq_true_eq, decide_eq_false_iff_not, beq_iff_eq, beq_eq_false_iff_ne, ne_eq, Bool.not_eq_true', Bool.not_eq_false', Int.toNat_zero] at *
  all_goals first
    | omega
    | (rw [owner_none (.inl (by omega))]
       (refine ⟨LeS.tup (LeL.cons (LeS.agg ?_) (LeL.cons (LeS.refl _) LeL.nil)), trivial⟩
        repeat' first
          | exact LeL.nil
          | refine LeL.cons ?_ ?_
        all_goals first
          | exact LeS.refl _
          | exact les_own rfl
          | exact les_nil rfl)
       done)
    | (rw [owner_none (.inr (by assumption))]
       (refine ⟨LeS.tup (LeL.cons (LeS.agg ?_) (LeL.cons (LeS.refl _) LeL.nil)), trivial⟩
        repeat' first
          | exact LeL.nil
          | refine LeL.cons ?_ ?_
        all_goals first
          | exact LeS.refl _
          | exact les_own rfl
          | exact les_nil rfl)
       done)
    | (rw [owner_some (by omega) (by assumption)]
       (refine ⟨LeS.tup (LeL.cons (LeS.agg ?_) (LeL.cons (LeS.refl _) LeL.nil)), trivial⟩
        repeat' first
          | exact LeL.nil
          | refine LeL.cons ?_ ?_
        all_goals first
          | exact LeS.refl _
          | exact les_own rfl
          | exact les_nil rfl)
       done)
    | trace_state
theorem followerr_spec (g : GrpT) (id : Int) : g.mem.length ≤ 1000 → Sx.Spec Tryz.prog GG 62 [.agg (grpL g), .d (.int .i64 id)] [] (.d (.int .i64 (indexG g.mem id 1))) [] := by
  intro hl
  refine spec_intro (E := EE) (fn := Tryz.f62) eok (by kernel_rfl) (by kernel_rfl) Tryz.call62 (by kernel_rfl) (by kernel_rfl) ?_
  conv => whnf
  repeat' first
    | (refine bc_true (by assumption) ?_; (conv => whnf))
    | (refine bc_false (by assumption) ?_; (conv => whnf))
    | (refine need_intro ?_ ?_; (conv => whnf))
    | (refine wk_refl ?_; (conv => whnf))
    | (refine draw_intro (by kernel_rfl) ?_; (conv => whnf))
    | (refine ord_intro (by kernel_rfl) ?_; (conv => whnf))
  refine loop_auto [1, 2, 4, 8, 9] [2] (fun i : Nat => [(10, .d (.int .i64 i))]) (fun i => []) (fun i => i ≤ 1000 ∧ (i = 0 ∨ indexG g.mem id 1 = indexG g.mem id i)) (fun i => 2000 - i) 0 ?_ (fun i hi => ?_) ⟨by omega, .inl rfl⟩
  · conv => whnf
    repeat' first
      | (refine bc_true (by assumption) ?_; (conv => whnf))
      | (refine bc_false (by assumption) ?_; (conv => whnf))
      | (refine bc_intro (fun _ => ?_) (fun _ => ?_) <;> (conv => whnf))
      | (refine need_intro ?_ ?_; (conv => whnf))
      | (refine wk_refl ?_; (conv => whnf))
      | (refine draw_intro (by kernel_rfl) ?_; (conv => whnf))
      | (refine ord_intro (by kernel_rfl) ?_; (conv => whnf))
    all_goals first | exact trivial | exact DLe.refl _ | trace_state
  · obtain ⟨h2, h3⟩ := hi
    have hs : IntKind.i64.wrap ((i : Int) + 1) = ((i + 1 : Nat) : Int) := wrap_succ (n := 2000) (by omega) (by omega)
    conv => whnf
    repeat' first
      | (refine NextVC.mk (i + 1) ?_ ?_ ?_; (conv => whnf))
      | (refine bc_true (by assumption) ?_; (conv => whnf))
      | (refine bc_false (by assumption) ?_; (conv => whnf))
      | (refine bc_intro (fun _ => ?_) (fun _ => ?_) <;> (conv => whnf))
      | (refine need_intro ?_ ?_; (conv => whnf))
      | (refine wk_refl ?_; (conv => whnf))
      | (refine draw_intro (by kernel_rfl) ?_; (conv => whnf))
      | (refine ord_intro (by kernel_rfl) ?_; (conv => whnf))
    all_goals try simp only [decide_eq_true_eq, decide_eq_false_iff_not, beq_iff_eq, beq_eq_false_iff_ne, ne_eq, Int.toNat_natCast] at *
    all_goals first
      | exact trivial
      | omega
      | exact DLe.refl _
      | exact DLe.of_eq (by rw [hs])
      | exact ⟨by omega, by omega⟩
      | (refine ⟨by omega, .inr ?_⟩; rcases h3 with h3 | h3
         · subst h3; rfl
         · rw [h3, index_step (by omega), if_neg (by assumption)])
      | (refine ⟨by omega, .inr ?_⟩
         have : i = 0 := by omega
         subst this; rfl)
      | (refine ⟨LeS.of_eq ?_, trivial⟩; rw [h3.resolve_left (by omega), index_step (by omega), if_pos (by assumption)]; done)
      | (refine ⟨LeS.of_eq ?_, trivial⟩
         rcases h3 with h3 | h3
         · subst h3; rw [index_end (by omega)]
         · rw [h3, index_end (by omega)]
         done)
      | trace_state
theorem setMr_spec (g : GrpT) (i : Nat) (m : MemT) : (g.mem.length ≤ 1000 ∧ i < g.mem.length) → Sx.Spec Tryz.prog GG 63 [.agg (grpL g), .d (.int .i64 i), .agg (memL m)] [] (.agg (grpL { g with mem := g.mem.set i m })) [] := by
  rintro ⟨hl, hi⟩
  refine spec_intro (E := EE) (fn := Tryz.f63) eok (by kernel_rfl) (by kernel_rfl) Tryz.call63 (by kernel_rfl) (by kernel_rfl) ?_
  conv => whnf
  repeat' first
    | (refine bc_true (by assumption) ?_; (conv => whnf))
    | (refine bc_false (by assumption) ?_; (conv => whnf))
    | (refine bc_intro (fun _ => ?_) (fun _ => ?_) <;> (conv => whnf))
    | (refine need_intro ?_ ?_; (conv => whnf))
    | (refine wk_refl ?_; (conv => whnf))
    | (refine draw_intro (by kernel_rfl) ?_; (conv => whnf))
    | (refine ord_intro (by kernel_rfl) ?_; (conv => whnf))
  all_goals try simp only [cellsMem, bytesMem, Int.toNat_natCast] at *
  all_goals first
    | exact trivial
    | omega
    | exact ⟨by omega, by omega⟩
    | exact ⟨trivial, by omega, by omega⟩
    | (refine ⟨LeS.agg (LeL.cons (LeS.refl _) (LeL.cons (LeS.refl _) (LeL.cons (LeS.d (DLe.rows (by simp) ?_)) LeL.nil))), trivial⟩
       exact row_setM (x := m) hi)
    | trace_state
theorem setMr_id (g : GrpT) (id : Int) (f : Nat) (m : MemT) : (g.mem.length ≤ 1000 ∧ ¬ indexG g.mem id f < 0) → Sx.Spec Tryz.prog GG 63 [.agg (grpL g), .d (.int .i64 (indexG g.mem id f)), .agg (memL m)] [] (.agg (grpL { g with mem := g.mem.set (indexG g.mem id f).toNat m })) [] := by
  rintro ⟨hl, hi⟩
  have hn := index_nat hi
  have := setMr_spec g (indexG g.mem id f).toNat m ⟨hl, hn.1⟩
  rw [hn.2.1] at this
  exact this
theorem ownr_spec (g : GrpT) (c : CopyT) : (g.mem.length ≤ 1000 ∧ g.mem.length ≠ 0) → Sx.Spec Tryz.prog GG 68 [.agg (grpL g), .agg (copyL c)] [] (.agg (grpL (withG g c))) [] := by
  rintro ⟨h, h0⟩
  refine spec_intro (E := EE) (fn := Tryz.f68) eok (by kernel_rfl) (by kernel_rfl) Tryz.call68 (by kernel_rfl) (by kernel_rfl) ?_
  conv => whnf
  repeat' first
    | (refine call_if (setMr_spec g 0 ⟨(g.mem.getD 0 default).id, (g.mem.getD 0 default).up, c⟩) (by first | exact .inl rfl | exact .inr ⟨rfl, rfl⟩) (need_intro ?_ ?_); (conv => whnf))
    | (refine bc_true (by assumption) ?_; (conv => whnf))
    | (refine bc_false (by assumption) ?_; (conv => whnf))
    | (refine bc_intro (fun _ => ?_) (fun _ => ?_) <;> (conv => whnf))
    | (refine need_intro ?_ ?_; (conv => whnf))
    | (refine wk_refl ?_; (conv => whnf))
    | (refine draw_intro (by kernel_rfl) ?_; (conv => whnf))
    | (refine ord_intro (by kernel_rfl) ?_; (conv => whnf))
  all_goals first
    | omega
    | exact ⟨by omega, by omega⟩
    | exact ⟨LeS.refl _, trivial⟩
    | trace_state
theorem propr_spec (g : GrpT) (w : Wr) : GrpB 1000 g → Sx.Spec Tryz.prog GG 32 [.agg (grpL g), .agg [.d (.str w.1), .d (.str w.2.1), .d (.bool w.2.2)]] [] (.tup [.agg (grpL (proposeG g w).1), .d (.int .i64 (proposeG g w).2)]) [] := by
  intro h
  have hl := h.len
  have hs := owner_small h
  have hm := fun ho => (owner_mem (g := g) ho).1
  refine spec_intro (E := EE) (fn := Tryz.f32) eok (by kernel_rfl) (by kernel_rfl) Tryz.call32 (by kernel_rfl) (by kernel_rfl) ?_
  conv => whnf
  repeat' first
    | (refine call_if (ownerr_spec g) (by first | exact .inl rfl | exact .inr ⟨rfl, rfl⟩) (need_intro ?_ ?_); (conv => whnf))
    | (refine call_if (appendr_spec _ _ _ _) (by first | exact .inl rfl | exact .inr ⟨rfl, rfl⟩) (need_intro ?_ ?_); (conv => whnf))
    | (refine call_if (ownr_spec g _) (by first | exact .inl rfl | exact .inr ⟨rfl, rfl⟩) (need_intro ?_ ?_); (conv => whnf))
    | (refine bc_true (by assumption) ?_; (conv => whnf))
    | (refine bc_false (by assumption) ?_; (conv => whnf))
    | (refine bc_intro (fun _ => ?_) (fun _ => ?_) <;> (conv => whnf))
    | (refine need_intro ?_ ?_; (conv => whnf))
    | (refine wk_refl ?_; (conv => whnf))
    | (refine draw_intro (by kernel_rfl) ?_; (conv => whnf))
    | (refine ord_intro (by kernel_rfl) ?_; (conv => whnf))
  all_goals try simp only [cellsMem, bytesMem, decide_eq_true_eq, decide_eq_false_iff_not, bne_iff_ne, ne_eq, Decidable.not_not, Bool.not_eq_true', Bool.not_eq_false', bne_eq_false_iff_eq] at *
  all_goals first
    | omega
    | exact hs
    | exact ⟨hl, hm (by assumption)⟩
    | (simp only [proposeG, *, if_true, if_false, Bool.false_eq_true, Bool.true_eq_false, not_true_eq_false, not_false_eq_true]
       (refine ⟨LeS.tup (LeL.cons (LeS.agg ?_) (LeL.cons (LeS.refl _) LeL.nil)), trivial⟩
        repeat' first
          | exact LeL.nil
          | refine LeL.cons ?_ ?_
        all_goals first
          | exact LeS.refl _
          | exact les_nil rfl
          | exact LeS.d (DLe.rows (by simp) (row_setC' (by omega)))
          | exact LeS.d (DLe.rows (by simp) (row_setU' (by omega))))
       done)
    | trace_state
theorem replr_spec (g : GrpT) (id : Int) : GrpB 1000 g → Sx.Spec Tryz.prog GG 27 [.agg (grpL g), .d (.int .i64 id)] [] (.tup [.agg (grpL (replicateG g id).1), .d (.int .i64 (replicateG g id).2)]) [] := by
  intro h
  have hl := h.len
  have hn := fun hi => index_nat (ms := g.mem) (id := id) (f := 1) hi
  refine spec_intro (E := EE) (fn := Tryz.f27) eok (by kernel_rfl) (by kernel_rfl) Tryz.call27 (by kernel_rfl) (by kernel_rfl) ?_
  conv => whnf
  repeat' first
    | (refine call_if (ownerr_spec g) (by first | exact .inl rfl | exact .inr ⟨rfl, rfl⟩) (need_intro ?_ ?_); (conv => whnf))
    | (refine call_if (followerr_spec g id) (by first | exact .inl rfl | exact .inr ⟨rfl, rfl⟩) (need_intro ?_ ?_); (conv => whnf))
    | (refine call_if (setMr_id g id 1 ⟨(g.mem.getD (indexG g.mem id 1).toNat default).id, (g.mem.getD (indexG g.mem id 1).toNat default).up, (ownerG g).1.copy⟩) (by first | exact .inl rfl | exact .inr ⟨rfl, rfl⟩) (need_intro ?_ ?_); (conv => whnf))
    | (refine bc_true (by assumption) ?_; (conv => whnf))
    | (refine bc_false (by assumption) ?_; (conv => whnf))
    | (refine bc_intro (fun _ => ?_) (fun _ => ?_) <;> (conv => whnf))
    | (refine need_intro ?_ ?_; (conv => whnf))
    | (refine wk_refl ?_; (conv => whnf))
    | (refine draw_intro (by kernel_rfl) ?_; (conv => whnf))
    | (refine ord_intro (by kernel_rfl) ?_; (conv => whnf))
  all_goals try simp only [cellsMem, bytesMem, decide_eq_true_eq, decide_eq_false_iff_not, bne_iff_ne, ne_eq, Decidable.not_not, Bool.not_eq_true', Bool.not_eq_false', bne_eq_false_iff_eq] at *
  all_goals first
    | omega
    | exact ⟨by omega, by omega⟩
    | (have h1 := hn (by assumption); omega)
    | (have h1 := hn (by assumption); exact ⟨by omega, by omega⟩)
    | (simp only [replicateG, *, if_true, if_false, Bool.false_eq_true, Bool.true_eq_false, not_true_eq_false, not_false_eq_true]
       (refine ⟨LeS.tup (LeL.cons (LeS.agg ?_) (LeL.cons (LeS.refl _) LeL.nil)), trivial⟩
        repeat' first
          | exact LeL.nil
          | refine LeL.cons ?_ ?_
        all_goals first
          | exact LeS.refl _
          | exact les_nil rfl
          | exact LeS.d (DLe.rows (by simp) (row_setC' (by omega)))
          | exact LeS.d (DLe.rows (by simp) (row_setU' (by omega))))
       done)
    | (have h1 := hn (by assumption)
       rw [replicate_ok (by assumption) (by assumption) (by assumption)]
       (refine ⟨LeS.tup (LeL.cons (LeS.agg ?_) (LeL.cons (LeS.refl _) LeL.nil)), trivial⟩
        repeat' first
          | exact LeL.nil
          | refine LeL.cons ?_ ?_
        all_goals first
          | exact LeS.refl _
          | exact les_nil rfl
          | exact LeS.d (DLe.rows (by simp) (row_setC' (by omega)))
          | exact LeS.d (DLe.rows (by simp) (row_setU' (by omega))))
       done)
    | trace_state
theorem crashr_spec (g : GrpT) (id : Int) : GrpB 1000 g → Sx.Spec Tryz.prog GG 30 [.agg (grpL g), .d (.int .i64 id)] [] (.tup [.agg (grpL (crashG g id).1), .d (.int .i64 (crashG g id).2)]) [] := by
  intro h
  have hl := h.len
  have hn := fun hi => index_nat (ms := g.mem) (id := id) (f := 0) hi
  refine spec_intro (E := EE) (fn := Tryz.f30) eok (by kernel_rfl) (by kernel_rfl) Tryz.call30 (by kernel_rfl) (by kernel_rfl) ?_
  conv => whnf
  repeat' first
    | (refine call_if (placeG_spec _ _ g.mem id) (by first | exact .inl rfl | exact .inr ⟨rfl, rfl⟩) (need_intro ?_ ?_); (conv => whnf))
    | (refine call_if (setMr_id g id 0 ⟨(g.mem.getD (indexG g.mem id 0).toNat default).id, false, (g.mem.getD (indexG g.mem id 0).toNat default).copy⟩) (by first | exact .inl rfl | exact .inr ⟨rfl, rfl⟩) (need_intro ?_ ?_); (conv => whnf))
    | (refine bc_true (by assumption) ?_; (conv => whnf))
    | (refine bc_false (by assumption) ?_; (conv => whnf))
    | (refine bc_intro (fun _ => ?_) (fun _ => ?_) <;> (conv => whnf))
    | (refine need_intro ?_ ?_; (conv => whnf))
    | (refine wk_refl ?_; (conv => whnf))
    | (refine draw_intro (by kernel_rfl) ?_; (conv => whnf))
    | (refine ord_intro (by kernel_rfl) ?_; (conv => whnf))
  all_goals try simp only [cellsMem, bytesMem, decide_eq_true_eq, decide_eq_false_iff_not, bne_iff_ne, ne_eq, Decidable.not_not, Bool.not_eq_true', Bool.not_eq_false', bne_eq_false_iff_eq] at *
  all_goals first
    | omega
    | exact ⟨by omega, by omega⟩
    | exact ⟨⟨trivial, RowLe.refl _ _ _⟩, by omega⟩
    | (have h1 := hn (by assumption); omega)
    | (have h1 := hn (by assumption); exact ⟨by omega, by omega⟩)
    | (simp only [crashG, *, if_true, if_false, Bool.false_eq_true, Bool.true_eq_false, not_true_eq_false, not_false_eq_true]
       (refine ⟨LeS.tup (LeL.cons (LeS.agg ?_) (LeL.cons (LeS.refl _) LeL.nil)), trivial⟩
        repeat' first
          | exact LeL.nil
          | refine LeL.cons ?_ ?_
        all_goals first
          | exact LeS.refl _
          | exact les_nil rfl
          | exact LeS.d (DLe.rows (by simp) (row_setC' (by omega)))
          | exact LeS.d (DLe.rows (by simp) (row_setU' (by omega))))
       done)
    | trace_state
theorem has_no {g : GrpT} {id : Int} (h : (ownerG g).2 = false ∨ ¬ indexG g.mem id 1 > 0 ∨ (g.mem.getD (indexG g.mem id 1).toNat default).up = false) : hasG g id = false := by
  have hr := index_range (ms := g.mem) (id := id) (f := 1)
  unfold hasG
  rcases h with h | h | h
  · rw [h]; rfl
  · have : ¬ 0 ≤ indexG g.mem id 1 := by rcases hr with hr | ⟨i, h1, h2, _⟩ <;> omega
    rw [decide_eq_false this]; simp
  · rw [h]; simp
theorem has_yes {g : GrpT} {id : Int} (h1 : (ownerG g).2 = true) (h2 : indexG g.mem id 1 > 0) (h3 : (g.mem.getD (indexG g.mem id 1).toNat default).up = true) :
    hasG g id = (decide (((ownerG g).1.copy.pend.length : Int) > 0) && (((ownerG g).1.copy.se == (g.mem.getD (indexG g.mem id 1).toNat default).copy.se) && decide (IntKind.i64.wrap ((g.mem.getD (indexG g.mem id 1).toNat default).copy.sv + ((g.mem.getD (indexG g.mem id 1).toNat default).copy.pend.length : Int)) > (ownerG g).1.copy.sv))) := by
  unfold hasG
  rw [h1, h3, decide_eq_true (show 0 ≤ indexG g.mem id 1 by omega), Bool.true_and, Bool.true_and, Bool.true_and]
  have e1 : (!(((ownerG g).1.copy.pend.length : Int) == 0)) = decide (((ownerG g).1.copy.pend.length : Int) > 0) := by
    rw [Bool.eq_iff_iff]; simp only [Bool.not_eq_true', beq_eq_false_iff_ne, ne_eq, decide_eq_true_eq]; omega
  have e2 : ∀ a b : Int, (a == b) = (b == a) := fun a b => by rw [Bool.eq_iff_iff]; simp only [beq_iff_eq]; omega
  rw [e1, e2]
theorem hasr_spec (g : GrpT) (id : Int) : GrpB 1000 g → Sx.Spec Tryz.prog GG 71 [.agg (grpL g), .d (.int .i64 id)] [] (.d (.bool (hasG g id))) [] := by
  intro h
  have hl := h.len
  have hn := fun hi => index_nat (ms := g.mem) (id := id) (f := 1) hi
  have hd : ∀ o c : CopyT, Sx.Spec Tryz.prog GG 101 [.agg (copyL o), .agg (copyL c)] [] (.d (.bool (decide ((o.pend.length : Int) > 0) && ((o.se == c.se) && decide (IntKind.i64.wrap (c.sv + (c.pend.length : Int)) > o.sv))))) [] := by
    intro o c
    refine spec_intro (E := EE) (fn := Tryz.f101) eok (by kernel_rfl) (by kernel_rfl) Tryz.call101 (by kernel_rfl) (by kernel_rfl) ?_
    conv => whnf
    repeat' first
      | (refine bc_true (by assumption) ?_; (conv => whnf))
      | (refine bc_false (by assumption) ?_; (conv => whnf))
      | (refine bc_intro (fun _ => ?_) (fun _ => ?_) <;> (conv => whnf))
      | (refine need_intro ?_ ?_; (conv => whnf))
      | (refine wk_refl ?_; (conv => whnf))
      | (refine draw_intro (by kernel_rfl) ?_; (conv => whnf))
      | (refine ord_intro (by kernel_rfl) ?_; (conv => whnf))
    all_goals first
      | (refine ⟨LeS.of_eq ?_, trivial⟩
         simp only [*, Bool.true_and, Bool.false_and, decide_true, decide_false]
         done)
      | (refine ⟨LeS.of_eq ?_, trivial⟩
         simp_all
         done)
      | trace_state
  refine spec_intro (E := EE) (fn := Tryz.f71) eok (by kernel_rfl) (by kernel_rfl) Tryz.call71 (by kernel_rfl) (by kernel_rfl) ?_
  conv => whnf
  repeat' first
    | (refine call_if (ownerr_spec g) (by first | exact .inl rfl | exact .inr ⟨rfl, rfl⟩) (need_intro ?_ ?_); (conv => whnf))
    | (refine call_if (followerr_spec g id) (by first | exact .inl rfl | exact .inr ⟨rfl, rfl⟩) (need_intro ?_ ?_); (conv => whnf))
    | (refine call_intro (hd _ _) ?_ (by first | exact .inl rfl | exact .inr ⟨rfl, rfl⟩); (conv => whnf))
    | (refine bc_true (by assumption) ?_; (conv => whnf))
    | (refine bc_false (by assumption) ?_; (conv => whnf))
    | (refine bc_intro (fun _ => ?_) (fun _ => ?_) <;> (conv => whnf))
    | (refine need_intro ?_ ?_; (conv => whnf))
    | (refine wk_refl ?_; (conv => whnf))
    | (refine draw_intro (by kernel_rfl) ?_; (conv => whnf))
    | (refine ord_intro (by kernel_rfl) ?_; (conv => whnf))
  all_goals try simp only [cellsMem, bytesMem, decide_eq_true_eq, decide_eq_false_iff_not, bne_iff_ne, ne_eq, Decidable.not_not, Bool.not_eq_true', Bool.not_eq_false', bne_eq_false_iff_eq] at *
  all_goals first
    | exact hl
    | (have hi : indexG g.mem id 1 > 0 := by assumption
       have h1 := hn (by omega)
       exact ⟨by omega, by omega⟩)
    | (rw [has_no (.inl (by assumption))]; exact ⟨LeS.refl _, trivial⟩)
    | (rw [has_no (.inr (.inl (by omega)))]; exact ⟨LeS.refl _, trivial⟩)
    | (rw [has_no (.inr (.inr (by assumption)))]; exact ⟨LeS.refl _, trivial⟩)
    | (rw [has_yes (by assumption) (by omega) (by assumption)]; exact ⟨LeS.refl _, trivial⟩)
    | trace_state
theorem liver_spec0 (g : GrpT) : g.mem.length ≤ 1000 → Sx.Spec Tryz.prog GG 29 [.agg (grpL g)] [] (.d (encL encI 1 (liveL g.mem))) [] := by
  intro hl
  have hll : ∀ i, (liveL (g.mem.take i)).length ≤ 1000 := fun i => by
    refine Nat.le_trans ?_ hl
    unfold liveL
    rw [List.length_map]
    exact Nat.le_trans (List.length_filter_le _ _) (by simp only [List.length_take]; omega)
  refine spec_intro (E := EE) (fn := Tryz.f29) eok (by kernel_rfl) (by kernel_rfl) Tryz.call29 (by kernel_rfl) (by kernel_rfl) ?_
  conv => whnf
  repeat' first
    | (refine bc_true (by assumption) ?_; (conv => whnf))
    | (refine bc_false (by assumption) ?_; (conv => whnf))
    | (refine need_intro ?_ ?_; (conv => whnf))
    | (refine wk_refl ?_; (conv => whnf))
    | (refine draw_intro (by kernel_rfl) ?_; (conv => whnf))
    | (refine ord_intro (by kernel_rfl) ?_; (conv => whnf))
  refine loop_auto [1, 2, 7, 8] [1] (fun i : Nat => [(9, .d (.int .i64 i)), (3, .osl 500 1 0 (liveL (g.mem.take i)).length)]) (fun i => [(500, .row 3 1 (liveL (g.mem.take i)).length (cellOf encI (liveL (g.mem.take i))))]) (fun i => i ≤ g.mem.length) (fun i => g.mem.length - i) 0 ?_ (fun i hi => ?_) (by omega)
  · conv => whnf
    repeat' first
      | (refine bc_true (by assumption) ?_; (conv => whnf))
      | (refine bc_false (by assumption) ?_; (conv => whnf))
      | (refine bc_intro (fun _ => ?_) (fun _ => ?_) <;> (conv => whnf))
      | (refine need_intro ?_ ?_; (conv => whnf))
      | (refine wk_refl ?_; (conv => whnf))
      | (refine draw_intro (by kernel_rfl) ?_; (conv => whnf))
      | (refine ord_intro (by kernel_rfl) ?_; (conv => whnf))
    all_goals first | exact trivial | exact DLe.refl _ | exact DLe.nil | exact RowLe.refl _ _ _ | exact ⟨rfl, rfl⟩ | exact ⟨rfl, rfl, rfl⟩ | trace_state
  · have hs : IntKind.i64.wrap ((i : Int) + 1) = ((i + 1 : Nat) : Int) := wrap_succ (n := 2000) (by omega) (by omega)
    have hli := hll i
    have ht := fun h => live_take (ms := g.mem) (i := i) h
    have ht1 : i < g.mem.length → (g.mem.getD i default).up = true → liveL (g.mem.take (i + 1)) = liveL (g.mem.take i) ++ [(g.mem.getD i default).id] := fun h hu => by rw [ht h, hu]; rfl
    have ht2 : i < g.mem.length → (g.mem.getD i default).up = false → liveL (g.mem.take (i + 1)) = liveL (g.mem.take i) := fun h hu => by rw [ht h, hu]; simp
    conv => whnf
    repeat' first
      | (refine NextVC.mk (i + 1) ?_ ?_ ?_; (conv => whnf))
      | (refine bc_true (by assumption) ?_; (conv => whnf))
      | (refine bc_false (by assumption) ?_; (conv => whnf))
      | (refine bc_intro (fun _ => ?_) (fun _ => ?_) <;> (conv => whnf))
      | (refine need_intro ?_ ?_; (conv => whnf))
      | (refine wk_refl ?_; (conv => whnf))
      | (refine draw_intro (by kernel_rfl) ?_; (conv => whnf))
      | (refine ord_intro (by kernel_rfl) ?_; (conv => whnf))
    all_goals try simp only [cellsMem, bytesMem, decide_eq_true_eq, decide_eq_false_iff_not, bne_iff_ne, ne_eq, Decidable.not_not, Bool.not_eq_true', Bool.not_eq_false', bne_eq_false_iff_eq] at *
    all_goals try simp only [Int.toNat_natCast] at *
    all_goals first
      | exact trivial
      | omega
      | exact DLe.refl _
      | exact DLe.of_eq (by rw [hs])
      | exact ⟨by omega, by omega⟩
      | exact ⟨trivial, by omega, by omega⟩
      | (rw [ht2 (by omega) (by assumption)]; done)
      | (rw [ht2 (by omega) (by assumption)]; exact RowLe.refl _ _ _)
      | exact ⟨trivial, trivial, by rw [ht2 (by omega) (by assumption)]⟩
      | (rw [ht1 (by omega) (by assumption), List.length_append, List.length_singleton]; done)
      | exact ⟨trivial, cellsIntG, by rw [ht1 (by omega) (by assumption), List.length_append, List.length_singleton]⟩
      | exact ⟨cellsIntG, trivial, by rw [ht1 (by omega) (by assumption), List.length_append, List.length_singleton]⟩
      | exact ⟨trivial, by rw [bytesIntG]; omega, by omega⟩
      | (rw [ht1 (by omega) (by assumption), List.length_append, List.length_singleton]
         exact row_snoc rfl (RowLe.refl _ _ _) (jlt1 (DLe.of_eq rfl)))
      | (have e : i = g.mem.length := by omega
         subst e
         refine ⟨?_, trivial⟩
         rw [List.take_length]
         exact les_own rfl)
      | trace_state
theorem commr_spec (g : GrpT) : GrpB 1000 g → Sx.Spec Tryz.prog GG 34 [.agg (grpL g)] [] (.tup [.agg (grpL (commitG g).1.1), .agg [.d (.str (commitG g).1.2.1), .d (.str (commitG g).1.2.2.1), .d (.bool (commitG g).1.2.2.2)], .d (.int .i64 (commitG g).2)]) [] := by
  intro h
  have hl := h.len
  have hs := owner_small h
  have hm := fun ho => (owner_mem (g := g) ho).1
  refine spec_intro (E := EE) (fn := Tryz.f34) eok (by kernel_rfl) (by kernel_rfl) Tryz.call34 (by kernel_rfl) (by kernel_rfl) ?_
  conv => whnf
  repeat' first
    | (refine call_if (ownerr_spec g) (by first | exact .inl rfl | exact .inr ⟨rfl, rfl⟩) (need_intro ?_ ?_); (conv => whnf))
    | (refine bc_true (by assumption) ?_; (conv => whnf))
    | (refine bc_false (by assumption) ?_; (conv => whnf))
    | (refine bc_intro (fun _ => ?_) (fun _ => ?_) <;> (conv => whnf))
    | (refine need_intro ?_ ?_; (conv => whnf))
    | (refine wk_refl ?_; (conv => whnf))
    | (refine draw_intro (by kernel_rfl) ?_; (conv => whnf))
    | (refine ord_intro (by kernel_rfl) ?_; (conv => whnf))
  all_goals try simp only [cellsMem, bytesMem, decide_eq_true_eq, decide_eq_false_iff_not, bne_iff_ne, ne_eq, Decidable.not_not, Bool.not_eq_true', Bool.not_eq_false', bne_eq_false_iff_eq] at *
  all_goals try first
    | exact hl
    | (rw [commit_down (by assumption)]
       exact ⟨LeS.tup (LeL.cons (LeS.agg (LeL.cons (LeS.refl _) (LeL.cons (LeS.refl _) (LeL.cons (les_nil rfl) LeL.nil)))) (LeL.cons (LeS.refl _) (LeL.cons (LeS.refl _) LeL.nil))), trivial⟩)
    | (rw [commit_idle (by assumption) (.inl (by assumption))]
       exact ⟨LeS.tup (LeL.cons (LeS.agg (LeL.cons (LeS.refl _) (LeL.cons (LeS.refl _) (LeL.cons (les_nil rfl) LeL.nil)))) (LeL.cons (LeS.refl _) (LeL.cons (LeS.refl _) LeL.nil))), trivial⟩)
    | (rw [commit_idle (by assumption) (.inr (by simp_all))]
       exact ⟨LeS.tup (LeL.cons (LeS.agg (LeL.cons (LeS.refl _) (LeL.cons (LeS.refl _) (LeL.cons (les_nil rfl) LeL.nil)))) (LeL.cons (LeS.refl _) (LeL.cons (LeS.refl _) LeL.nil))), trivial⟩)
  all_goals
    have ho : (ownerG g).2 = true := by assumption
    have hop : g.opn = true := by assumption
    have hp : ¬ (ownerG g).1.copy.pend.length = 0 := by simp_all
    refine loop_auto [1, 2, 3, 4, 5, 35, 36] [1, 2, 3, 5] (fun i : Nat => [(37, .d (.int .i64 i))]) (fun i => []) (fun i => i ≤ g.mem.length ∧ (i = 0 ∨ anyG g (g.mem.drop 1) = anyG g (g.mem.drop i))) (fun i => g.mem.length - i) 0 ?_ (fun i hi => ?_) ⟨by omega, .inl rfl⟩
    · conv => whnf
      repeat' first
        | (refine bc_true (by assumption) ?_; (conv => whnf))
        | (refine bc_false (by assumption) ?_; (conv => whnf))
        | (refine bc_intro (fun _ => ?_) (fun _ => ?_) <;> (conv => whnf))
        | (refine need_intro ?_ ?_; (conv => whnf))
        | (refine wk_refl ?_; (conv => whnf))
        | (refine draw_intro (by kernel_rfl) ?_; (conv => whnf))
        | (refine ord_intro (by kernel_rfl) ?_; (conv => whnf))
      all_goals first | exact trivial | exact DLe.refl _ | trace_state
    · obtain ⟨hi, ha⟩ := hi
      have hst := fun h => any_step (g := g) (ms := g.mem) (i := i) h
      have hen := fun h => any_end (g := g) (ms := g.mem) (i := i) h
      have hsi : IntKind.i64.wrap ((i : Int) + 1) = ((i + 1 : Nat) : Int) := wrap_succ (n := 2000) (by omega) (by omega)
      have hm0 := hm ho
      conv => whnf
      repeat' first
        | (refine call_if (hasr_spec g _) (by first | exact .inl rfl | exact .inr ⟨rfl, rfl⟩) (need_intro ?_ ?_); (conv => whnf))
        | (refine call_if (commitr_spec _) (by first | exact .inl rfl | exact .inr ⟨rfl, rfl⟩) (need_intro ?_ ?_); (conv => whnf))
        | (refine call_if (ownr_spec g _) (by first | exact .inl rfl | exact .inr ⟨rfl, rfl⟩) (need_intro ?_ ?_); (conv => whnf))
        | (refine NextVC.mk (i + 1) ?_ ?_ ?_; (conv => whnf))
        | (refine bc_true (by assumption) ?_; (conv => whnf))
        | (refine bc_false (by assumption) ?_; (conv => whnf))
        | (refine bc_intro (fun _ => ?_) (fun _ => ?_) <;> (conv => whnf))
        | (refine need_intro ?_ ?_; (conv => whnf))
        | (refine wk_refl ?_; (conv => whnf))
        | (refine draw_intro (by kernel_rfl) ?_; (conv => whnf))
        | (refine ord_intro (by kernel_rfl) ?_; (conv => whnf))
      all_goals try simp only [cellsMem, bytesMem, decide_eq_true_eq, decide_eq_false_iff_not, bne_iff_ne, ne_eq, Decidable.not_not, Bool.not_eq_true', Bool.not_eq_false', bne_eq_false_iff_eq] at *
      all_goals try first
        | exact h
        | omega
        | exact trivial
        | exact DLe.refl _
        | exact ⟨hl, hm ho⟩
        | exact hs
        | exact DLe.of_eq (by rw [hsi])
        | exact ⟨by omega, by omega⟩
      all_goals try simp only [Option.getD_some, Option.getD_none, Int.toNat_natCast, show Int.toNat 1 = 1 from rfl] at *
      all_goals first
        | (have hu : (g.mem.getD i default).up = true := by assumption
           have hh : hasG g (g.mem.getD i default).id = false := by assumption
           have hb : anyG g (g.mem.drop 1) = true := by
             rw [ha.resolve_left (by omega), hst (by omega), hu, hh]; rfl
           rw [commit_busy ho hop hp hb]
           exact ⟨LeS.tup (LeL.cons (LeS.agg (LeL.cons (LeS.refl _) (LeL.cons (LeS.refl _) (LeL.cons (les_nil rfl) LeL.nil)))) (LeL.cons (LeS.refl _) (LeL.cons (LeS.refl _) LeL.nil))), trivial⟩)
        | (have hu : (g.mem.getD i default).up = true := by assumption
           have hh : hasG g (g.mem.getD i default).id = true := by assumption
           refine ⟨by omega, .inr ?_⟩
           rw [ha.resolve_left (by omega), hst (by omega), hu, hh]
           rfl)
        | (have hu : (g.mem.getD i default).up = false := by assumption
           refine ⟨by omega, .inr ?_⟩
           rw [ha.resolve_left (by omega), hst (by omega), hu]
           rfl)
        | (refine ⟨by omega, .inr ?_⟩
           have e : i = 0 := by omega
           rw [e])
        | (have hb : anyG g (g.mem.drop 1) = false := by
             rw [ha.resolve_left (by omega)]; exact hen (by omega)
           rw [commit_fails ho hop hp hb (by assumption)]
           exact ⟨LeS.tup (LeL.cons (LeS.agg (LeL.cons (LeS.refl _) (LeL.cons (LeS.refl _) (LeL.cons (les_nil rfl) LeL.nil)))) (LeL.cons (LeS.refl _) (LeL.cons (LeS.refl _) LeL.nil))), trivial⟩)
        | (have hb : anyG g (g.mem.drop 1) = false := by
             rw [ha.resolve_left (by omega)]; exact hen (by omega)
           rw [commit_done ho hop hp hb (by assumption)]
           exact ⟨LeS.refl _, trivial⟩)
        | omega
        | exact ⟨by omega, by omega⟩
        | trace_state
end Go.Proofs.YtngdpchhogfhfaaGreatDoor
