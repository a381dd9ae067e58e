/- Contracts of functions that the law reaches: YtigmgeglnbjfeaaDoorK9. Written for this claim. -/
import Derived.Test.YtigmgeglnbjfeaaDoorK8
import Derived.Test.YtigmgeglnbjfeaaDoorSxCmp
namespace Go.Proofs.YtigmgeglnbjfeaaDoor
open Go Go.Sx Go.ChangeShapes Go.WideShapes Go.ChangeAt Go.RowKit
set_option linter.unusedVariables false
set_option linter.unusedSimpArgs false
set_option maxRecDepth 100000
theorem readAt_spec (b : List UInt8) (d : Bool) (n : Int) : 0 ≤ n → Sx.Spec Tryd.prog GG 43 [.d (.int .i64 n), .ptr 3 0, .ptr 7 0] [(3, .box [.d (encL encB 1 b)]), (7, .box [.d (.int .u8 (flN d))])] (.d (.int .i64 (atI (flipB d b) n))) [(3, .box [.d (encL encB 1 b)]), (7, .box [.d (.int .u8 (flN d))])] := by
  intro hn
  refine spec_intro (E := EE) (fn := Tryd.f43) eok (by kernel_rfl) (by kernel_rfl) Tryd.call43 (by kernel_rfl) (by kernel_rfl) ?_
  conv => whnf
  repeat' first
    | (refine bc_true (by assumption) ?_; (conv => whnf))
    | (refine bc_false (by assumption) ?_; (conv => whnf))
    | (refine bc_intro (fun _ => ?_) (fun _ => ?_) <;> (conv => whnf))
    | (refine need_intro ?_ ?_; (conv => whnf))
    | (refine wk_refl ?_; (conv => whnf))
    | (refine draw_intro (by kernel_rfl) ?_; (conv => whnf))
    | (refine ord_intro (by kernel_rfl) ?_; (conv => whnf))
  all_goals try simp only [true_and, and_true, decide_eq_true_eq, decide_eq_false_iff_not, beq_iff_eq, bne_iff_ne, beq_eq_false_iff_ne, bne_eq_false_iff_eq, ne_eq, Decidable.not_not, Bool.not_eq_true', Bool.not_eq_false', Int.toNat_natCast] at *
  all_goals first
    | omega
    | exact ⟨by omega, by omega⟩
    | (rw [show atI (flipB d b) n = -1 by unfold atI; rw [if_neg (by rw [flip_len]; omega)]]
       exact ⟨LeS.refl _, LeL.refl _, LeL.refl _, trivial⟩)
    | (rw [show n = ((n.toNat : Nat) : Int) by omega]
       rw [show atI (flipB d b) (n.toNat : Nat) = _ from atI_lt (by rw [flip_len]; omega), flip_getD (by omega)]
       simp only [Int.toNat_natCast]
       refine ⟨LeS.of_eq ?_, LeL.refl _, LeL.refl _, trivial⟩
       rw [flN_xor, i64_byte])
    | trace_state
set_option maxHeartbeats 1000000 in
theorem readptrue_spec (ck : Int) (b : List UInt8) : b.length ≤ 140737488351232 → Sx.Spec Tryd.prog GG 35 [.agg [.d (.int .i64 ck), .d (.bool true)], .d (encL encB 1 b)] [] (.tup [.agg [.d (.int .i64 (rdP (ck, true) b).1.1), .d (.int .i64 (rdP (ck, true) b).1.2.1), .d (.str (rdP (ck, true) b).1.2.2)], .d (encL encB 1 (rdP (ck, true) b).2.1), .d (.bool (rdP (ck, true) b).2.2)]) [] := by
  intro hl
  have hBl : (flipB true b).length = b.length := flip_len
  refine spec_intro (E := EE) (fn := Tryd.f35) eok (by kernel_rfl) (by kernel_rfl) Tryd.call35 (by kernel_rfl) (by kernel_rfl) ?_
  conv => whnf
  repeat' first
    | (refine call_if (readAt_spec b true _) (by first | exact .inl rfl | exact .inr ⟨rfl, rfl⟩) (need_intro ?_ ?_); (conv => whnf))
    | (refine bc_true (by assumption) ?_; (conv => whnf))
    | (refine bc_false (by assumption) ?_; (conv => whnf))
    | (refine bc_intro (fun _ => ?_) (fun _ => ?_) <;> (conv => whnf))
    | (refine need_intro ?_ ?_; (conv => whnf))
    | (refine wk_refl ?_; (conv => whnf))
    | (refine draw_intro (by kernel_rfl) ?_; (conv => whnf))
    | (refine ord_intro (by kernel_rfl) ?_; (conv => whnf))
  all_goals try simp only [true_and, and_true, decide_eq_true_eq, decide_eq_false_iff_not, beq_iff_eq, bne_iff_ne, beq_eq_false_iff_ne, bne_eq_false_iff_eq, ne_eq, Decidable.not_not, Bool.not_eq_true', Bool.not_eq_false', Int.toNat_natCast] at *
  all_goals try first
    | omega
    | (rw [rdP_null (c := (ck, true)) (by assumption)]
       (refine ⟨LeS.tup (LeL.cons (LeS.refl _) (LeL.cons (LeS.d (DLe.rows ?_ row_drop)) (LeL.cons (LeS.refl _) LeL.nil))), trivial⟩
        simp only [List.length_drop, Option.getD]
        omega)
      )
    | (rw [rdP_short (c := (ck, true)) (by assumption) (by omega)]
       exact ⟨LeS.tup (LeL.cons (LeS.refl _) (LeL.cons (les_nil rfl) (LeL.cons (LeS.refl _) LeL.nil))), trivial⟩
      )
    | (rw [rdP_odd (c := (ck, true)) (by assumption) (by assumption) (by assumption)]
       exact ⟨LeS.tup (LeL.cons (LeS.refl _) (LeL.cons (les_nil rfl) (LeL.cons (LeS.refl _) LeL.nil))), trivial⟩
      )
    | (have h0 := (atI_is (B := flipB true b) (i := 0) (c := 1) (by assumption)).1
       rw [hBl] at h0
       simp only [Option.getD]
       exact ⟨by omega, by omega, by omega⟩)
  · rename_i h2 h9
    have h2' : atI (flipB (ck, true).2 b) (0 : Nat) = ((2 : UInt8).toNat : Int) := h2
    rw [rdP_int h2' (by omega)]
    refine loop_auto [2, 3, 4, 7, 8] [2, 3, 4, 7] (fun k : Nat => [(9, .d (.int .u64 (valN (((flipB true b).drop 1).take k)))), (10, .d (.int .i64 ((k + 1 : Nat) : Int)))]) (fun k => []) (fun k => k ≤ 8) (fun k => 8 - k) 0 ?_ (fun k hk => ?_) (by omega)
    · conv => whnf
      repeat' first
        | (refine bc_true (by assumption) ?_; (conv => whnf))
        | (refine bc_false (by assumption) ?_; (conv => whnf))
        | (refine bc_intro (fun _ => ?_) (fun _ => ?_) <;> (conv => whnf))
        | (refine need_intro ?_ ?_; (conv => whnf))
        | (refine wk_refl ?_; (conv => whnf))
        | (refine draw_intro (by kernel_rfl) ?_; (conv => whnf))
        | (refine ord_intro (by kernel_rfl) ?_; (conv => whnf))
      all_goals first | exact trivial | exact DLe.refl _ | exact DLe.nil | exact RowLe.refl _ _ _ | exact ⟨rfl, rfl⟩ | exact ⟨rfl, rfl, rfl⟩ | trace_state
    · have hs : IntKind.i64.wrap (((k + 1 : Nat) : Int) + 1) = ((k + 1 + 1 : Nat) : Int) := wrap_succ (n := 2000) (by omega) (by omega)
      conv => whnf
      repeat' first
        | (refine call_if (readAt_spec b true _) (by first | exact .inl rfl | exact .inr ⟨rfl, rfl⟩) (need_intro ?_ ?_); (conv => whnf))
        | (refine NextVC.mk (k + 1) ?_ ?_ ?_; (conv => whnf))
        | (refine bc_true (by assumption) ?_; (conv => whnf))
        | (refine bc_false (by assumption) ?_; (conv => whnf))
        | (refine bc_intro (fun _ => ?_) (fun _ => ?_) <;> (conv => whnf))
        | (refine need_intro ?_ ?_; (conv => whnf))
        | (refine wk_refl ?_; (conv => whnf))
        | (refine draw_intro (by kernel_rfl) ?_; (conv => whnf))
        | (refine ord_intro (by kernel_rfl) ?_; (conv => whnf))
      all_goals try simp only [decide_eq_true_eq, decide_eq_false_iff_not, Option.getD] at *
      all_goals first
        | exact trivial
        | omega
        | exact DLe.refl _
        | exact DLe.of_eq (by rw [hs])
        | exact DLe.of_eq (by rw [int_step (by omega) (by omega)])
        | exact ⟨by omega, by omega, by omega⟩
        | (have hk8 : k = 8 := by omega
           subst hk8
           rw [int_fin (by omega)]
           (refine ⟨LeS.tup (LeL.cons (LeS.refl _) (LeL.cons (LeS.d (DLe.rows ?_ row_drop)) (LeL.cons (LeS.refl _) LeL.nil))), trivial⟩
            simp only [List.length_drop, Option.getD]
            omega)
          )
        | trace_state
  · rename_i h3
    have h3' : atI (flipB (ck, true).2 b) (0 : Nat) = ((3 : UInt8).toNat : Int) := h3
    have hB1 := (atI_is h3').1
    simp only [hBl] at hB1
    refine loop_auto [2, 3, 4, 7, 8] [2, 3, 4, 7] (fun x : List UInt8 × Nat => [(11, .osl 500 1 0 x.1.length), (12, .d (.int .i64 x.2))]) (fun x => [(500, .row 5 1 x.1.length (cellOf encB x.1))]) (fun x => RdI (flipB true b) x.2 x.1 ∧ x.1.length ≤ x.2 ∧ x.2 ≤ b.length) (fun x => b.length - x.2) ([], 1) ?_ (fun x hx => ?_) ⟨RdI.zero, by simp, by omega⟩
    · conv => whnf
      repeat' first
        | (refine bc_true (by assumption) ?_; (conv => whnf))
        | (refine bc_false (by assumption) ?_; (conv => whnf))
        | (refine bc_intro (fun _ => ?_) (fun _ => ?_) <;> (conv => whnf))
        | (refine need_intro ?_ ?_; (conv => whnf))
        | (refine wk_refl ?_; (conv => whnf))
        | (refine draw_intro (by kernel_rfl) ?_; (conv => whnf))
        | (refine ord_intro (by kernel_rfl) ?_; (conv => whnf))
      all_goals first | exact trivial | exact DLe.refl _ | exact DLe.nil | exact RowLe.refl _ _ _ | exact ⟨rfl, rfl⟩ | exact ⟨rfl, rfl, rfl⟩ | trace_state
    · obtain ⟨t, i⟩ := x
      obtain ⟨hi, ht, hib⟩ := hx
      simp only at hi ht hib
      have hs : IntKind.i64.wrap ((i : Int) + 1) = ((i + 1 : Nat) : Int) := wrap_succ (n := 140737488351233) (by omega) (by omega)
      have hs2 : IntKind.i64.wrap (((i + 1 : Nat) : Int) + 1) = ((i + 1 + 1 : Nat) : Int) := wrap_succ (n := 140737488351234) (by omega) (by omega)
      conv => whnf
      repeat' first
        | (refine call_if (readAt_spec b true _) (by first | exact .inl rfl | exact .inr ⟨rfl, rfl⟩) (need_intro ?_ ?_); (conv => whnf))
        | (refine bc_true (by assumption) ?_; (conv => whnf))
        | (refine bc_false (by assumption) ?_; (conv => whnf))
        | (refine bc_intro (fun _ => ?_) (fun _ => ?_) <;> (conv => whnf))
        | (refine need_intro ?_ ?_; (conv => whnf))
        | (refine wk_refl ?_; (conv => whnf))
        | (refine draw_intro (by kernel_rfl) ?_; (conv => whnf))
        | (refine ord_intro (by kernel_rfl) ?_; (conv => whnf))
      all_goals try simp only [hs, hs2, cellsB8, bytesB8, true_and, and_true, decide_eq_true_eq, decide_eq_false_iff_not, beq_iff_eq, beq_eq_false_iff_ne, bne_iff_ne, bne_eq_false_iff_eq, ne_eq, Decidable.not_not] at *
      all_goals first
        | omega
        | exact ⟨by omega, by omega⟩
        | exact ⟨trivial, by omega, by omega⟩
        | (have hb1 : i + 1 < (flipB true b).length := by
             have h1 : atI (flipB true b) ((i + 1 : Nat) : Int) = ((1 : UInt8).toNat : Int) := by assumption
             exact (atI_is h1).1
           rw [hBl] at hb1
           simp only [Option.getD]
           exact ⟨by omega, by omega, by omega⟩)
        | exact (bytesR_enc rfl (fun i _ => by rw [Nat.zero_add])).1
        | (have hb1 : i + 1 < (flipB true b).length := by
             have h1 : atI (flipB true b) ((i + 1 : Nat) : Int) = ((1 : UInt8).toNat : Int) := by assumption
             exact (atI_is h1).1
           rw [hBl] at hb1
           rw [rd_fin (c := (ck, true)) h3' hi (by assumption) (by assumption), (bytesR_enc (g := fun i j => cellOf encB t (0 + i) j) (n := t.length) (l := t) rfl (fun i _ => by rw [Nat.zero_add])).2]
           (refine ⟨LeS.tup (LeL.cons (LeS.refl _) (LeL.cons (LeS.d (DLe.rows ?_ row_drop)) (LeL.cons (LeS.refl _) LeL.nil))), trivial⟩
            simp only [List.length_drop, Option.getD]
            omega)
          )
        | (rw [rd_stop (c := (ck, true)) h3' hi (by assumption)]
           exact ⟨LeS.tup (LeL.cons (LeS.refl _) (LeL.cons (les_nil rfl) (LeL.cons (LeS.refl _) LeL.nil))), trivial⟩
          )
        | (rw [rd_odd (c := (ck, true)) h3' hi (by assumption) (by assumption) (by assumption)]
           exact ⟨LeS.tup (LeL.cons (LeS.refl _) (LeL.cons (les_nil rfl) (LeL.cons (LeS.refl _) LeL.nil))), trivial⟩
          )
        | (refine NextVC.mk (t ++ [(flipB true b).getD i default], i + 1) ?_ ?_ ?_
           (conv => whnf)
           repeat' (refine need_intro ?_ ?_; (conv => whnf))
           all_goals try simp only [hs, hs2, cellsB8, bytesB8, true_and, and_true, List.length_append, List.length_singleton]
           all_goals first
             | exact trivial
             | exact DLe.refl _
             | exact DLe.of_eq (by rw [hs])
             | exact DLe.of_eq (by rw [hs2])
             | exact ⟨rd_keep hi (by assumption) (by assumption), by omega, by have := atI_pos (B := flipB true b) (i := i) (by assumption); omega⟩
             | exact ⟨rd_esc hi (by assumption) (by assumption), by omega, by
                 have h1 : atI (flipB true b) ((i + 1 : Nat) : Int) = ((255 : UInt8).toNat : Int) := by assumption
                 have := (atI_is h1).1
                 omega⟩
             | (have := atI_pos (B := flipB true b) (i := i) (by assumption); omega)
             | (rw [u8_at (by assumption)]; exact row_snoc rfl (RowLe.refl _ _ _) (jlt1 (DLe.refl _)))
             | exact row_snoc rfl (RowLe.refl _ _ _) (jlt1 (DLe.refl _))
           done)
        | (refine NextVC.mk (t ++ [0], i + 1 + 1) ?_ ?_ ?_
           (conv => whnf)
           repeat' (refine need_intro ?_ ?_; (conv => whnf))
           all_goals try simp only [hs, hs2, cellsB8, bytesB8, true_and, and_true, List.length_append, List.length_singleton]
           all_goals first
             | exact trivial
             | exact DLe.refl _
             | exact DLe.of_eq (by rw [hs])
             | exact DLe.of_eq (by rw [hs2])
             | exact ⟨rd_keep hi (by assumption) (by assumption), by omega, by have := atI_pos (B := flipB true b) (i := i) (by assumption); omega⟩
             | exact ⟨rd_esc hi (by assumption) (by assumption), by omega, by
                 have h1 : atI (flipB true b) ((i + 1 : Nat) : Int) = ((255 : UInt8).toNat : Int) := by assumption
                 have := (atI_is h1).1
                 omega⟩
             | (have := atI_pos (B := flipB true b) (i := i) (by assumption); omega)
             | (rw [u8_at (by assumption)]; exact row_snoc rfl (RowLe.refl _ _ _) (jlt1 (DLe.refl _)))
             | exact row_snoc rfl (RowLe.refl _ _ _) (jlt1 (DLe.refl _))
           done)
        | trace_state
set_option maxHeartbeats 1000000 in
theorem readpfalse_spec (ck : Int) (b : List UInt8) : b.length ≤ 140737488351232 → Sx.Spec Tryd.prog GG 35 [.agg [.d (.int .i64 ck), .d (.bool false)], .d (encL encB 1 b)] [] (.tup [.agg [.d (.int .i64 (rdP (ck, false) b).1.1), .d (.int .i64 (rdP (ck, false) b).1.2.1), .d (.str (rdP (ck, false) b).1.2.2)], .d (encL encB 1 (rdP (ck, false) b).2.1), .d (.bool (rdP (ck, false) b).2.2)]) [] := by
  intro hl
  have hBl : (flipB false b).length = b.length := flip_len
  refine spec_intro (E := EE) (fn := Tryd.f35) eok (by kernel_rfl) (by kernel_rfl) Tryd.call35 (by kernel_rfl) (by kernel_rfl) ?_
  conv => whnf
  repeat' first
    | (refine call_if (readAt_spec b false _) (by first | exact .inl rfl | exact .inr ⟨rfl, rfl⟩) (need_intro ?_ ?_); (conv => whnf))
    | (refine bc_true (by assumption) ?_; (conv => whnf))
    | (refine bc_false (by assumption) ?_; (conv => whnf))
    | (refine bc_intro (fun _ => ?_) (fun _ => ?_) <;> (conv => whnf))
    | (refine need_intro ?_ ?_; (conv => whnf))
    | (refine wk_refl ?_; (conv => whnf))
    | (refine draw_intro (by kernel_rfl) ?_; (conv => whnf))
    | (refine ord_intro (by kernel_rfl) ?_; (conv => whnf))
  all_goals try simp only [true_and, and_true, decide_eq_true_eq, decide_eq_false_iff_not, beq_iff_eq, bne_iff_ne, beq_eq_false_iff_ne, bne_eq_false_iff_eq, ne_eq, Decidable.not_not, Bool.not_eq_true', Bool.not_eq_false', Int.toNat_natCast] at *
  all_goals try first
    | omega
    | (rw [rdP_null (c := (ck, false)) (by assumption)]
       (refine ⟨LeS.tup (LeL.cons (LeS.refl _) (LeL.cons (LeS.d (DLe.rows ?_ row_drop)) (LeL.cons (LeS.refl _) LeL.nil))), trivial⟩
        simp only [List.length_drop, Option.getD]
        omega)
      )
    | (rw [rdP_short (c := (ck, false)) (by assumption) (by omega)]
       exact ⟨LeS.tup (LeL.cons (LeS.refl _) (LeL.cons (les_nil rfl) (LeL.cons (LeS.refl _) LeL.nil))), trivial⟩
      )
    | (rw [rdP_odd (c := (ck, false)) (by assumption) (by assumption) (by assumption)]
       exact ⟨LeS.tup (LeL.cons (LeS.refl _) (LeL.cons (les_nil rfl) (LeL.cons (LeS.refl _) LeL.nil))), trivial⟩
      )
    | (have h0 := (atI_is (B := flipB false b) (i := 0) (c := 1) (by assumption)).1
       rw [hBl] at h0
       simp only [Option.getD]
       exact ⟨by omega, by omega, by omega⟩)
  · rename_i h2 h9
    have h2' : atI (flipB (ck, false).2 b) (0 : Nat) = ((2 : UInt8).toNat : Int) := h2
    rw [rdP_int h2' (by omega)]
    refine loop_auto [2, 3, 4, 7, 8] [2, 3, 4, 7] (fun k : Nat => [(9, .d (.int .u64 (valN (((flipB false b).drop 1).take k)))), (10, .d (.int .i64 ((k + 1 : Nat) : Int)))]) (fun k => []) (fun k => k ≤ 8) (fun k => 8 - k) 0 ?_ (fun k hk => ?_) (by omega)
    · conv => whnf
      repeat' first
        | (refine bc_true (by assumption) ?_; (conv => whnf))
        | (refine bc_false (by assumption) ?_; (conv => whnf))
        | (refine bc_intro (fun _ => ?_) (fun _ => ?_) <;> (conv => whnf))
        | (refine need_intro ?_ ?_; (conv => whnf))
        | (refine wk_refl ?_; (conv => whnf))
        | (refine draw_intro (by kernel_rfl) ?_; (conv => whnf))
        | (refine ord_intro (by kernel_rfl) ?_; (conv => whnf))
      all_goals first | exact trivial | exact DLe.refl _ | exact DLe.nil | exact RowLe.refl _ _ _ | exact ⟨rfl, rfl⟩ | exact ⟨rfl, rfl, rfl⟩ | trace_state
    · have hs : IntKind.i64.wrap (((k + 1 : Nat) : Int) + 1) = ((k + 1 + 1 : Nat) : Int) := wrap_succ (n := 2000) (by omega) (by omega)
      conv => whnf
      repeat' first
        | (refine call_if (readAt_spec b false _) (by first | exact .inl rfl | exact .inr ⟨rfl, rfl⟩) (need_intro ?_ ?_); (conv => whnf))
        | (refine NextVC.mk (k + 1) ?_ ?_ ?_; (conv => whnf))
        | (refine bc_true (by assumption) ?_; (conv => whnf))
        | (refine bc_false (by assumption) ?_; (conv => whnf))
        | (refine bc_intro (fun _ => ?_) (fun _ => ?_) <;> (conv => whnf))
        | (refine need_intro ?_ ?_; (conv => whnf))
        | (refine wk_refl ?_; (conv => whnf))
        | (refine draw_intro (by kernel_rfl) ?_; (conv => whnf))
        | (refine ord_intro (by kernel_rfl) ?_; (conv => whnf))
      all_goals try simp only [decide_eq_true_eq, decide_eq_false_iff_not, Option.getD] at *
      all_goals first
        | exact trivial
        | omega
        | exact DLe.refl _
        | exact DLe.of_eq (by rw [hs])
        | exact DLe.of_eq (by rw [int_step (by omega) (by omega)])
        | exact ⟨by omega, by omega, by omega⟩
        | (have hk8 : k = 8 := by omega
           subst hk8
           rw [int_fin (by omega)]
           (refine ⟨LeS.tup (LeL.cons (LeS.refl _) (LeL.cons (LeS.d (DLe.rows ?_ row_drop)) (LeL.cons (LeS.refl _) LeL.nil))), trivial⟩
            simp only [List.length_drop, Option.getD]
            omega)
          )
        | trace_state
  · rename_i h3
    have h3' : atI (flipB (ck, false).2 b) (0 : Nat) = ((3 : UInt8).toNat : Int) := h3
    have hB1 := (atI_is h3').1
    simp only [hBl] at hB1
    refine loop_auto [2, 3, 4, 7, 8] [2, 3, 4, 7] (fun x : List UInt8 × Nat => [(11, .osl 500 1 0 x.1.length), (12, .d (.int .i64 x.2))]) (fun x => [(500, .row 5 1 x.1.length (cellOf encB x.1))]) (fun x => RdI (flipB false b) x.2 x.1 ∧ x.1.length ≤ x.2 ∧ x.2 ≤ b.length) (fun x => b.length - x.2) ([], 1) ?_ (fun x hx => ?_) ⟨RdI.zero, by simp, by omega⟩
    · conv => whnf
      repeat' first
        | (refine bc_true (by assumption) ?_; (conv => whnf))
        | (refine bc_false (by assumption) ?_; (conv => whnf))
        | (refine bc_intro (fun _ => ?_) (fun _ => ?_) <;> (conv => whnf))
        | (refine need_intro ?_ ?_; (conv => whnf))
        | (refine wk_refl ?_; (conv => whnf))
        | (refine draw_intro (by kernel_rfl) ?_; (conv => whnf))
        | (refine ord_intro (by kernel_rfl) ?_; (conv => whnf))
      all_goals first | exact trivial | exact DLe.refl _ | exact DLe.nil | exact RowLe.refl _ _ _ | exact ⟨rfl, rfl⟩ | exact ⟨rfl, rfl, rfl⟩ | trace_state
    · obtain ⟨t, i⟩ := x
      obtain ⟨hi, ht, hib⟩ := hx
      simp only at hi ht hib
      have hs : IntKind.i64.wrap ((i : Int) + 1) = ((i + 1 : Nat) : Int) := wrap_succ (n := 140737488351233) (by omega) (by omega)
      have hs2 : IntKind.i64.wrap (((i + 1 : Nat) : Int) + 1) = ((i + 1 + 1 : Nat) : Int) := wrap_succ (n := 140737488351234) (by omega) (by omega)
      conv => whnf
      repeat' first
        | (refine call_if (readAt_spec b false _) (by first | exact .inl rfl | exact .inr ⟨rfl, rfl⟩) (need_intro ?_ ?_); (conv => whnf))
        | (refine bc_true (by assumption) ?_; (conv => whnf))
        | (refine bc_false (by assumption) ?_; (conv => whnf))
        | (refine bc_intro (fun _ => ?_) (fun _ => ?_) <;> (conv => whnf))
        | (refine need_intro ?_ ?_; (conv => whnf))
        | (refine wk_refl ?_; (conv => whnf))
        | (refine draw_intro (by kernel_rfl) ?_; (conv => whnf))
        | (refine ord_intro (by kernel_rfl) ?_; (conv => whnf))
      all_goals try simp only [hs, hs2, cellsB8, bytesB8, true_and, and_true, decide_eq_true_eq, decide_eq_false_iff_not, beq_iff_eq, beq_eq_false_iff_ne, bne_iff_ne, bne_eq_false_iff_eq, ne_eq, Decidable.not_not] at *
      all_goals first
        | omega
        | exact ⟨by omega, by omega⟩
        | exact ⟨trivial, by omega, by omega⟩
        | (have hb1 : i + 1 < (flipB false b).length := by
             have h1 : atI (flipB false b) ((i + 1 : Nat) : Int) = ((1 : UInt8).toNat : Int) := by assumption
             exact (atI_is h1).1
           rw [hBl] at hb1
           simp only [Option.getD]
           exact ⟨by omega, by omega, by omega⟩)
        | exact (bytesR_enc rfl (fun i _ => by rw [Nat.zero_add])).1
        | (have hb1 : i + 1 < (flipB false b).length := by
             have h1 : atI (flipB false b) ((i + 1 : Nat) : Int) = ((1 : UInt8).toNat : Int) := by assumption
             exact (atI_is h1).1
           rw [hBl] at hb1
           rw [rd_fin (c := (ck, false)) h3' hi (by assumption) (by assumption), (bytesR_enc (g := fun i j => cellOf encB t (0 + i) j) (n := t.length) (l := t) rfl (fun i _ => by rw [Nat.zero_add])).2]
           (refine ⟨LeS.tup (LeL.cons (LeS.refl _) (LeL.cons (LeS.d (DLe.rows ?_ row_drop)) (LeL.cons (LeS.refl _) LeL.nil))), trivial⟩
            simp only [List.length_drop, Option.getD]
            omega)
          )
        | (rw [rd_stop (c := (ck, false)) h3' hi (by assumption)]
           exact ⟨LeS.tup (LeL.cons (LeS.refl _) (LeL.cons (les_nil rfl) (LeL.cons (LeS.refl _) LeL.nil))), trivial⟩
          )
        | (rw [rd_odd (c := (ck, false)) h3' hi (by assumption) (by assumption) (by assumption)]
           exact ⟨LeS.tup (LeL.cons (LeS.refl _) (LeL.cons (les_nil rfl) (LeL.cons (LeS.refl _) LeL.nil))), trivial⟩
          )
        | (refine NextVC.mk (t ++ [(flipB false b).getD i default], i + 1) ?_ ?_ ?_
           (conv => whnf)
           repeat' (refine need_intro ?_ ?_; (conv => whnf))
           all_goals try simp only [hs, hs2, cellsB8, bytesB8, true_and, and_true, List.length_append, List.length_singleton]
           all_goals first
             | exact trivial
             | exact DLe.refl _
             | exact DLe.of_eq (by rw [hs])
             | exact DLe.of_eq (by rw [hs2])
             | exact ⟨rd_keep hi (by assumption) (by assumption), by omega, by have := atI_pos (B := flipB false b) (i := i) (by assumption); omega⟩
             | exact ⟨rd_esc hi (by assumption) (by assumption), by omega, by
                 have h1 : atI (flipB false b) ((i + 1 : Nat) : Int) = ((255 : UInt8).toNat : Int) := by assumption
                 have := (atI_is h1).1
                 omega⟩
             | (have := atI_pos (B := flipB false b) (i := i) (by assumption); omega)
             | (rw [u8_at (by assumption)]; exact row_snoc rfl (RowLe.refl _ _ _) (jlt1 (DLe.refl _)))
             | exact row_snoc rfl (RowLe.refl _ _ _) (jlt1 (DLe.refl _))
           done)
        | (refine NextVC.mk (t ++ [0], i + 1 + 1) ?_ ?_ ?_
           (conv => whnf)
           repeat' (refine need_intro ?_ ?_; (conv => whnf))
           all_goals try simp only [hs, hs2, cellsB8, bytesB8, true_and, and_true, List.length_append, List.length_singleton]
           all_goals first
             | exact trivial
             | exact DLe.refl _
             | exact DLe.of_eq (by rw [hs])
             | exact DLe.of_eq (by rw [hs2])
             | exact ⟨rd_keep hi (by assumption) (by assumption), by omega, by have := atI_pos (B := flipB false b) (i := i) (by assumption); omega⟩
             | exact ⟨rd_esc hi (by assumption) (by assumption), by omega, by
                 have h1 : atI (flipB false b) ((i + 1 : Nat) : Int) = ((255 : UInt8).toNat : Int) := by assumption
                 have := (atI_is h1).1
                 omega⟩
             | (have := atI_pos (B := flipB false b) (i := i) (by assumption); omega)
             | (rw [u8_at (by assumption)]; exact row_snoc rfl (RowLe.refl _ _ _) (jlt1 (DLe.refl _)))
             | exact row_snoc rfl (RowLe.refl _ _ _) (jlt1 (DLe.refl _))
           done)
        | trace_state
theorem readp_spec (ck : Int) (cd : Bool) (b : List UInt8) : b.length ≤ 140737488351232 → Sx.Spec Tryd.prog GG 35 [.agg [.d (.int .i64 ck), .d (.bool cd)], .d (encL encB 1 b)] [] (.tup [.agg [.d (.int .i64 (rdP (ck, cd) b).1.1), .d (.int .i64 (rdP (ck, cd) b).1.2.1), .d (.str (rdP (ck, cd) b).1.2.2)], .d (encL encB 1 (rdP (ck, cd) b).2.1), .d (.bool (rdP (ck, cd) b).2.2)]) [] := by
  cases cd
  · exact readpfalse_spec ck b
  · exact readptrue_spec ck b
end Go.Proofs.YtigmgeglnbjfeaaDoor
