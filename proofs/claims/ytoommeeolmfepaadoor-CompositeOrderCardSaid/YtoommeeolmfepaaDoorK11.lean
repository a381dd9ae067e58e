/- Contracts of functions that the law reaches: YtoommeeolmfepaaDoorK11. Written for this claim. -/
import Derived.Test.YtoommeeolmfepaaDoorK10
import Derived.Test.YtoommeeolmfepaaDoorSxCmp
namespace Go.Proofs.YtoommeeolmfepaaDoor
open Go Go.Sx Go.ChangeShapes Go.WideShapes Go.ChangeAt Go.RowKit
set_option linter.unusedVariables false
set_option linter.unusedSimpArgs false
set_option maxRecDepth 100000
set_option maxHeartbeats 1000000 in
theorem fieldr_spec (ck : Int) (cd : Bool) (B : List UInt8) : B.length ≤ 1000 → Sx.Spec Tryd.prog GG 49 [.agg [.d (.int .i64 ck), .d (.bool cd)], .d (encL encB 1 B)] [] (.tup [.agg [.d (.int .i64 (refF ck B).1.1), .d (.int .i64 (refF ck B).1.2.1), .d (.str (refF ck B).1.2.2)], .d (.int .i64 (refF ck B).2)]) [] := by
  intro hl
  refine spec_intro (E := EE) (fn := Tryd.f49) eok (by kernel_rfl) (by kernel_rfl) Tryd.call49 (by kernel_rfl) (by kernel_rfl) ?_
  conv => whnf
  repeat' first
    | (refine bc_true (by assumption) ?_; (conv => whnf))
    | (refine bc_false (by assumption) ?_; (conv => whnf))
    | (refine bc_intro (fun _ => ?_) (fun _ => ?_) <;> (conv => whnf))
    | (refine need_intro ?_ ?_; (conv => whnf))
    | (refine wk_refl ?_; (conv => whnf))
    | (refine draw_intro (by kernel_rfl) ?_; (conv => whnf))
    | (refine ord_intro (by kernel_rfl) ?_; (conv => whnf))
  all_goals try simp only [Int.toNat_zero, decide_eq_true_eq, decide_eq_false_iff_not, beq_iff_eq, beq_eq_false_iff_ne, ne_eq] at *
  all_goals try first
    | exact ⟨by omega, by omega⟩
    | (exfalso; omega)
    | (rw [refF_nil (by omega)]; exact ⟨LeS.refl _, trivial⟩)
    | (rw [refF_null (by omega) (byte_i (c := 1) (by assumption))]; exact ⟨LeS.refl _, trivial⟩)
    | (rw [refF_zero (by omega) (byte_n (c := 1) (by assumption)) (fun h1 h2 => by have h3 : (B.getD 0 default).toNat = 2 := by rw [h1]; rfl
                                                                                   omega) (fun h1 h2 => by have h3 : (B.getD 0 default).toNat = 3 := by rw [h1]; rfl
                                                                                                           omega)]
       exact ⟨LeS.refl _, trivial⟩)
  · rename_i n1 n2 n3 hk h9
    have h2 : B.getD 0 default = 2 := byte_i (c := 2) n3
    subst hk
    rw [refF_int (by omega) h2]
    refine loop_auto [0, 1, 2, 4] [2, 4] (fun k : Nat => [(6, .d (.int .u64 (valN ((B.drop 1).take k)))), (7, .d (.int .i64 ((k + 1 : Nat) : Int)))]) (fun k => []) (fun k => k ≤ 8) (fun k => 8 - k) 0 ?_ (fun k hk => ?_) (by omega)
    · conv => whnf
      repeat' first
        | (refine bc_true (by assumption) ?_; (conv => whnf))
        | (refine bc_false (by assumption) ?_; (conv => whnf))
        | (refine bc_intro (fun _ => ?_) (fun _ => ?_) <;> (conv => whnf))
        | (refine need_intro ?_ ?_; (conv => whnf))
        | (refine wk_refl ?_; (conv => whnf))
        | (refine draw_intro (by kernel_rfl) ?_; (conv => whnf))
        | (refine ord_intro (by kernel_rfl) ?_; (conv => whnf))
      all_goals first | exact trivial | exact DLe.refl _ | exact DLe.nil | exact RowLe.refl _ _ _ | exact ⟨rfl, rfl⟩ | exact ⟨rfl, rfl, rfl⟩ | trace_state
    · have hs : IntKind.i64.wrap (((k + 1 : Nat) : Int) + 1) = ((k + 1 + 1 : Nat) : Int) := wrap_succ (n := 2000) (by omega) (by omega)
      conv => whnf
      repeat' first
        | (refine NextVC.mk (k + 1) ?_ ?_ ?_; (conv => whnf))
        | (refine bc_true (by assumption) ?_; (conv => whnf))
        | (refine bc_false (by assumption) ?_; (conv => whnf))
        | (refine bc_intro (fun _ => ?_) (fun _ => ?_) <;> (conv => whnf))
        | (refine need_intro ?_ ?_; (conv => whnf))
        | (refine wk_refl ?_; (conv => whnf))
        | (refine draw_intro (by kernel_rfl) ?_; (conv => whnf))
        | (refine ord_intro (by kernel_rfl) ?_; (conv => whnf))
      all_goals try simp only [decide_eq_true_eq, decide_eq_false_iff_not, Int.toNat_natCast] at *
      all_goals first
        | exact trivial
        | omega
        | exact DLe.refl _
        | exact DLe.of_eq (by rw [hs])
        | exact DLe.of_eq (by rw [ref_step (by omega) (by omega)])
        | exact ⟨by omega, by omega⟩
        | (have hk8 : k = 8 := by omega
           subst hk8
           rw [int_fin (by omega)]
           exact ⟨LeS.refl _, trivial⟩)
        | trace_state
  · rename_i n1 n2 n3 n4 hk
    have h3 : B.getD 0 default = 3 := byte_i (c := 3) n4
    subst hk
    refine loop_auto [0, 1, 2, 4] [2, 4] (fun x : List UInt8 × Nat => [(8, .osl 500 1 0 x.1.length), (9, .d (.int .i64 x.2))]) (fun x => [(500, .row 5 1 x.1.length (cellOf encB x.1))]) (fun x => RdI B x.2 x.1 ∧ x.1.length ≤ x.2 ∧ x.2 ≤ B.length) (fun x => B.length - x.2) ([], 1) ?_ (fun x hx => ?_) ⟨RdI.zero, by simp, by omega⟩
    · conv => whnf
      repeat' first
        | (refine bc_true (by assumption) ?_; (conv => whnf))
        | (refine bc_false (by assumption) ?_; (conv => whnf))
        | (refine bc_intro (fun _ => ?_) (fun _ => ?_) <;> (conv => whnf))
        | (refine need_intro ?_ ?_; (conv => whnf))
        | (refine wk_refl ?_; (conv => whnf))
        | (refine draw_intro (by kernel_rfl) ?_; (conv => whnf))
        | (refine ord_intro (by kernel_rfl) ?_; (conv => whnf))
      all_goals first | exact trivial | exact DLe.refl _ | exact DLe.nil | exact RowLe.refl _ _ _ | exact ⟨rfl, rfl⟩ | exact ⟨rfl, rfl, rfl⟩ | trace_state
    · obtain ⟨t, i⟩ := x
      obtain ⟨hi, ht, hib⟩ := hx
      simp only at hi ht hib
      have hs : IntKind.i64.wrap ((i : Int) + 1) = ((i + 1 : Nat) : Int) := wrap_succ (n := 140737488351233) (by omega) (by omega)
      have hs2 : IntKind.i64.wrap (((i + 1 : Nat) : Int) + 1) = ((i + 1 + 1 : Nat) : Int) := wrap_succ (n := 140737488351234) (by omega) (by omega)
      have hs3 : IntKind.i64.wrap ((i : Int) + 2) = ((i + 2 : Nat) : Int) := by rw [wrap_of (by omega) (by omega)]; omega
      conv => whnf
      repeat' first
        | (refine bc_true (by assumption) ?_; (conv => whnf))
        | (refine bc_false (by assumption) ?_; (conv => whnf))
        | (refine bc_intro (fun _ => ?_) (fun _ => ?_) <;> (conv => whnf))
        | (refine need_intro ?_ ?_; (conv => whnf))
        | (refine wk_refl ?_; (conv => whnf))
        | (refine draw_intro (by kernel_rfl) ?_; (conv => whnf))
        | (refine ord_intro (by kernel_rfl) ?_; (conv => whnf))
      all_goals try simp only [hs, hs2, hs3, cellsB8, bytesB8, true_and, and_true, decide_eq_true_eq, decide_eq_false_iff_not, Int.toNat_natCast] at *
      all_goals first
        | omega
        | exact ⟨by omega, by omega⟩
        | exact ⟨trivial, by omega, by omega⟩
        | exact (bytesR_enc rfl (fun i _ => by rw [Nat.zero_add])).1
        | (rw [refF_bad (by omega) h3 (hi.stop (by omega))]; exact ⟨LeS.refl _, trivial⟩)
        | (rw [refF_text (by omega) (by omega) h3 (hi.fin (by omega) (byte_beq (c := 0) (by assumption)) (byte_is (c := 1) (by assumption))), (bytesR_enc (g := fun i j => cellOf encB t (0 + i) j) (n := t.length) (l := t) rfl (fun i _ => by rw [Nat.zero_add])).2]
           exact ⟨LeS.refl _, trivial⟩)
        | (rw [refF_bad (by omega) h3 (hi.bad (byte_beq (c := 0) (by assumption)) (.inl (byte_bne (c := 255) (by assumption))) (.inl (byte_isnt (c := 1) (by assumption))))]
           exact ⟨LeS.refl _, trivial⟩)
        | (refine NextVC.mk (t ++ [B.getD i default], i + 1) ?_ ?_ ?_
           (conv => whnf)
           repeat' (refine need_intro ?_ ?_; (conv => whnf))
           all_goals try simp only [hs, hs2, cellsB8, bytesB8, true_and, and_true, List.length_append, List.length_singleton, Int.toNat_natCast]
           all_goals first
             | exact trivial
             | exact DLe.refl _
             | exact DLe.of_eq (by rw [hs])
             | exact DLe.of_eq (by rw [hs2])
             | exact ⟨hi.keep (by omega) (byte_bne (c := 0) (by assumption)), by omega, by omega⟩
             | exact ⟨hi.esc (by omega) (byte_beq (c := 0) (by assumption)) (byte_beq (c := 255) (by assumption)), by omega, by omega⟩
             | omega
             | exact row_snoc rfl (RowLe.refl _ _ _) (jlt1 (DLe.refl _))
           done)
        | (refine NextVC.mk (t ++ [0], i + 1 + 1) ?_ ?_ ?_
           (conv => whnf)
           repeat' (refine need_intro ?_ ?_; (conv => whnf))
           all_goals try simp only [hs, hs2, cellsB8, bytesB8, true_and, and_true, List.length_append, List.length_singleton, Int.toNat_natCast]
           all_goals first
             | exact trivial
             | exact DLe.refl _
             | exact DLe.of_eq (by rw [hs])
             | exact DLe.of_eq (by rw [hs2])
             | exact ⟨hi.keep (by omega) (byte_bne (c := 0) (by assumption)), by omega, by omega⟩
             | exact ⟨hi.esc (by omega) (byte_beq (c := 0) (by assumption)) (byte_beq (c := 255) (by assumption)), by omega, by omega⟩
             | omega
             | exact row_snoc rfl (RowLe.refl _ _ _) (jlt1 (DLe.refl _))
           done)
        | trace_state
end Go.Proofs.YtoommeeolmfepaaDoor
