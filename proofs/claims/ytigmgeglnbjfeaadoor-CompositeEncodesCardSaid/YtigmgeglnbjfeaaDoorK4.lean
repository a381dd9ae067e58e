/- Contracts of functions that the law reaches: YtigmgeglnbjfeaaDoorK4. Written for this claim. -/
import Derived.Test.YtigmgeglnbjfeaaDoorK3
namespace Go.Proofs.YtigmgeglnbjfeaaDoor
open Go Go.Sx Go.ChangeShapes Go.WideShapes Go.ChangeAt Go.RowKit
set_option linter.unusedVariables false
set_option linter.unusedSimpArgs false
set_option maxRecDepth 100000
theorem bytesr_spec (fk fi : Int) (ft : List UInt8) : (I64 fi ∧ ft.length ≤ 1000 ∧ (fk = 0 ∨ fk = 1 ∨ fk = 2)) → Sx.Spec Tryd.prog GG 36 [.agg [.d (.int .i64 fk), .d (.int .i64 fi), .d (.str ft)]] [] (.osl 1000 1 0 (enc1 (fk, fi, ft)).length) [(1000, .row 5 1 (enc1 (fk, fi, ft)).length (cellOf encB (enc1 (fk, fi, ft))))] := by
  rintro ⟨hfi, hft, hk⟩
  rcases hk with rfl | rfl | rfl
  · rw [enc1_null (by decide) (by decide)]
    refine spec_intro (E := EL) (fn := Tryd.f36) eokL (by kernel_rfl) (by kernel_rfl) Tryd.call36 (by kernel_rfl) (by kernel_rfl) ?_
    conv => whnf
    repeat' first
      | (refine bc_true (by assumption) ?_; (conv => whnf))
      | (refine bc_false (by assumption) ?_; (conv => whnf))
      | (refine bc_intro (fun _ => ?_) (fun _ => ?_) <;> (conv => whnf))
      | (refine need_intro ?_ ?_; (conv => whnf))
      | (refine wk_refl ?_; (conv => whnf))
      | (refine draw_intro (by kernel_rfl) ?_; (conv => whnf))
      | (refine ord_intro (by kernel_rfl) ?_; (conv => whnf))
    all_goals try simp only [cellsB8, bytesB8]
    all_goals first | exact trivial | exact ⟨trivial, trivial, rfl⟩ | exact row_one (x := (1 : UInt8)) (jlt1 (DLe.refl _)) | trace_state
  · rw [enc1_int]
    refine spec_intro (E := EL) (fn := Tryd.f36) eokL (by kernel_rfl) (by kernel_rfl) Tryd.call36 (by kernel_rfl) (by kernel_rfl) ?_
    conv => whnf
    repeat' first
      | (refine bc_true (by assumption) ?_; (conv => whnf))
      | (refine bc_false (by assumption) ?_; (conv => whnf))
      | (refine need_intro ?_ ?_; (conv => whnf))
      | (refine wk_refl ?_; (conv => whnf))
      | (refine draw_intro (by kernel_rfl) ?_; (conv => whnf))
      | (refine ord_intro (by kernel_rfl) ?_; (conv => whnf))
    · refine loop_auto [1, 3] [1] (fun i : Nat => [(5, .d (.int .i64 (56 - 8 * (i : Int)))), (4, .osl 500 1 0 (i + 1))]) (fun i => [(500, .row 5 1 (i + 1) (cellOf encB (2 :: (beL 8 (offN fi)).take i)))]) (fun i => i ≤ 8) (fun i => 8 - i) 0 ?_ (fun i hi => ?_) (by omega)
      · conv => whnf
        repeat' first
          | (refine bc_true (by assumption) ?_; (conv => whnf))
          | (refine bc_false (by assumption) ?_; (conv => whnf))
          | (refine bc_intro (fun _ => ?_) (fun _ => ?_) <;> (conv => whnf))
          | (refine need_intro ?_ ?_; (conv => whnf))
          | (refine wk_refl ?_; (conv => whnf))
          | (refine draw_intro (by kernel_rfl) ?_; (conv => whnf))
          | (refine ord_intro (by kernel_rfl) ?_; (conv => whnf))
        all_goals first | exact trivial | exact DLe.refl _ | exact ⟨rfl, rfl⟩ | exact ⟨rfl, rfl, rfl⟩ | exact row_one (x := (2 : UInt8)) (jlt1 (DLe.refl _)) | trace_state
      · conv => whnf
        repeat' first
          | (refine bc_true (by assumption) ?_; (conv => whnf))
          | (refine bc_false (by assumption) ?_; (conv => whnf))
          | (refine need_intro ?_ ?_; (conv => whnf))
          | (refine wk_refl ?_; (conv => whnf))
          | (refine draw_intro (by kernel_rfl) ?_; (conv => whnf))
          | (refine ord_intro (by kernel_rfl) ?_; (conv => whnf))
        refine bc_intro (fun h2 => ?_) (fun h2 => ?_) <;> (conv => whnf)
        · have hi8 : i < 8 := by simp only [decide_eq_true_eq] at h2; omega
          have hs : IntKind.i64.wrap (56 - 8 * (i : Int) - 8) = 56 - 8 * ((i + 1 : Nat) : Int) := by rw [wrap_of (by omega) (by omega)]; omega
          have hu : IntKind.u64.wrap (56 - 8 * (i : Int)) = 56 - 8 * (i : Int) := by rw [u64_wrap]; omega
          conv => whnf
          repeat' first
            | (refine NextVC.mk (i + 1) ?_ ?_ ?_; (conv => whnf))
            | (refine bc_true (by assumption) ?_; (conv => whnf))
            | (refine bc_false (by assumption) ?_; (conv => whnf))
            | (refine bc_intro (fun _ => ?_) (fun _ => ?_) <;> (conv => whnf))
            | (refine need_intro ?_ ?_; (conv => whnf))
            | (refine wk_refl ?_; (conv => whnf))
            | (refine draw_intro (by kernel_rfl) ?_; (conv => whnf))
            | (refine ord_intro (by kernel_rfl) ?_; (conv => whnf))
          all_goals try simp only [cellsB8, bytesB8, true_and, and_true, decide_eq_true_eq, decide_eq_false_iff_not, Int.toNat_natCast, List.length_append, List.length_cons, List.length_nil, ge_iff_le, Int.not_le] at *
          all_goals try first
            | exact trivial
            | omega
            | exact DLe.refl _
            | exact DLe.of_eq (by rw [hs])
            | exact DLe.of_eq (by rw [hs (by omega)])
            | exact ⟨by omega, by omega⟩
            | exact ⟨trivial, by omega, by omega⟩
          rw [hu, be8_next (by omega)]
          simp only [Nat.zero_add]
          refine row_snoc (by simp [beL_len]; omega) (RowLe.refl _ _ _) (jlt1 (DLe.of_eq ?_))
          exact congrArg (D.int IntKind.u8) (int_byte hfi (by omega))
        · have hi8 : i = 8 := by simp only [decide_eq_false_iff_not] at h2; omega
          subst hi8
          conv => whnf
          repeat' first
            | (refine bc_true (by assumption) ?_; (conv => whnf))
            | (refine bc_false (by assumption) ?_; (conv => whnf))
            | (refine bc_intro (fun _ => ?_) (fun _ => ?_) <;> (conv => whnf))
            | (refine need_intro ?_ ?_; (conv => whnf))
            | (refine wk_refl ?_; (conv => whnf))
            | (refine draw_intro (by kernel_rfl) ?_; (conv => whnf))
            | (refine ord_intro (by kernel_rfl) ?_; (conv => whnf))
          all_goals try simp only [cellsB8, bytesB8]
          all_goals first | exact trivial | exact ⟨trivial, trivial, by simp [beL_len]⟩ | exact RowLe.refl _ _ _ | trace_state
  · rw [enc1_text]
    have hel : ∀ i, (esc (ft.take i)).length ≤ 2000 := fun i => by
      have := esc_len (t := ft.take i)
      have : (ft.take i).length ≤ ft.length := by rw [List.length_take]; exact Nat.min_le_right _ _
      omega
    refine spec_intro (E := EL) (fn := Tryd.f36) eokL (by kernel_rfl) (by kernel_rfl) Tryd.call36 (by kernel_rfl) (by kernel_rfl) ?_
    conv => whnf
    repeat' first
      | (refine bc_true (by assumption) ?_; (conv => whnf))
      | (refine bc_false (by assumption) ?_; (conv => whnf))
      | (refine need_intro ?_ ?_; (conv => whnf))
      | (refine wk_refl ?_; (conv => whnf))
      | (refine draw_intro (by kernel_rfl) ?_; (conv => whnf))
      | (refine ord_intro (by kernel_rfl) ?_; (conv => whnf))
    · refine loop_auto [1] [1] (fun i : Nat => [(7, .d (.int .i64 i)), (6, .osl 500 1 0 ((esc (ft.take i)).length + 1))]) (fun i => [(500, .row 5 1 ((esc (ft.take i)).length + 1) (cellOf encB (3 :: esc (ft.take i))))]) (fun i => i ≤ ft.length) (fun i => ft.length - i) 0 ?_ (fun i hi => ?_) (by omega)
      · conv => whnf
        repeat' first
          | (refine bc_true (by assumption) ?_; (conv => whnf))
          | (refine bc_false (by assumption) ?_; (conv => whnf))
          | (refine bc_intro (fun _ => ?_) (fun _ => ?_) <;> (conv => whnf))
          | (refine need_intro ?_ ?_; (conv => whnf))
          | (refine wk_refl ?_; (conv => whnf))
          | (refine draw_intro (by kernel_rfl) ?_; (conv => whnf))
          | (refine ord_intro (by kernel_rfl) ?_; (conv => whnf))
        all_goals first | exact trivial | exact DLe.refl _ | exact ⟨rfl, rfl⟩ | exact ⟨rfl, rfl, rfl⟩ | exact row_one (x := (3 : UInt8)) (jlt1 (DLe.refl _)) | trace_state
      · have hli := hel i
        conv => whnf
        repeat' first
          | (refine bc_true (by assumption) ?_; (conv => whnf))
          | (refine bc_false (by assumption) ?_; (conv => whnf))
          | (refine need_intro ?_ ?_; (conv => whnf))
          | (refine wk_refl ?_; (conv => whnf))
          | (refine draw_intro (by kernel_rfl) ?_; (conv => whnf))
          | (refine ord_intro (by kernel_rfl) ?_; (conv => whnf))
        refine bc_intro (fun h2 => ?_) (fun h2 => ?_) <;> (conv => whnf)
        · have hi8 : i < ft.length := by simp only [decide_eq_true_eq] at h2; omega
          have hs : IntKind.i64.wrap ((i : Int) + 1) = ((i + 1 : Nat) : Int) := wrap_succ (n := 4000) (by omega) (by omega)
          have e0 : (((ft.getD i 0).toNat : Int) == 0) = true → (3 :: esc (ft.take (i + 1)) : List UInt8) = 3 :: esc (ft.take i) ++ [ft.getD i default] ++ [255] := fun h => esc_zero3 hi8 (byte_zero h)
          have e1 : (((ft.getD i 0).toNat : Int) == 0) = false → (3 :: esc (ft.take (i + 1)) : List UInt8) = 3 :: esc (ft.take i) ++ [ft.getD i default] := fun h => esc_keep3 hi8 (byte_pos h)
          have n0 : (((ft.getD i 0).toNat : Int) == 0) = true → (esc (ft.take i)).length + 1 + 1 + 1 = (esc (ft.take (i + 1))).length + 1 := fun h => by have := congrArg List.length (e0 h); simp at this; omega
          have n1 : (((ft.getD i 0).toNat : Int) == 0) = false → (esc (ft.take i)).length + 1 + 1 = (esc (ft.take (i + 1))).length + 1 := fun h => by have := congrArg List.length (e1 h); simp at this; omega
          conv => whnf
          repeat' first
            | (refine NextVC.mk (i + 1) ?_ ?_ ?_; (conv => whnf))
            | (refine bc_true (by assumption) ?_; (conv => whnf))
            | (refine bc_false (by assumption) ?_; (conv => whnf))
            | (refine bc_intro (fun _ => ?_) (fun _ => ?_) <;> (conv => whnf))
            | (refine need_intro ?_ ?_; (conv => whnf))
            | (refine wk_refl ?_; (conv => whnf))
            | (refine draw_intro (by kernel_rfl) ?_; (conv => whnf))
            | (refine ord_intro (by kernel_rfl) ?_; (conv => whnf))
          all_goals try simp only [cellsB8, bytesB8, true_and, and_true, Int.toNat_natCast, Nat.zero_add]
          all_goals first
            | exact trivial
            | omega
            | exact DLe.refl _
            | exact DLe.of_eq (by rw [hs])
            | exact ⟨by omega, by omega⟩
            | exact n0 (by assumption)
            | exact n1 (by assumption)
            | (rw [← n0 (by assumption), e0 (by assumption)]; exact row_snoc2 (by simp) (RowLe.refl _ _ _) (DLe.refl _) (DLe.refl _))
            | (rw [← n1 (by assumption), e1 (by assumption)]; exact row_snoc (by simp) (RowLe.refl _ _ _) (jlt1 (DLe.refl _)))
            | trace_state
        · have hi8 : i = ft.length := by simp only [decide_eq_false_iff_not] at h2; omega
          subst hi8
          conv => whnf
          repeat' first
            | (refine bc_true (by assumption) ?_; (conv => whnf))
            | (refine bc_false (by assumption) ?_; (conv => whnf))
            | (refine bc_intro (fun _ => ?_) (fun _ => ?_) <;> (conv => whnf))
            | (refine need_intro ?_ ?_; (conv => whnf))
            | (refine wk_refl ?_; (conv => whnf))
            | (refine draw_intro (by kernel_rfl) ?_; (conv => whnf))
            | (refine ord_intro (by kernel_rfl) ?_; (conv => whnf))
          all_goals try simp only [cellsB8, bytesB8, Nat.zero_add]
          all_goals first | exact trivial | exact ⟨trivial, trivial, by simp⟩ | exact ⟨trivial, by omega, by omega⟩ | exact ⟨rfl, by omega, by omega⟩ | (rw [show (3 :: esc (ft.take ft.length) ++ [0, 1] : List UInt8).length = (esc (ft.take ft.length)).length + 1 + 2 by simp]; exact row_two (by simp) (DLe.refl _) (DLe.refl _)) | trace_state
theorem bytesr_at (m : Nat) (fk fi : Int) (ft : List UInt8) : (I64 fi ∧ ft.length ≤ 1000 ∧ (fk = 0 ∨ fk = 1 ∨ fk = 2)) → Sx.Spec Tryd.prog GG 36 [.agg [.d (.int .i64 fk), .d (.int .i64 fi), .d (.str ft)]] [] (.osl m 1 0 (enc1 (fk, fi, ft)).length) [(m, .row 5 1 (enc1 (fk, fi, ft)).length (cellOf encB (enc1 (fk, fi, ft))))] := fun h => (bytesr_spec fk fi ft h).new1 m
end Go.Proofs.YtigmgeglnbjfeaaDoor
