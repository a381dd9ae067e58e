/- Contracts of functions that the law reaches: YtigmgeglnbjfeaaDoorK3. Written for this claim. -/
import Derived.Test.YtigmgeglnbjfeaaDoorK2
import Derived.Test.YtigmgeglnbjfeaaDoorSxCmp
namespace Go.Proofs.YtigmgeglnbjfeaaDoor
open Go Go.Sx Go.ChangeShapes Go.WideShapes Go.ChangeAt Go.RowKit
set_option linter.unusedVariables false
set_option linter.unusedSimpArgs false
set_option maxRecDepth 100000
theorem cellsB8 : Tryd.prog.cellsOf 5 = 1 := by kernel_rfl
theorem bytesB8 : Tryd.prog.bytesOf 5 = 1 := by kernel_rfl
theorem fieldp_spec (ck : Int) (cd : Bool) (fk fi : Int) (ft : List UInt8) : (I64 fi ∧ ft.length ≤ 1000) → Sx.Spec Tryd.prog GG 26 [.agg [.d (.int .i64 ck), .d (.bool cd)], .agg [.d (.int .i64 fk), .d (.int .i64 fi), .d (.str ft)]] [] (.d (encL encB 1 (encF (ck, cd) (fk, fi, ft)))) [] := by
  rintro ⟨hfi, hft⟩
  refine spec_intro (E := EE) (fn := Tryd.f26) eok (by kernel_rfl) (by kernel_rfl) Tryd.call26 (by kernel_rfl) (by kernel_rfl) ?_
  conv => whnf
  repeat' first
    | (refine bc_true (by assumption) ?_; (conv => whnf))
    | (refine bc_false (by assumption) ?_; (conv => whnf))
    | (refine need_intro ?_ ?_; (conv => whnf))
    | (refine wk_refl ?_; (conv => whnf))
    | (refine draw_intro (by kernel_rfl) ?_; (conv => whnf))
    | (refine ord_intro (by kernel_rfl) ?_; (conv => whnf))
  refine bc_intro (fun h1 => ?_) (fun h1 => ?_) <;> (conv => whnf)
  · have hk1 : fk = 1 := by simpa using h1
    subst hk1
    conv => whnf
    repeat' first
      | (refine bc_true (by assumption) ?_; (conv => whnf))
      | (refine bc_false (by assumption) ?_; (conv => whnf))
      | (refine need_intro ?_ ?_; (conv => whnf))
      | (refine wk_refl ?_; (conv => whnf))
      | (refine draw_intro (by kernel_rfl) ?_; (conv => whnf))
      | (refine ord_intro (by kernel_rfl) ?_; (conv => whnf))
    · refine loop_auto [2, 3] [2, 3] (fun i : Nat => [(6, .d (.int .i64 (56 - 8 * (i : Int)))), (5, .osl 500 1 0 (i + 1))]) (fun i => [(500, .row 5 1 (i + 1) (cellOf encB (2 :: (beL 8 (offN fi)).take i)))]) (fun i => i ≤ 8) (fun i => 8 - i) 0 ?_ (fun i hi => ?_) (by omega)
      · conv => whnf
        repeat' first
          | (refine bc_true (by assumption) ?_; (conv => whnf))
          | (refine bc_false (by assumption) ?_; (conv => whnf))
          | (refine bc_intro (fun _ => ?_) (fun _ => ?_) <;> (conv => whnf))
          | (refine need_intro ?_ ?_; (conv => whnf))
          | (refine wk_refl ?_; (conv => whnf))
          | (refine draw_intro (by kernel_rfl) ?_; (conv => whnf))
          | (refine ord_intro (by kernel_rfl) ?_; (conv => whnf))
        all_goals first | exact trivial | exact DLe.refl _ | exact ⟨rfl, rfl⟩ | exact ⟨rfl, rfl, rfl⟩ | exact row_one (x := (2 : UInt8)) (jlt1 (DLe.refl _))
      · conv => whnf
        repeat' first
          | (refine bc_true (by assumption) ?_; (conv => whnf))
          | (refine bc_false (by assumption) ?_; (conv => whnf))
          | (refine need_intro ?_ ?_; (conv => whnf))
          | (refine wk_refl ?_; (conv => whnf))
          | (refine draw_intro (by kernel_rfl) ?_; (conv => whnf))
          | (refine ord_intro (by kernel_rfl) ?_; (conv => whnf))
        refine bc_intro (fun h2 => ?_) (fun h2 => ?_) <;> (conv => whnf)
        · have hi8 : i < 8 := by simp only [decide_eq_true_eq] at h2; omega
          have hs : IntKind.i64.wrap (56 - 8 * (i : Int) - 8) = 56 - 8 * ((i + 1 : Nat) : Int) := by rw [wrap_of (by omega) (by omega)]; omega
          conv => whnf
          repeat' first
            | (refine NextVC.mk (i + 1) ?_ ?_ ?_; (conv => whnf))
            | (refine bc_true (by assumption) ?_; (conv => whnf))
            | (refine bc_false (by assumption) ?_; (conv => whnf))
            | (refine bc_intro (fun _ => ?_) (fun _ => ?_) <;> (conv => whnf))
            | (refine need_intro ?_ ?_; (conv => whnf))
            | (refine wk_refl ?_; (conv => whnf))
            | (refine draw_intro (by kernel_rfl) ?_; (conv => whnf))
            | (refine ord_intro (by kernel_rfl) ?_; (conv => whnf))
          all_goals try simp only [cellsB8, bytesB8, true_and, and_true, decide_eq_true_eq, decide_eq_false_iff_not, Int.toNat_natCast, List.length_append, List.length_cons, List.length_nil, ge_iff_le, Int.not_le] at *
          all_goals try first
            | exact trivial
            | omega
            | exact DLe.refl _
            | exact DLe.of_eq (by rw [hs])
            | exact DLe.of_eq (by rw [hs (by omega)])
            | exact ⟨by omega, by omega⟩
            | exact ⟨trivial, by omega, by omega⟩
          · rw [be8_next (by omega)]
            refine row_snoc (by simp [beL_len]; omega) (RowLe.refl _ _ _) (jlt1 (DLe.of_eq ?_))
            exact congrArg (D.int IntKind.u8) (int_byte hfi (by omega))
        · have hi8 : i = 8 := by simp only [decide_eq_false_iff_not] at h2; omega
          subst hi8
          conv => whnf
          repeat' first
            | (refine bc_true (by assumption) ?_; (conv => whnf))
            | (refine bc_false (by assumption) ?_; (conv => whnf))
            | (refine need_intro ?_ ?_; (conv => whnf))
            | (refine wk_refl ?_; (conv => whnf))
            | (refine draw_intro (by kernel_rfl) ?_; (conv => whnf))
            | (refine ord_intro (by kernel_rfl) ?_; (conv => whnf))
          refine bc_intro (fun h3 => ?_) (fun h3 => ?_) <;> (conv => whnf)
          · subst h3
            conv => whnf
            repeat' first
              | (refine bc_true (by assumption) ?_; (conv => whnf))
              | (refine bc_false (by assumption) ?_; (conv => whnf))
              | (refine bc_intro (fun _ => ?_) (fun _ => ?_) <;> (conv => whnf))
              | (refine need_intro ?_ ?_; (conv => whnf))
              | (refine wk_refl ?_; (conv => whnf))
              | (refine draw_intro (by kernel_rfl) ?_; (conv => whnf))
              | (refine ord_intro (by kernel_rfl) ?_; (conv => whnf))
            refine loop_auto [2, 3, 66] [2, 3] (fun k : Nat => [(67, .d (.int .i64 k)), (5, .osl 501 1 0 (9))]) (fun k => [(501, .row 5 1 (9) (cellOf encB (flipTo k (2 :: (beL 8 (offN fi)).take 8))))]) (fun k => k ≤ 9) (fun k => 9 - k) 0 ?_ (fun k hk => ?_) (by omega)
            · conv => whnf
              repeat' first
                | (refine bc_true (by assumption) ?_; (conv => whnf))
                | (refine bc_false (by assumption) ?_; (conv => whnf))
                | (refine bc_intro (fun _ => ?_) (fun _ => ?_) <;> (conv => whnf))
                | (refine need_intro ?_ ?_; (conv => whnf))
                | (refine wk_refl ?_; (conv => whnf))
                | (refine draw_intro (by kernel_rfl) ?_; (conv => whnf))
                | (refine ord_intro (by kernel_rfl) ?_; (conv => whnf))
              all_goals first | exact trivial | exact DLe.refl _ | exact ⟨rfl, rfl⟩ | exact ⟨rfl, rfl, rfl⟩ | (rw [flipTo_zero]; exact RowLe.refl _ _ _; done) | trace_state
            · have hs : IntKind.i64.wrap ((k : Int) + 1) = ((k + 1 : Nat) : Int) := wrap_succ (n := 4000) (by omega) (by omega)
              conv => whnf
              repeat' first
                | (refine NextVC.mk (k + 1) ?_ ?_ ?_; (conv => whnf))
                | (refine bc_true (by assumption) ?_; (conv => whnf))
                | (refine bc_false (by assumption) ?_; (conv => whnf))
                | (refine bc_intro (fun _ => ?_) (fun _ => ?_) <;> (conv => whnf))
                | (refine need_intro ?_ ?_; (conv => whnf))
                | (refine wk_refl ?_; (conv => whnf))
                | (refine draw_intro (by kernel_rfl) ?_; (conv => whnf))
                | (refine ord_intro (by kernel_rfl) ?_; (conv => whnf))
              all_goals try simp only [cellsB8, bytesB8, true_and, and_true, decide_eq_true_eq, decide_eq_false_iff_not, Int.toNat_natCast, List.length_append, List.length_cons, List.length_nil, ge_iff_le, Int.not_le] at *
              all_goals try first
                | exact trivial
                | omega
                | exact DLe.refl _
                | exact DLe.of_eq (by rw [hs])
                | exact DLe.of_eq (by rw [hs (by omega)])
                | exact ⟨by omega, by omega⟩
                | exact ⟨trivial, by omega, by omega⟩
              · have hl : (2 :: (beL 8 (offN fi)).take 8).length = 9 := by simp [beL_len]
                exact row_flip (by omega) (xor255 _)
              · have hl : (2 :: (beL 8 (offN fi)).take 8).length = 9 := by simp [beL_len]
                have hk9 : k = 9 := by omega
                refine ⟨les_row (by rw [encF_true enc1_int, flipTo_len]; exact hl.symm) ?_, trivial⟩
                rw [encF_true enc1_int, hk9, hl]
                exact RowLe.refl _ _ _
          · subst h3
            conv => whnf
            repeat' first
              | (refine bc_true (by assumption) ?_; (conv => whnf))
              | (refine bc_false (by assumption) ?_; (conv => whnf))
              | (refine bc_intro (fun _ => ?_) (fun _ => ?_) <;> (conv => whnf))
              | (refine need_intro ?_ ?_; (conv => whnf))
              | (refine wk_refl ?_; (conv => whnf))
              | (refine draw_intro (by kernel_rfl) ?_; (conv => whnf))
              | (refine ord_intro (by kernel_rfl) ?_; (conv => whnf))
            refine ⟨les_row ?_ ?_, trivial⟩
            · rw [encF_false enc1_int]; simp [beL_len]
            · rw [encF_false enc1_int]; exact RowLe.refl _ _ _
    · all_goals try simp only [cellsB8, bytesB8, true_and, and_true, decide_eq_true_eq, decide_eq_false_iff_not, Int.toNat_natCast, List.length_append, List.length_cons, List.length_nil, ge_iff_le, Int.not_le] at *
      all_goals try first
        | exact trivial
        | omega
        | exact DLe.refl _
        | exact DLe.of_eq (by rw [hs])
        | exact DLe.of_eq (by rw [hs (by omega)])
        | exact ⟨by omega, by omega⟩
        | exact ⟨trivial, by omega, by omega⟩
  · conv => whnf
    repeat' first
      | (refine bc_true (by assumption) ?_; (conv => whnf))
      | (refine bc_false (by assumption) ?_; (conv => whnf))
      | (refine need_intro ?_ ?_; (conv => whnf))
      | (refine wk_refl ?_; (conv => whnf))
      | (refine draw_intro (by kernel_rfl) ?_; (conv => whnf))
      | (refine ord_intro (by kernel_rfl) ?_; (conv => whnf))
    refine bc_intro (fun h2 => ?_) (fun h2 => ?_) <;> (conv => whnf)
    · have hk1 : fk = 2 := by simpa using h2
      subst hk1
      have hel : ∀ i, (esc (ft.take i)).length ≤ 2000 := fun i => by
        have := esc_len (t := ft.take i)
        have : (ft.take i).length ≤ ft.length := by rw [List.length_take]; exact Nat.min_le_right _ _
        omega
      conv => whnf
      repeat' first
        | (refine bc_true (by assumption) ?_; (conv => whnf))
        | (refine bc_false (by assumption) ?_; (conv => whnf))
        | (refine need_intro ?_ ?_; (conv => whnf))
        | (refine wk_refl ?_; (conv => whnf))
        | (refine draw_intro (by kernel_rfl) ?_; (conv => whnf))
        | (refine ord_intro (by kernel_rfl) ?_; (conv => whnf))
      · refine loop_auto [2, 3] [2, 3] (fun i : Nat => [(7, .d (.int .i64 i)), (5, .osl 500 1 0 ((esc (ft.take i)).length + 1))]) (fun i => [(500, .row 5 1 ((esc (ft.take i)).length + 1) (cellOf encB (3 :: esc (ft.take i))))]) (fun i => i ≤ ft.length) (fun i => ft.length - i) 0 ?_ (fun i hi => ?_) (by omega)
        · conv => whnf
          repeat' first
            | (refine bc_true (by assumption) ?_; (conv => whnf))
            | (refine bc_false (by assumption) ?_; (conv => whnf))
            | (refine bc_intro (fun _ => ?_) (fun _ => ?_) <;> (conv => whnf))
            | (refine need_intro ?_ ?_; (conv => whnf))
            | (refine wk_refl ?_; (conv => whnf))
            | (refine draw_intro (by kernel_rfl) ?_; (conv => whnf))
            | (refine ord_intro (by kernel_rfl) ?_; (conv => whnf))
          all_goals first | exact trivial | exact DLe.refl _ | exact ⟨rfl, rfl⟩ | exact ⟨rfl, rfl, rfl⟩ | exact row_one (x := (3 : UInt8)) (jlt1 (DLe.refl _)) | trace_state
        · have hli := hel i
          conv => whnf
          repeat' first
            | (refine bc_true (by assumption) ?_; (conv => whnf))
            | (refine bc_false (by assumption) ?_; (conv => whnf))
            | (refine need_intro ?_ ?_; (conv => whnf))
            | (refine wk_refl ?_; (conv => whnf))
            | (refine draw_intro (by kernel_rfl) ?_; (conv => whnf))
            | (refine ord_intro (by kernel_rfl) ?_; (conv => whnf))
          refine bc_intro (fun h2 => ?_) (fun h2 => ?_) <;> (conv => whnf)
          · have hi8 : i < ft.length := by simp only [decide_eq_true_eq] at h2; omega
            have hs : IntKind.i64.wrap ((i : Int) + 1) = ((i + 1 : Nat) : Int) := wrap_succ (n := 4000) (by omega) (by omega)
            have e0 : (((ft.getD i 0).toNat : Int) == 0) = true → (3 :: esc (ft.take (i + 1)) : List UInt8) = 3 :: esc (ft.take i) ++ [ft.getD i default] ++ [255] := fun h => esc_zero3 hi8 (byte_zero h)
            have e1 : (((ft.getD i 0).toNat : Int) == 0) = false → (3 :: esc (ft.take (i + 1)) : List UInt8) = 3 :: esc (ft.take i) ++ [ft.getD i default] := fun h => esc_keep3 hi8 (byte_pos h)
            have n0 : (((ft.getD i 0).toNat : Int) == 0) = true → (esc (ft.take i)).length + 1 + 1 + 1 = (esc (ft.take (i + 1))).length + 1 := fun h => by have := congrArg List.length (e0 h); simp at this; omega
            have n1 : (((ft.getD i 0).toNat : Int) == 0) = false → (esc (ft.take i)).length + 1 + 1 = (esc (ft.take (i + 1))).length + 1 := fun h => by have := congrArg List.length (e1 h); simp at this; omega
            conv => whnf
            repeat' first
              | (refine NextVC.mk (i + 1) ?_ ?_ ?_; (conv => whnf))
              | (refine bc_true (by assumption) ?_; (conv => whnf))
              | (refine bc_false (by assumption) ?_; (conv => whnf))
              | (refine bc_intro (fun _ => ?_) (fun _ => ?_) <;> (conv => whnf))
              | (refine need_intro ?_ ?_; (conv => whnf))
              | (refine wk_refl ?_; (conv => whnf))
              | (refine draw_intro (by kernel_rfl) ?_; (conv => whnf))
              | (refine ord_intro (by kernel_rfl) ?_; (conv => whnf))
            all_goals try simp only [cellsB8, bytesB8, true_and, and_true, Int.toNat_natCast]
            all_goals first
              | exact trivial
              | omega
              | exact DLe.refl _
              | exact DLe.of_eq (by rw [hs])
              | exact ⟨by omega, by omega⟩
              | exact n0 (by assumption)
              | exact n1 (by assumption)
              | (rw [← n0 (by assumption), e0 (by assumption)]; exact row_snoc2 (by simp) (RowLe.refl _ _ _) (DLe.refl _) (DLe.refl _))
              | (rw [← n1 (by assumption), e1 (by assumption)]; exact row_snoc (by simp) (RowLe.refl _ _ _) (jlt1 (DLe.refl _)))
              | trace_state
          · have hi8 : i = ft.length := by simp only [decide_eq_false_iff_not] at h2; omega
            subst hi8
            conv => whnf
            repeat' first
              | (refine bc_true (by assumption) ?_; (conv => whnf))
              | (refine bc_false (by assumption) ?_; (conv => whnf))
              | (refine need_intro ?_ ?_; (conv => whnf))
              | (refine wk_refl ?_; (conv => whnf))
              | (refine draw_intro (by kernel_rfl) ?_; (conv => whnf))
              | (refine ord_intro (by kernel_rfl) ?_; (conv => whnf))
            · refine bc_intro (fun h3 => ?_) (fun h3 => ?_) <;> (conv => whnf)
              · subst h3
                conv => whnf
                repeat' first
                  | (refine bc_true (by assumption) ?_; (conv => whnf))
                  | (refine bc_false (by assumption) ?_; (conv => whnf))
                  | (refine bc_intro (fun _ => ?_) (fun _ => ?_) <;> (conv => whnf))
                  | (refine need_intro ?_ ?_; (conv => whnf))
                  | (refine wk_refl ?_; (conv => whnf))
                  | (refine draw_intro (by kernel_rfl) ?_; (conv => whnf))
                  | (refine ord_intro (by kernel_rfl) ?_; (conv => whnf))
                refine loop_auto [2, 3, 66] [2, 3] (fun k : Nat => [(67, .d (.int .i64 k)), (5, .osl 501 1 0 ((esc (ft.take ft.length)).length + 1 + 2))]) (fun k => [(501, .row 5 1 ((esc (ft.take ft.length)).length + 1 + 2) (cellOf encB (flipTo k (3 :: esc (ft.take ft.length) ++ [0, 1]))))]) (fun k => k ≤ (esc (ft.take ft.length)).length + 1 + 2) (fun k => (esc (ft.take ft.length)).length + 1 + 2 - k) 0 ?_ (fun k hk => ?_) (by omega)
                · conv => whnf
                  repeat' first
                    | (refine bc_true (by assumption) ?_; (conv => whnf))
                    | (refine bc_false (by assumption) ?_; (conv => whnf))
                    | (refine bc_intro (fun _ => ?_) (fun _ => ?_) <;> (conv => whnf))
                    | (refine need_intro ?_ ?_; (conv => whnf))
                    | (refine wk_refl ?_; (conv => whnf))
                    | (refine draw_intro (by kernel_rfl) ?_; (conv => whnf))
                    | (refine ord_intro (by kernel_rfl) ?_; (conv => whnf))
                  all_goals first | exact trivial | exact DLe.refl _ | exact ⟨rfl, rfl⟩ | exact ⟨rfl, rfl, rfl⟩ | (rw [flipTo_zero]; exact row_two (by simp) (DLe.refl _) (DLe.refl _); done) | trace_state
                · have hs : IntKind.i64.wrap ((k : Int) + 1) = ((k + 1 : Nat) : Int) := wrap_succ (n := 4000) (by omega) (by omega)
                  conv => whnf
                  repeat' first
                    | (refine NextVC.mk (k + 1) ?_ ?_ ?_; (conv => whnf))
                    | (refine bc_true (by assumption) ?_; (conv => whnf))
                    | (refine bc_false (by assumption) ?_; (conv => whnf))
                    | (refine bc_intro (fun _ => ?_) (fun _ => ?_) <;> (conv => whnf))
                    | (refine need_intro ?_ ?_; (conv => whnf))
                    | (refine wk_refl ?_; (conv => whnf))
                    | (refine draw_intro (by kernel_rfl) ?_; (conv => whnf))
                    | (refine ord_intro (by kernel_rfl) ?_; (conv => whnf))
                  all_goals try simp only [cellsB8, bytesB8, true_and, and_true, decide_eq_true_eq, decide_eq_false_iff_not, Int.toNat_natCast, List.length_append, List.length_cons, List.length_nil, ge_iff_le, Int.not_le] at *
                  all_goals try first
                    | exact trivial
                    | omega
                    | exact DLe.refl _
                    | exact DLe.of_eq (by rw [hs])
                    | exact DLe.of_eq (by rw [hs (by omega)])
                    | exact ⟨by omega, by omega⟩
                    | exact ⟨trivial, by omega, by omega⟩
                  · have hl : (3 :: esc (ft.take ft.length) ++ [0, 1]).length = (esc (ft.take ft.length)).length + 1 + 2 := by simp
                    exact row_flip (by omega) (xor255 _)
                  · have hl : (3 :: esc (ft.take ft.length) ++ [0, 1]).length = (esc (ft.take ft.length)).length + 1 + 2 := by simp
                    have hk9 : k = (esc (ft.take ft.length)).length + 1 + 2 := by omega
                    refine ⟨les_row (by rw [encF_true enc1_text, flipTo_len]; exact hl.symm) ?_, trivial⟩
                    rw [encF_true enc1_text, hk9, hl]
                    exact RowLe.refl _ _ _
              · subst h3
                conv => whnf
                repeat' first
                  | (refine bc_true (by assumption) ?_; (conv => whnf))
                  | (refine bc_false (by assumption) ?_; (conv => whnf))
                  | (refine bc_intro (fun _ => ?_) (fun _ => ?_) <;> (conv => whnf))
                  | (refine need_intro ?_ ?_; (conv => whnf))
                  | (refine wk_refl ?_; (conv => whnf))
                  | (refine draw_intro (by kernel_rfl) ?_; (conv => whnf))
                  | (refine ord_intro (by kernel_rfl) ?_; (conv => whnf))
                rw [encF_false enc1_text]
                exact ⟨les_rowK cellsB8 (by simp) (row_two (by simp) (DLe.refl _) (DLe.refl _)), trivial⟩
            · all_goals try simp only [cellsB8, bytesB8, true_and, and_true, decide_eq_true_eq, decide_eq_false_iff_not, Int.toNat_natCast, List.length_append, List.length_cons, List.length_nil, ge_iff_le, Int.not_le] at *
              all_goals try first
                | exact trivial
                | omega
                | exact DLe.refl _
                | exact DLe.of_eq (by rw [hs])
                | exact DLe.of_eq (by rw [hs (by omega)])
                | exact ⟨by omega, by omega⟩
                | exact ⟨trivial, by omega, by omega⟩
      · all_goals try simp only [cellsB8, bytesB8, true_and, and_true, decide_eq_true_eq, decide_eq_false_iff_not, Int.toNat_natCast, List.length_append, List.length_cons, List.length_nil, ge_iff_le, Int.not_le] at *
        all_goals try first
          | exact trivial
          | omega
          | exact DLe.refl _
          | exact DLe.of_eq (by rw [hs])
          | exact DLe.of_eq (by rw [hs (by omega)])
          | exact ⟨by omega, by omega⟩
          | exact ⟨trivial, by omega, by omega⟩
    · have hn1 : ¬ fk = 1 := by simpa using h1
      have hn2 : ¬ fk = 2 := by simpa using h2
      conv => whnf
      repeat' first
        | (refine bc_true (by assumption) ?_; (conv => whnf))
        | (refine bc_false (by assumption) ?_; (conv => whnf))
        | (refine need_intro ?_ ?_; (conv => whnf))
        | (refine wk_refl ?_; (conv => whnf))
        | (refine draw_intro (by kernel_rfl) ?_; (conv => whnf))
        | (refine ord_intro (by kernel_rfl) ?_; (conv => whnf))
      · refine bc_intro (fun h3 => ?_) (fun h3 => ?_) <;> (conv => whnf)
        · subst h3
          conv => whnf
          repeat' first
            | (refine bc_true (by assumption) ?_; (conv => whnf))
            | (refine bc_false (by assumption) ?_; (conv => whnf))
            | (refine bc_intro (fun _ => ?_) (fun _ => ?_) <;> (conv => whnf))
            | (refine need_intro ?_ ?_; (conv => whnf))
            | (refine wk_refl ?_; (conv => whnf))
            | (refine draw_intro (by kernel_rfl) ?_; (conv => whnf))
            | (refine ord_intro (by kernel_rfl) ?_; (conv => whnf))
          refine loop_auto [2, 3, 66] [2, 3] (fun k : Nat => [(67, .d (.int .i64 k)), (5, .osl 501 1 0 (1))]) (fun k => [(501, .row 5 1 (1) (cellOf encB (flipTo k (([1] : List UInt8)))))]) (fun k => k ≤ 1) (fun k => 1 - k) 0 ?_ (fun k hk => ?_) (by omega)
          · conv => whnf
            repeat' first
              | (refine bc_true (by assumption) ?_; (conv => whnf))
              | (refine bc_false (by assumption) ?_; (conv => whnf))
              | (refine bc_intro (fun _ => ?_) (fun _ => ?_) <;> (conv => whnf))
              | (refine need_intro ?_ ?_; (conv => whnf))
              | (refine wk_refl ?_; (conv => whnf))
              | (refine draw_intro (by kernel_rfl) ?_; (conv => whnf))
              | (refine ord_intro (by kernel_rfl) ?_; (conv => whnf))
            all_goals first | exact trivial | exact DLe.refl _ | exact ⟨rfl, rfl⟩ | exact ⟨rfl, rfl, rfl⟩ | (rw [flipTo_zero]; exact row_one (x := (1 : UInt8)) (jlt1 (DLe.refl _)); done) | trace_state
          · have hs : IntKind.i64.wrap ((k : Int) + 1) = ((k + 1 : Nat) : Int) := wrap_succ (n := 4000) (by omega) (by omega)
            conv => whnf
            repeat' first
              | (refine NextVC.mk (k + 1) ?_ ?_ ?_; (conv => whnf))
              | (refine bc_true (by assumption) ?_; (conv => whnf))
              | (refine bc_false (by assumption) ?_; (conv => whnf))
              | (refine bc_intro (fun _ => ?_) (fun _ => ?_) <;> (conv => whnf))
              | (refine need_intro ?_ ?_; (conv => whnf))
              | (refine wk_refl ?_; (conv => whnf))
              | (refine draw_intro (by kernel_rfl) ?_; (conv => whnf))
              | (refine ord_intro (by kernel_rfl) ?_; (conv => whnf))
            all_goals try simp only [cellsB8, bytesB8, true_and, and_true, decide_eq_true_eq, decide_eq_false_iff_not, Int.toNat_natCast, List.length_append, List.length_cons, List.length_nil, ge_iff_le, Int.not_le] at *
            all_goals try first
              | exact trivial
              | omega
              | exact DLe.refl _
              | exact DLe.of_eq (by rw [hs])
              | exact DLe.of_eq (by rw [hs (by omega)])
              | exact ⟨by omega, by omega⟩
              | exact ⟨trivial, by omega, by omega⟩
            · have hl : (([1] : List UInt8)).length = 1 := rfl
              exact row_flip (by omega) (xor255 _)
            · have hl : (([1] : List UInt8)).length = 1 := rfl
              have hk9 : k = 1 := by omega
              refine ⟨les_row (by rw [encF_true (enc1_null hn1 hn2), flipTo_len]; exact hl.symm) ?_, trivial⟩
              rw [encF_true (enc1_null hn1 hn2), hk9, hl]
              exact RowLe.refl _ _ _
        · subst h3
          conv => whnf
          repeat' first
            | (refine bc_true (by assumption) ?_; (conv => whnf))
            | (refine bc_false (by assumption) ?_; (conv => whnf))
            | (refine bc_intro (fun _ => ?_) (fun _ => ?_) <;> (conv => whnf))
            | (refine need_intro ?_ ?_; (conv => whnf))
            | (refine wk_refl ?_; (conv => whnf))
            | (refine draw_intro (by kernel_rfl) ?_; (conv => whnf))
            | (refine ord_intro (by kernel_rfl) ?_; (conv => whnf))
          refine ⟨les_row ?_ ?_, trivial⟩
          · rw [encF_false (enc1_null hn1 hn2)]; rfl
          · rw [encF_false (enc1_null hn1 hn2)]; exact row_one (x := (1 : UInt8)) (jlt1 (DLe.refl _))
      · all_goals try simp only [cellsB8, bytesB8, true_and, and_true, decide_eq_true_eq, decide_eq_false_iff_not, Int.toNat_natCast, List.length_append, List.length_cons, List.length_nil, ge_iff_le, Int.not_le] at *
        all_goals try first
          | exact trivial
          | omega
          | exact DLe.refl _
          | exact DLe.of_eq (by rw [hs])
          | exact DLe.of_eq (by rw [hs (by omega)])
          | exact ⟨by omega, by omega⟩
          | exact ⟨trivial, by omega, by omega⟩
end Go.Proofs.YtigmgeglnbjfeaaDoor
