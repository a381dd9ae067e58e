/- Contracts of functions that the law reaches: YtigmgeglnbjfeaaDoorK7. Written for this claim. -/
import Derived.Test.YtigmgeglnbjfeaaDoorK6
namespace Go.Proofs.YtigmgeglnbjfeaaDoor
open Go Go.Sx Go.ChangeShapes Go.WideShapes Go.ChangeAt Go.RowKit
set_option linter.unusedVariables false
set_option linter.unusedSimpArgs false
set_option maxRecDepth 100000
theorem encodeq_spec (s : List Col) (l : List Fld) : (fitsL s l = true ∧ ∀ f ∈ l, FldB f) → Sx.Spec Tryd.prog GG 27 [.d (encL encCol 2 s), .d (encL encFld 3 l)] [] (.d (.str (encS s l))) [] := by
  rintro ⟨hf, hb⟩
  obtain ⟨_, hls, hs6, _, _⟩ := fitsL_six hf
  have e0 : encS s (l.take 0) = [] := by cases s <;> simp [encS]
  refine spec_intro (E := EE) (fn := Tryd.f27) eok (by kernel_rfl) (by kernel_rfl) Tryd.call27 (by kernel_rfl) (by kernel_rfl) ?_
  conv => whnf
  repeat' first
    | (refine bc_true (by assumption) ?_; (conv => whnf))
    | (refine bc_false (by assumption) ?_; (conv => whnf))
    | (refine need_intro ?_ ?_; (conv => whnf))
    | (refine wk_refl ?_; (conv => whnf))
    | (refine draw_intro (by kernel_rfl) ?_; (conv => whnf))
    | (refine ord_intro (by kernel_rfl) ?_; (conv => whnf))
  refine loop_auto [0, 1] [] (fun i : Nat => [(6, .d (.int .i64 i)), (5, .osl 500 1 0 (encS s (l.take i)).length)]) (fun i => [(500, .row 5 1 (encS s (l.take i)).length (cellOf encB (encS s (l.take i))))]) (fun i => i ≤ l.length) (fun i => l.length - i) 0 ?_ (fun i hi => ?_) (by omega)
  · conv => whnf
    repeat' first
      | (refine bc_true (by assumption) ?_; (conv => whnf))
      | (refine bc_false (by assumption) ?_; (conv => whnf))
      | (refine bc_intro (fun _ => ?_) (fun _ => ?_) <;> (conv => whnf))
      | (refine need_intro ?_ ?_; (conv => whnf))
      | (refine wk_refl ?_; (conv => whnf))
      | (refine draw_intro (by kernel_rfl) ?_; (conv => whnf))
      | (refine ord_intro (by kernel_rfl) ?_; (conv => whnf))
    all_goals first | exact trivial | exact DLe.refl _ | exact ⟨rfl, by rw [e0]; rfl⟩ | trace_state
  · have hs : IntKind.i64.wrap ((i : Int) + 1) = ((i + 1 : Nat) : Int) := wrap_succ (n := 2000) (by omega) (by omega)
    have hle := fits_len (i := i) hf
    conv => whnf
    repeat' first
      | (refine bc_true (by assumption) ?_; (conv => whnf))
      | (refine bc_false (by assumption) ?_; (conv => whnf))
      | (refine need_intro ?_ ?_; (conv => whnf))
      | (refine wk_refl ?_; (conv => whnf))
      | (refine draw_intro (by kernel_rfl) ?_; (conv => whnf))
      | (refine ord_intro (by kernel_rfl) ?_; (conv => whnf))
    refine bc_intro (fun h1 => ?_) (fun h1 => ?_) <;> (conv => whnf)
    · have hi2 : i < l.length := by simp only [decide_eq_true_eq] at h1; omega
      obtain ⟨g1, g2, g3⟩ := fits_get hf hi2
      have g4 : I64 (l.getD i default).2.1 := hb _ (by simp [List.getD, hi2])
      have g5 := kind3 g1 g2
      have e1 := encS_snoc (s := s) hi2 hls
      have e2 : (encS s (l.take (i + 1))).length = _ := (congrArg List.length e1).trans List.length_append
      have e3 : (enc1 ((l.getD i default).1, (l.getD i default).2.1, (l.getD i default).2.2)).length ≤ 40 := enc1_len16 g3
      rw [encF_len] at e2
      have e3' : (enc1 (l.getD i default)).length ≤ 40 := e3
      conv => whnf
      repeat' first
        | (refine call_if (bytesr_at 19 _ _ _) (by first | exact .inl rfl | exact .inr ⟨rfl, rfl⟩) (need_intro ?_ ?_); (conv => whnf))
        | (refine bc_true (by assumption) ?_; (conv => whnf))
        | (refine bc_false (by assumption) ?_; (conv => whnf))
        | (refine need_intro ?_ ?_; (conv => whnf))
        | (refine wk_refl ?_; (conv => whnf))
        | (refine draw_intro (by kernel_rfl) ?_; (conv => whnf))
        | (refine ord_intro (by kernel_rfl) ?_; (conv => whnf))
      · refine loop_auto [0, 1, 5, 6] [500] (fun k : Nat => [(8, .d (.int .i64 k)), (7, .osl 501 1 0 (enc1 (l.getD i default)).length)]) (fun k => [(501, .row 5 1 (enc1 (l.getD i default)).length (cellOf encB (flipK (s.getD i default).2 k (enc1 (l.getD i default)))))]) (fun k => k ≤ (enc1 (l.getD i default)).length) (fun k => (enc1 (l.getD i default)).length - k) 0 ?_ (fun k hk => ?_) (by omega)
        · conv => whnf
          repeat' first
            | (refine bc_true (by assumption) ?_; (conv => whnf))
            | (refine bc_false (by assumption) ?_; (conv => whnf))
            | (refine bc_intro (fun _ => ?_) (fun _ => ?_) <;> (conv => whnf))
            | (refine need_intro ?_ ?_; (conv => whnf))
            | (refine wk_refl ?_; (conv => whnf))
            | (refine draw_intro (by kernel_rfl) ?_; (conv => whnf))
            | (refine ord_intro (by kernel_rfl) ?_; (conv => whnf))
          all_goals first | exact trivial | exact DLe.refl _ | exact ⟨rfl, rfl⟩ | exact ⟨rfl, rfl, rfl⟩ | exact RowLe.refl _ _ _ | (rw [flipK_zero]; exact RowLe.refl _ _ _) | trace_state
        · have hk1 : IntKind.i64.wrap ((k : Int) + 1) = ((k + 1 : Nat) : Int) := wrap_succ (n := 2000) (by omega) (by omega)
          conv => whnf
          repeat' first
            | (refine bc_true (by assumption) ?_; (conv => whnf))
            | (refine bc_false (by assumption) ?_; (conv => whnf))
            | (refine need_intro ?_ ?_; (conv => whnf))
            | (refine wk_refl ?_; (conv => whnf))
            | (refine draw_intro (by kernel_rfl) ?_; (conv => whnf))
            | (refine ord_intro (by kernel_rfl) ?_; (conv => whnf))
          refine bc_intro (fun h2 => ?_) (fun h2 => ?_) <;> (conv => whnf)
          · have hk2 : k < (enc1 (l.getD i default)).length := by simp only [decide_eq_true_eq] at h2; omega
            conv => whnf
            repeat' first
              | (refine NextVC.mk (k + 1) ?_ ?_ ?_; (conv => whnf))
              | (refine bc_true (by assumption) ?_; (conv => whnf))
              | (refine bc_false (by assumption) ?_; (conv => whnf))
              | (refine bc_intro (fun _ => ?_) (fun _ => ?_) <;> (conv => whnf))
              | (refine need_intro ?_ ?_; (conv => whnf))
              | (refine wk_refl ?_; (conv => whnf))
              | (refine draw_intro (by kernel_rfl) ?_; (conv => whnf))
              | (refine ord_intro (by kernel_rfl) ?_; (conv => whnf))
            all_goals try simp only [cellsB8, bytesB8, true_and, and_true, Int.toNat_natCast]
            all_goals first
              | exact trivial
              | omega
              | exact DLe.refl _
              | exact RowLe.refl _ _ _
              | exact DLe.of_eq (by rw [hk1])
              | exact ⟨by omega, by omega⟩
              | exact row_keepK (by assumption)
              | exact row_flipK (by assumption) (by omega) (sub_byte _)
              | trace_state
          · have hk2 : k = (enc1 (l.getD i default)).length := by simp only [decide_eq_false_iff_not] at h2; omega
            subst hk2
            have ha : flipK (s.getD i default).2 (enc1 (l.getD i default)).length (enc1 (l.getD i default)) = encF (s.getD i default) (l.getD i default) := flipK_all
            rw [ha]
            conv => whnf
            repeat' first
              | (refine NextVC.mk (i + 1) ?_ ?_ ?_; (conv => whnf))
              | (refine bc_true (by assumption) ?_; (conv => whnf))
              | (refine bc_false (by assumption) ?_; (conv => whnf))
              | (refine bc_intro (fun _ => ?_) (fun _ => ?_) <;> (conv => whnf))
              | (refine need_intro ?_ ?_; (conv => whnf))
              | (refine wk_refl ?_; (conv => whnf))
              | (refine draw_intro (by kernel_rfl) ?_; (conv => whnf))
              | (refine ord_intro (by kernel_rfl) ?_; (conv => whnf))
            all_goals try simp only [cellsB8, bytesB8, true_and, and_true, Int.toNat_natCast, Nat.zero_add]
            all_goals first
              | exact trivial
              | omega
              | exact DLe.refl _
              | exact DLe.of_eq (by rw [hs])
              | exact ⟨by omega, by omega⟩
              | exact e2.symm
              | (rw [e1, List.length_append]; exact row_append rfl (RowLe.refl _ _ _) (RowLe.refl _ _ _))
              | trace_state
      · exact ⟨g4, Nat.le_trans g3 (by omega), g5⟩
      · exact ⟨by omega, by omega⟩
    · have hi2 : i = l.length := by simp only [decide_eq_false_iff_not] at h1; omega
      subst hi2
      rw [List.take_length] at hle ⊢
      conv => whnf
      repeat' first
        | (refine bc_true (by assumption) ?_; (conv => whnf))
        | (refine bc_false (by assumption) ?_; (conv => whnf))
        | (refine bc_intro (fun _ => ?_) (fun _ => ?_) <;> (conv => whnf))
        | (refine need_intro ?_ ?_; (conv => whnf))
        | (refine wk_refl ?_; (conv => whnf))
        | (refine draw_intro (by kernel_rfl) ?_; (conv => whnf))
        | (refine ord_intro (by kernel_rfl) ?_; (conv => whnf))
      all_goals try simp only [true_and, and_true, decide_eq_true_eq, decide_eq_false_iff_not, beq_iff_eq, bne_iff_ne, beq_eq_false_iff_ne, bne_eq_false_iff_eq, ne_eq, Decidable.not_not, Bool.not_eq_true', Bool.not_eq_false', Int.toNat_natCast] at *
      all_goals first
        | exact (bytesR_enc rfl (fun i _ => by rw [Nat.zero_add])).1
        | (rw [(bytesR_enc (g := fun i j => cellOf encB (encS s l) (0 + i) j) (n := (encS s l).length) (l := encS s l) rfl (fun i _ => by rw [Nat.zero_add])).2]; exact ⟨LeS.refl _, trivial⟩)
        | trace_state
end Go.Proofs.YtigmgeglnbjfeaaDoor
