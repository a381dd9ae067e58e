/- Contracts of functions that the law reaches: YtigmgeglnbjfeaaDoorK6. Written for this claim. -/
import Derived.Test.YtigmgeglnbjfeaaDoorK5
namespace Go.Proofs.YtigmgeglnbjfeaaDoor
open Go Go.Sx Go.ChangeShapes Go.WideShapes Go.ChangeAt Go.RowKit
set_option linter.unusedVariables false
set_option linter.unusedSimpArgs false
set_option maxRecDepth 100000
theorem encp_spec (s : List Col) (l : List Fld) : (s.length ≤ 1000 ∧ l.length ≤ 1000 ∧ ∀ f ∈ l, FldB f) → Sx.Spec Tryd.prog GG 14 [.d (encL encCol 2 s), .d (encL encFld 3 l)] [] (.tup [.d (.str (encodeS s l).1), .d (.int .i64 (encodeS s l).2)]) [] := by
  rintro ⟨hs1, hl1, hb⟩
  refine spec_intro (E := EE) (fn := Tryd.f14) eok (by kernel_rfl) (by kernel_rfl) Tryd.call14 (by kernel_rfl) (by kernel_rfl) ?_
  conv => whnf
  repeat' first
    | (refine call_if (fitsLp_spec s _) (by first | exact .inl rfl | exact .inr ⟨rfl, rfl⟩) (need_intro ?_ ?_); (conv => whnf))
    | (refine bc_true (by assumption) ?_; (conv => whnf))
    | (refine bc_false (by assumption) ?_; (conv => whnf))
    | (refine bc_intro (fun _ => ?_) (fun _ => ?_) <;> (conv => whnf))
    | (refine need_intro ?_ ?_; (conv => whnf))
    | (refine wk_refl ?_; (conv => whnf))
    | (refine draw_intro (by kernel_rfl) ?_; (conv => whnf))
    | (refine ord_intro (by kernel_rfl) ?_; (conv => whnf))
  all_goals try simp only [true_and, and_true, decide_eq_true_eq, decide_eq_false_iff_not, beq_iff_eq, bne_iff_ne, beq_eq_false_iff_ne, bne_eq_false_iff_eq, ne_eq, Decidable.not_not, Bool.not_eq_true', Bool.not_eq_false', Int.toNat_natCast] at *
  all_goals try first
    | exact ⟨hs1, hl1⟩
    | (rw [encodeS_no (by assumption)]; exact ⟨LeS.refl _, trivial⟩)
  have hf : fitsL s l = true := by assumption
  have hls := (fitsL_six hf).2.1
  have e0 : encS s (l.take 0) = [] := by cases s <;> simp [encS]
  refine loop_auto [0, 13, 14] [] (fun i : Nat => [(15, .d (.int .i64 i)), (6, .osl 500 1 0 (encS s (l.take i)).length)]) (fun i => [(500, .row 5 1 (encS s (l.take i)).length (cellOf encB (encS s (l.take i))))]) (fun i => i ≤ l.length) (fun i => l.length - i) 0 ?_ (fun i hi => ?_) (by omega)
  · conv => whnf
    repeat' first
      | (refine bc_true (by assumption) ?_; (conv => whnf))
      | (refine bc_false (by assumption) ?_; (conv => whnf))
      | (refine bc_intro (fun _ => ?_) (fun _ => ?_) <;> (conv => whnf))
      | (refine need_intro ?_ ?_; (conv => whnf))
      | (refine wk_refl ?_; (conv => whnf))
      | (refine draw_intro (by kernel_rfl) ?_; (conv => whnf))
      | (refine ord_intro (by kernel_rfl) ?_; (conv => whnf))
    all_goals first | exact trivial | exact DLe.refl _ | exact ⟨rfl, by rw [e0]; rfl⟩ | trace_state
  · have hs : IntKind.i64.wrap ((i : Int) + 1) = ((i + 1 : Nat) : Int) := wrap_succ (n := 2000) (by omega) (by omega)
    have hle := fits_len (i := i) hf
    conv => whnf
    repeat' first
      | (refine bc_true (by assumption) ?_; (conv => whnf))
      | (refine bc_false (by assumption) ?_; (conv => whnf))
      | (refine need_intro ?_ ?_; (conv => whnf))
      | (refine wk_refl ?_; (conv => whnf))
      | (refine draw_intro (by kernel_rfl) ?_; (conv => whnf))
      | (refine ord_intro (by kernel_rfl) ?_; (conv => whnf))
    refine bc_intro (fun h1 => ?_) (fun h1 => ?_) <;> (conv => whnf)
    · have hi2 : i < l.length := by simp only [decide_eq_true_eq] at h1; omega
      obtain ⟨g1, g2, g3⟩ := fits_get hf hi2
      have g4 : I64 (l.getD i default).2.1 := hb _ (by simp [List.getD, hi2])
      have e1 := encS_snoc (s := s) hi2 hls
      have e2 : (encS s (l.take (i + 1))).length = _ := (congrArg List.length e1).trans List.length_append
      have e3 : (enc1 ((l.getD i default).1, (l.getD i default).2.1, (l.getD i default).2.2)).length ≤ 40 := enc1_len16 g3
      rw [encF_len] at e2
      conv => whnf
      repeat' first
        | (refine call_if (fieldp_spec _ _ _ _ _) (by first | exact .inl rfl | exact .inr ⟨rfl, rfl⟩) (need_intro ?_ ?_); (conv => whnf))
        | (refine NextVC.mk (i + 1) ?_ ?_ ?_; (conv => whnf))
        | (refine bc_true (by assumption) ?_; (conv => whnf))
        | (refine bc_false (by assumption) ?_; (conv => whnf))
        | (refine bc_intro (fun _ => ?_) (fun _ => ?_) <;> (conv => whnf))
        | (refine need_intro ?_ ?_; (conv => whnf))
        | (refine wk_refl ?_; (conv => whnf))
        | (refine draw_intro (by kernel_rfl) ?_; (conv => whnf))
        | (refine ord_intro (by kernel_rfl) ?_; (conv => whnf))
      all_goals try rw [encF_len]
      all_goals try simp only [Int.toNat_natCast, cellsB8, bytesB8, true_and, and_true]
      all_goals first
        | exact trivial
        | omega
        | exact DLe.refl _
        | exact DLe.of_eq (by rw [hs])
        | exact e2.symm
        | exact ⟨g4, by omega⟩
        | exact ⟨by omega, by omega⟩
        | (rw [e1, List.length_append]; exact row_append rfl (RowLe.refl _ _ _) (RowLe.refl _ _ _))
        | trace_state
    · have hi2 : i = l.length := by simp only [decide_eq_false_iff_not] at h1; omega
      subst hi2
      rw [List.take_length] at hle ⊢
      conv => whnf
      repeat' first
        | (refine bc_true (by assumption) ?_; (conv => whnf))
        | (refine bc_false (by assumption) ?_; (conv => whnf))
        | (refine bc_intro (fun _ => ?_) (fun _ => ?_) <;> (conv => whnf))
        | (refine need_intro ?_ ?_; (conv => whnf))
        | (refine wk_refl ?_; (conv => whnf))
        | (refine draw_intro (by kernel_rfl) ?_; (conv => whnf))
        | (refine ord_intro (by kernel_rfl) ?_; (conv => whnf))
      all_goals try simp only [true_and, and_true, decide_eq_true_eq, decide_eq_false_iff_not, beq_iff_eq, bne_iff_ne, beq_eq_false_iff_ne, bne_eq_false_iff_eq, ne_eq, Decidable.not_not, Bool.not_eq_true', Bool.not_eq_false', Int.toNat_natCast] at *
      all_goals first
        | (rw [encodeS_long hf (by omega)]; exact ⟨LeS.refl _, trivial⟩)
        | exact (bytesR_enc rfl (fun i _ => by rw [Nat.zero_add])).1
        | (rw [(bytesR_enc (g := fun i j => cellOf encB (encS s l) (0 + i) j) (n := (encS s l).length) (l := encS s l) rfl (fun i _ => by rw [Nat.zero_add])).2, encodeS_ok hf (by omega)]; exact ⟨LeS.refl _, trivial⟩)
        | trace_state
end Go.Proofs.YtigmgeglnbjfeaaDoor
