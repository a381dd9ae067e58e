/- Contracts of functions that the law reaches: YtigmgeglnbjfeaaDoorK8. Written for this claim. -/
import Derived.Test.YtigmgeglnbjfeaaDoorK7
namespace Go.Proofs.YtigmgeglnbjfeaaDoor
open Go Go.Sx Go.ChangeShapes Go.WideShapes Go.ChangeAt Go.RowKit
set_option linter.unusedVariables false
set_option linter.unusedSimpArgs false
set_option maxRecDepth 100000
abbrev rngL (p : List UInt8) : SV := .agg [.d (.str (prefR p).1.1), .d (.bool (prefR p).1.2), .d (.str (prefR p).2.1), .d (.bool (prefR p).2.2)]
theorem encr_spec (s : List Col) (l : List Fld) : (s.length ≤ 1000 ∧ l.length ≤ 1000 ∧ ∀ f ∈ l, FldB f) → Sx.Spec Tryd.prog GG 15 [.d (encL encCol 2 s), .d (encL encFld 3 l)] [] (.tup [.d (.str (encodeS s l).1), .d (.int .i64 (encodeS s l).2)]) [] := by
  rintro ⟨hs1, hl1, hb⟩
  refine spec_intro (E := EE) (fn := Tryd.f15) eok (by kernel_rfl) (by kernel_rfl) Tryd.call15 (by kernel_rfl) (by kernel_rfl) ?_
  conv => whnf
  repeat' first
    | (refine call_if (fitsLr_spec s _) (by first | exact .inl rfl | exact .inr ⟨rfl, rfl⟩) (need_intro ?_ ?_); (conv => whnf))
    | (refine call_if (encodeq_spec _ _) (by first | exact .inl rfl | exact .inr ⟨rfl, rfl⟩) (need_intro ?_ ?_); (conv => whnf))
    | (refine bc_true (by assumption) ?_; (conv => whnf))
    | (refine bc_false (by assumption) ?_; (conv => whnf))
    | (refine bc_intro (fun _ => ?_) (fun _ => ?_) <;> (conv => whnf))
    | (refine need_intro ?_ ?_; (conv => whnf))
    | (refine wk_refl ?_; (conv => whnf))
    | (refine draw_intro (by kernel_rfl) ?_; (conv => whnf))
    | (refine ord_intro (by kernel_rfl) ?_; (conv => whnf))
  all_goals try simp only [true_and, and_true, decide_eq_true_eq, decide_eq_false_iff_not, beq_iff_eq, bne_iff_ne, beq_eq_false_iff_ne, bne_eq_false_iff_eq, ne_eq, Decidable.not_not, Bool.not_eq_true', Bool.not_eq_false', Int.toNat_natCast] at *
  all_goals first
    | exact ⟨hs1, hl1⟩
    | exact ⟨by assumption, hb⟩
    | (rw [encodeS_no (by assumption)]; exact ⟨LeS.refl _, trivial⟩)
    | (rw [encodeS_long (by assumption) (by omega)]; exact ⟨LeS.refl _, trivial⟩)
    | (rw [encodeS_ok (by assumption) (by omega)]; exact ⟨LeS.refl _, trivial⟩)
    | trace_state
theorem prefp_spec (p : List UInt8) : Sx.Spec Tryd.prog GG 28 [.d (.str p)] [] (rngL p) [] := by
  refine spec_intro (E := EE) (fn := Tryd.f28) eok (by kernel_rfl) (by kernel_rfl) Tryd.call28 (by kernel_rfl) (by kernel_rfl) ?_
  conv => whnf
  repeat' first
    | (refine call_intro (validKeyp_spec _) ?_ (by first | exact .inl rfl | exact .inr ⟨rfl, rfl⟩); (conv => whnf))
    | (refine bc_true (by assumption) ?_; (conv => whnf))
    | (refine bc_false (by assumption) ?_; (conv => whnf))
    | (refine bc_intro (fun _ => ?_) (fun _ => ?_) <;> (conv => whnf))
    | (refine need_intro ?_ ?_; (conv => whnf))
    | (refine wk_refl ?_; (conv => whnf))
    | (refine draw_intro (by kernel_rfl) ?_; (conv => whnf))
    | (refine ord_intro (by kernel_rfl) ?_; (conv => whnf))
  all_goals try simp only [true_and, and_true, decide_eq_true_eq, decide_eq_false_iff_not, beq_iff_eq, bne_iff_ne, beq_eq_false_iff_ne, bne_eq_false_iff_eq, ne_eq, Decidable.not_not, Bool.not_eq_true', Bool.not_eq_false', Int.toNat_natCast] at *
  all_goals try (unfold rngL; rw [prefR_long (by omega)]; exact ⟨LeS.refl _, trivial⟩)
  have hp : p.length ≤ 64 := by omega
  refine loop_auto [0, 2, 3] [2, 3] (fun n : Nat => [(4, .osl 500 1 0 n)]) (fun n => [(500, .row 5 1 p.length (cellOf encB p))]) (fun n => n ≤ p.length ∧ bump p = bump (p.take n)) (fun n => n) p.length ?_ (fun n hn => ?_) ⟨Nat.le_refl _, by rw [List.take_length]⟩
  · conv => whnf
    repeat' first
      | (refine bc_true (by assumption) ?_; (conv => whnf))
      | (refine bc_false (by assumption) ?_; (conv => whnf))
      | (refine bc_intro (fun _ => ?_) (fun _ => ?_) <;> (conv => whnf))
      | (refine need_intro ?_ ?_; (conv => whnf))
      | (refine wk_refl ?_; (conv => whnf))
      | (refine draw_intro (by kernel_rfl) ?_; (conv => whnf))
      | (refine ord_intro (by kernel_rfl) ?_; (conv => whnf))
    all_goals first | exact trivial | exact DLe.refl _ | exact ⟨rfl, rfl⟩ | exact ⟨rfl, rfl, rfl⟩ | exact row_byte | trace_state
  · obtain ⟨hn, hz⟩ := hn
    cases n with
    | zero =>
      conv => whnf
      repeat' first
        | (refine bc_true (by assumption) ?_; (conv => whnf))
        | (refine bc_false (by assumption) ?_; (conv => whnf))
        | (refine bc_intro (fun _ => ?_) (fun _ => ?_) <;> (conv => whnf))
        | (refine need_intro ?_ ?_; (conv => whnf))
        | (refine wk_refl ?_; (conv => whnf))
        | (refine draw_intro (by kernel_rfl) ?_; (conv => whnf))
        | (refine ord_intro (by kernel_rfl) ?_; (conv => whnf))
      all_goals try simp only [true_and, and_true, decide_eq_true_eq, decide_eq_false_iff_not, beq_iff_eq, bne_iff_ne, beq_eq_false_iff_ne, bne_eq_false_iff_eq, ne_eq, Decidable.not_not, Bool.not_eq_true', Bool.not_eq_false', Int.toNat_natCast] at *
      all_goals first
        | (exfalso; omega)
        | (unfold rngL; rw [prefR_none hp hz]; exact ⟨LeS.refl _, trivial⟩)
        | trace_state
    | succ m =>
      have hw : IntKind.i64.wrap (((m + 1 : Nat) : Int) - 1) = (m : Int) := by rw [wrap_of (by omega) (by omega)]; omega
      conv => whnf
      repeat' first
        | (refine NextVC.mk m ?_ ?_ ?_; (conv => whnf))
        | (refine bc_true (by assumption) ?_; (conv => whnf))
        | (refine bc_false (by assumption) ?_; (conv => whnf))
        | (refine bc_intro (fun _ => ?_) (fun _ => ?_) <;> (conv => whnf))
        | (refine need_intro ?_ ?_; (conv => whnf))
        | (refine wk_refl ?_; (conv => whnf))
        | (refine draw_intro (by kernel_rfl) ?_; (conv => whnf))
        | (refine ord_intro (by kernel_rfl) ?_; (conv => whnf))
      all_goals try simp only [hw, cellsB8, bytesB8, true_and, and_true, Int.toNat_natCast] at *
      all_goals first
        | exact trivial
        | omega
        | exact DLe.refl _
        | exact RowLe.refl _ _ _
        | exact ⟨by omega, by omega⟩
        | exact ⟨by omega, bump_step hn hz (byte_255 (by rw [Nat.zero_add] at *; assumption))⟩
        | exact ⟨rfl, by simp⟩
        | (refine ⟨by simp, ?_, ?_⟩ <;> simp <;> omega)
        | (exfalso; simp only [decide_eq_false_iff_not] at *; omega)
        | exact (bump_row hn (add_byte _) rfl).1
        | (unfold rngL
           rw [prefR_some hp hn hz (byte_n255 (by rw [Nat.zero_add] at *; assumption)), (bump_row hn (add_byte _) rfl).2, Nat.zero_add]
           exact ⟨LeS.refl _, trivial⟩)
        | trace_state
theorem prefr_spec (p : List UInt8) : Sx.Spec Tryd.prog GG 29 [.d (.str p)] [] (rngL p) [] := by
  refine spec_intro (E := EE) (fn := Tryd.f29) eok (by kernel_rfl) (by kernel_rfl) Tryd.call29 (by kernel_rfl) (by kernel_rfl) ?_
  conv => whnf
  repeat' first
    | (refine call_intro (validKeyr_spec _) ?_ (by first | exact .inl rfl | exact .inr ⟨rfl, rfl⟩); (conv => whnf))
    | (refine bc_true (by assumption) ?_; (conv => whnf))
    | (refine bc_false (by assumption) ?_; (conv => whnf))
    | (refine bc_intro (fun _ => ?_) (fun _ => ?_) <;> (conv => whnf))
    | (refine need_intro ?_ ?_; (conv => whnf))
    | (refine wk_refl ?_; (conv => whnf))
    | (refine draw_intro (by kernel_rfl) ?_; (conv => whnf))
    | (refine ord_intro (by kernel_rfl) ?_; (conv => whnf))
  all_goals try simp only [true_and, and_true, decide_eq_true_eq, decide_eq_false_iff_not, beq_iff_eq, bne_iff_ne, beq_eq_false_iff_ne, bne_eq_false_iff_eq, ne_eq, Decidable.not_not, Bool.not_eq_true', Bool.not_eq_false', Int.toNat_natCast] at *
  all_goals try (unfold rngL; rw [prefR_long (by omega)]; exact ⟨LeS.refl _, trivial⟩)
  have hp : p.length ≤ 64 := by omega
  refine loop_auto [0, 2] [2] (fun n : Nat => [(3, .d (.int .i64 n))]) (fun n => []) (fun n => n ≤ p.length ∧ bump p = bump (p.take n)) (fun n => n) p.length ?_ (fun n hn => ?_) ⟨Nat.le_refl _, by rw [List.take_length]⟩
  · conv => whnf
    repeat' first
      | (refine bc_true (by assumption) ?_; (conv => whnf))
      | (refine bc_false (by assumption) ?_; (conv => whnf))
      | (refine bc_intro (fun _ => ?_) (fun _ => ?_) <;> (conv => whnf))
      | (refine need_intro ?_ ?_; (conv => whnf))
      | (refine wk_refl ?_; (conv => whnf))
      | (refine draw_intro (by kernel_rfl) ?_; (conv => whnf))
      | (refine ord_intro (by kernel_rfl) ?_; (conv => whnf))
    all_goals first | exact trivial | exact DLe.refl _ | exact DLe.nil | exact RowLe.refl _ _ _ | exact ⟨rfl, rfl⟩ | exact ⟨rfl, rfl, rfl⟩ | trace_state
  · obtain ⟨hn, hz⟩ := hn
    cases n with
    | zero =>
      conv => whnf
      repeat' first
        | (refine bc_true (by assumption) ?_; (conv => whnf))
        | (refine bc_false (by assumption) ?_; (conv => whnf))
        | (refine bc_intro (fun _ => ?_) (fun _ => ?_) <;> (conv => whnf))
        | (refine need_intro ?_ ?_; (conv => whnf))
        | (refine wk_refl ?_; (conv => whnf))
        | (refine draw_intro (by kernel_rfl) ?_; (conv => whnf))
        | (refine ord_intro (by kernel_rfl) ?_; (conv => whnf))
      all_goals try simp only [true_and, and_true, decide_eq_true_eq, decide_eq_false_iff_not, beq_iff_eq, bne_iff_ne, beq_eq_false_iff_ne, bne_eq_false_iff_eq, ne_eq, Decidable.not_not, Bool.not_eq_true', Bool.not_eq_false', Int.toNat_natCast] at *
      all_goals first
        | (exfalso; omega)
        | (unfold rngL; rw [prefR_none hp hz]; exact ⟨LeS.refl _, trivial⟩)
        | trace_state
    | succ m =>
      have hw : IntKind.i64.wrap (((m + 1 : Nat) : Int) - 1) = (m : Int) := by rw [wrap_of (by omega) (by omega)]; omega
      conv => whnf
      repeat' first
        | (refine NextVC.mk m ?_ ?_ ?_; (conv => whnf))
        | (refine bc_true (by assumption) ?_; (conv => whnf))
        | (refine bc_false (by assumption) ?_; (conv => whnf))
        | (refine bc_intro (fun _ => ?_) (fun _ => ?_) <;> (conv => whnf))
        | (refine need_intro ?_ ?_; (conv => whnf))
        | (refine wk_refl ?_; (conv => whnf))
        | (refine draw_intro (by kernel_rfl) ?_; (conv => whnf))
        | (refine ord_intro (by kernel_rfl) ?_; (conv => whnf))
      all_goals try simp only [hw, cellsB8, bytesB8, true_and, and_true, Int.toNat_natCast] at *
      all_goals first
        | exact trivial
        | omega
        | exact DLe.refl _
        | exact RowLe.refl _ _ _
        | exact ⟨by omega, by omega⟩
        | (exfalso; simp only [decide_eq_false_iff_not] at *; omega)
        | (exfalso; simp at *; omega)
        | exact ⟨by omega, bump_step hn hz (byte_255 (by assumption))⟩
        | exact (lit_byte (add_byte _)).1
        | (rw [(lit_byte (add_byte _)).2]; simp only [List.length_take, List.length_singleton]; omega)
        | (unfold rngL
           rw [prefR_some hp hn hz (byte_n255 (by assumption)), (lit_byte (add_byte _)).2]
           exact ⟨LeS.refl _, trivial⟩)
        | trace_state
def pref2 (s : List Col) (l : List Fld) : (List UInt8 × Bool) × (List UInt8 × Bool) := if (encodeS s l).2 ≠ 0 then (([], false), ([], false)) else prefR (encodeS s l).1
abbrev rng2 (s : List Col) (l : List Fld) : SV := .agg [.d (.str (pref2 s l).1.1), .d (.bool (pref2 s l).1.2), .d (.str (pref2 s l).2.1), .d (.bool (pref2 s l).2.2)]
theorem pref2_no {s : List Col} {l : List Fld} (h : ¬ (encodeS s l).2 = 0) : pref2 s l = (([], false), ([], false)) := if_pos h
theorem pref2_ok {s : List Col} {l : List Fld} (h : (encodeS s l).2 = 0) : pref2 s l = prefR (encodeS s l).1 := if_neg (by simpa using h)
theorem pref2p_spec (s : List Col) (l : List Fld) : (s.length ≤ 1000 ∧ l.length ≤ 1000 ∧ ∀ f ∈ l, FldB f) → Sx.Spec Tryd.prog GG 16 [.d (encL encCol 2 s), .d (encL encFld 3 l)] [] (.tup [rng2 s l, .d (.int .i64 (encodeS s l).2)]) [] := by
  intro h
  refine spec_intro (E := EE) (fn := Tryd.f16) eok (by kernel_rfl) (by kernel_rfl) Tryd.call16 (by kernel_rfl) (by kernel_rfl) ?_
  conv => whnf
  repeat' first
    | (refine call_if (encp_spec _ _) (by first | exact .inl rfl | exact .inr ⟨rfl, rfl⟩) (need_intro ?_ ?_); (conv => whnf))
    | (refine call_intro (prefp_spec _) ?_ (by first | exact .inl rfl | exact .inr ⟨rfl, rfl⟩); (conv => whnf))
    | (refine bc_true (by assumption) ?_; (conv => whnf))
    | (refine bc_false (by assumption) ?_; (conv => whnf))
    | (refine bc_intro (fun _ => ?_) (fun _ => ?_) <;> (conv => whnf))
    | (refine need_intro ?_ ?_; (conv => whnf))
    | (refine wk_refl ?_; (conv => whnf))
    | (refine draw_intro (by kernel_rfl) ?_; (conv => whnf))
    | (refine ord_intro (by kernel_rfl) ?_; (conv => whnf))
  all_goals try simp only [true_and, and_true, decide_eq_true_eq, decide_eq_false_iff_not, beq_iff_eq, bne_iff_ne, beq_eq_false_iff_ne, bne_eq_false_iff_eq, ne_eq, Decidable.not_not, Bool.not_eq_true', Bool.not_eq_false', Int.toNat_natCast] at *
  all_goals first
    | exact h
    | (unfold rng2; rw [pref2_no (by assumption)]; exact ⟨LeS.refl _, trivial⟩)
    | (have h0 : (encodeS s l).2 = 0 := by assumption
       unfold rng2; rw [pref2_ok h0, h0]; exact ⟨LeS.refl _, trivial⟩)
    | trace_state
theorem pref2r_spec (s : List Col) (l : List Fld) : (s.length ≤ 1000 ∧ l.length ≤ 1000 ∧ ∀ f ∈ l, FldB f) → Sx.Spec Tryd.prog GG 17 [.d (encL encCol 2 s), .d (encL encFld 3 l)] [] (.tup [rng2 s l, .d (.int .i64 (encodeS s l).2)]) [] := by
  intro h
  refine spec_intro (E := EE) (fn := Tryd.f17) eok (by kernel_rfl) (by kernel_rfl) Tryd.call17 (by kernel_rfl) (by kernel_rfl) ?_
  conv => whnf
  repeat' first
    | (refine call_if (encr_spec _ _) (by first | exact .inl rfl | exact .inr ⟨rfl, rfl⟩) (need_intro ?_ ?_); (conv => whnf))
    | (refine call_intro (prefr_spec _) ?_ (by first | exact .inl rfl | exact .inr ⟨rfl, rfl⟩); (conv => whnf))
    | (refine bc_true (by assumption) ?_; (conv => whnf))
    | (refine bc_false (by assumption) ?_; (conv => whnf))
    | (refine bc_intro (fun _ => ?_) (fun _ => ?_) <;> (conv => whnf))
    | (refine need_intro ?_ ?_; (conv => whnf))
    | (refine wk_refl ?_; (conv => whnf))
    | (refine draw_intro (by kernel_rfl) ?_; (conv => whnf))
    | (refine ord_intro (by kernel_rfl) ?_; (conv => whnf))
  all_goals try simp only [true_and, and_true, decide_eq_true_eq, decide_eq_false_iff_not, beq_iff_eq, bne_iff_ne, beq_eq_false_iff_ne, bne_eq_false_iff_eq, ne_eq, Decidable.not_not, Bool.not_eq_true', Bool.not_eq_false', Int.toNat_natCast] at *
  all_goals first
    | exact h
    | (unfold rng2; rw [pref2_no (by assumption)]; exact ⟨LeS.refl _, trivial⟩)
    | (have h0 : (encodeS s l).2 = 0 := by assumption
       unfold rng2; rw [pref2_ok h0, h0]; exact ⟨LeS.refl _, trivial⟩)
    | trace_state
end Go.Proofs.YtigmgeglnbjfeaaDoor
