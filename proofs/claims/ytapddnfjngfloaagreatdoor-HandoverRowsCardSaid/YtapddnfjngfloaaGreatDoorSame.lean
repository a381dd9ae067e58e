/- Contracts of functions that the law reaches: YtapddnfjngfloaaGreatDoorSame. Written for this claim. -/
import Derived.Test.YtapddnfjngfloaaGreatDoorJoin
import Derived.Test.YtapddnfjngfloaaGreatDoorSxTab
namespace Go.Proofs.YtapddnfjngfloaaGreatDoor
open Go Go.Sx Go.ChangeShapes Go.WideShapes Go.ChangeAt Go.RowKit
set_option linter.unusedVariables false
set_option linter.unusedSimpArgs false
set_option maxRecDepth 100000
theorem sameRr_spec (a b : List Row) : (a.length ≤ 5000000000000 ∧ b.length ≤ 5000000000000) → Sx.Spec Tryz.prog GG 18 [.d (encL encRow 2 a), .d (encL encRow 2 b)] [] (.d (.bool (sameF a b))) [] := by
  rintro ⟨hla, hlb⟩
  refine spec_intro (E := EE) (fn := Tryz.f18) eok (by kernel_rfl) (by kernel_rfl) Tryz.call18 (by kernel_rfl) (by kernel_rfl) ?_
  conv => whnf
  repeat' first
    | (refine bc_true (by assumption) ?_; (conv => whnf))
    | (refine bc_false (by assumption) ?_; (conv => whnf))
    | (refine bc_intro (fun _ => ?_) (fun _ => ?_) <;> (conv => whnf))
    | (refine need_intro ?_ ?_; (conv => whnf))
    | (refine wk_refl ?_; (conv => whnf))
    | (refine draw_intro (by kernel_rfl) ?_; (conv => whnf))
    | (refine ord_intro (by kernel_rfl) ?_; (conv => whnf))
  all_goals try simp only [bne_iff_ne, bne_eq_false_iff_eq, beq_iff_eq, beq_eq_false_iff_ne, ne_eq, Bool.not_eq_true', Bool.not_eq_false'] at *
  all_goals try first
    | (rw [same_len (by omega)]; exact ⟨LeS.refl _, trivial⟩)
  refine loop_auto [0, 1, 12] [] (fun i : Nat => [(13, .d (.int .i64 i))]) (fun i => []) (fun i => i ≤ a.length ∧ ∀ j, j < i → a.getD j default = b.getD j default) (fun i => a.length - i) 0 ?_ (fun i hx => ?_) ⟨Nat.zero_le _, fun j hj => absurd hj (Nat.not_lt_zero j)⟩
  · conv => whnf
    repeat' first
      | (refine bc_true (by assumption) ?_; (conv => whnf))
      | (refine bc_false (by assumption) ?_; (conv => whnf))
      | (refine bc_intro (fun _ => ?_) (fun _ => ?_) <;> (conv => whnf))
      | (refine need_intro ?_ ?_; (conv => whnf))
      | (refine wk_refl ?_; (conv => whnf))
      | (refine draw_intro (by kernel_rfl) ?_; (conv => whnf))
      | (refine ord_intro (by kernel_rfl) ?_; (conv => whnf))
    all_goals first | exact ⟨rfl, rfl⟩ | exact ⟨rfl, rfl, rfl⟩ | exact DLe.refl _ | exact RowLe.refl _ _ _ | exact trivial
  · obtain ⟨hi, hc⟩ := hx
    have hs : IntKind.i64.wrap ((i : Int) + 1) = ((i + 1 : Nat) : Int) := wrap_succ (n := 8796093022209) (by omega) (by omega)
    conv => whnf
    repeat' first
      | (refine NextVC.mk (i + 1) ?_ ?_ ?_; (conv => whnf))
      | (refine bc_true (by assumption) ?_; (conv => whnf))
      | (refine bc_false (by assumption) ?_; (conv => whnf))
      | (refine bc_intro (fun _ => ?_) (fun _ => ?_) <;> (conv => whnf))
      | (refine need_intro ?_ ?_; (conv => whnf))
      | (refine wk_refl ?_; (conv => whnf))
      | (refine draw_intro (by kernel_rfl) ?_; (conv => whnf))
      | (refine ord_intro (by kernel_rfl) ?_; (conv => whnf))
    all_goals try simp only [decide_eq_true_eq, decide_eq_false_iff_not, Int.toNat_natCast, Bool.and_eq_true, Bool.and_eq_false_iff, bne_iff_ne, bne_eq_false_iff_eq, beq_iff_eq, beq_eq_false_iff_ne, ne_eq, Bool.not_eq_true', Bool.not_eq_false'] at *
    all_goals first
      | exact trivial
      | omega
      | exact DLe.refl _
      | exact DLe.of_eq (by rw [hs])
      | exact ⟨by omega, by omega⟩
      | (refine ⟨by omega, fun j hj => ?_⟩
         by_cases e : j = i
         · subst e; (exact Prod.ext (by simp_all) (by simp_all))
         · exact hc j (by omega))
      | (rw [same_false (i := i) (fun e => by rename_i z; exact z.elim (fun z => z (congrArg Prod.fst e)) (fun z => z (congrArg Prod.snd e)))]; exact ⟨LeS.refl _, trivial⟩)
      | (rw [same_true (by omega) (fun j hj => hc j (by omega))]; exact ⟨LeS.refl _, trivial⟩)
      | trace_state
theorem sameWr_spec (a b : List Wr) : (a.length ≤ 5000000000000 ∧ b.length ≤ 5000000000000) → Sx.Spec Tryz.prog GG 107 [.d (encL encWr 3 a), .d (encL encWr 3 b)] [] (.d (.bool (sameF a b))) [] := by
  rintro ⟨hla, hlb⟩
  refine spec_intro (E := EE) (fn := Tryz.f107) eok (by kernel_rfl) (by kernel_rfl) Tryz.call107 (by kernel_rfl) (by kernel_rfl) ?_
  conv => whnf
  repeat' first
    | (refine bc_true (by assumption) ?_; (conv => whnf))
    | (refine bc_false (by assumption) ?_; (conv => whnf))
    | (refine bc_intro (fun _ => ?_) (fun _ => ?_) <;> (conv => whnf))
    | (refine need_intro ?_ ?_; (conv => whnf))
    | (refine wk_refl ?_; (conv => whnf))
    | (refine draw_intro (by kernel_rfl) ?_; (conv => whnf))
    | (refine ord_intro (by kernel_rfl) ?_; (conv => whnf))
  all_goals try simp only [bne_iff_ne, bne_eq_false_iff_eq, beq_iff_eq, beq_eq_false_iff_ne, ne_eq, Bool.not_eq_true', Bool.not_eq_false'] at *
  all_goals try first
    | (rw [same_len (by omega)]; exact ⟨LeS.refl _, trivial⟩)
  refine loop_auto [0, 1, 12] [] (fun i : Nat => [(13, .d (.int .i64 i))]) (fun i => []) (fun i => i ≤ a.length ∧ ∀ j, j < i → a.getD j default = b.getD j default) (fun i => a.length - i) 0 ?_ (fun i hx => ?_) ⟨Nat.zero_le _, fun j hj => absurd hj (Nat.not_lt_zero j)⟩
  · conv => whnf
    repeat' first
      | (refine bc_true (by assumption) ?_; (conv => whnf))
      | (refine bc_false (by assumption) ?_; (conv => whnf))
      | (refine bc_intro (fun _ => ?_) (fun _ => ?_) <;> (conv => whnf))
      | (refine need_intro ?_ ?_; (conv => whnf))
      | (refine wk_refl ?_; (conv => whnf))
      | (refine draw_intro (by kernel_rfl) ?_; (conv => whnf))
      | (refine ord_intro (by kernel_rfl) ?_; (conv => whnf))
    all_goals first | exact ⟨rfl, rfl⟩ | exact ⟨rfl, rfl, rfl⟩ | exact DLe.refl _ | exact RowLe.refl _ _ _ | exact trivial
  · obtain ⟨hi, hc⟩ := hx
    have hs : IntKind.i64.wrap ((i : Int) + 1) = ((i + 1 : Nat) : Int) := wrap_succ (n := 8796093022209) (by omega) (by omega)
    conv => whnf
    repeat' first
      | (refine NextVC.mk (i + 1) ?_ ?_ ?_; (conv => whnf))
      | (refine bc_true (by assumption) ?_; (conv => whnf))
      | (refine bc_false (by assumption) ?_; (conv => whnf))
      | (refine bc_intro (fun _ => ?_) (fun _ => ?_) <;> (conv => whnf))
      | (refine need_intro ?_ ?_; (conv => whnf))
      | (refine wk_refl ?_; (conv => whnf))
      | (refine draw_intro (by kernel_rfl) ?_; (conv => whnf))
      | (refine ord_intro (by kernel_rfl) ?_; (conv => whnf))
    all_goals try simp only [decide_eq_true_eq, decide_eq_false_iff_not, Int.toNat_natCast, Bool.and_eq_true, Bool.and_eq_false_iff, bne_iff_ne, bne_eq_false_iff_eq, beq_iff_eq, beq_eq_false_iff_ne, ne_eq, Bool.not_eq_true', Bool.not_eq_false'] at *
    all_goals first
      | exact trivial
      | omega
      | exact DLe.refl _
      | exact DLe.of_eq (by rw [hs])
      | exact ⟨by omega, by omega⟩
      | (refine ⟨by omega, fun j hj => ?_⟩
         by_cases e : j = i
         · subst e; (exact Prod.ext (by simp_all) (Prod.ext (by simp_all) (by simp_all)))
         · exact hc j (by omega))
      | (rw [same_false (i := i) (fun e => by rename_i z; rcases z with z | z | z <;> simp_all)]; exact ⟨LeS.refl _, trivial⟩)
      | (rw [same_true (by omega) (fun j hj => hc j (by omega))]; exact ⟨LeS.refl _, trivial⟩)
      | trace_state
theorem sameRl_spec (a b : List Row) : (a.length ≤ 5000000000000 ∧ b.length ≤ 5000000000000) → Sx.Spec Tryz.prog GG 178 [.d (encL encRow 2 a), .d (encL encRow 2 b)] [] (.d (.bool (sameF a b))) [] := by
  rintro ⟨hla, hlb⟩
  refine spec_intro (E := EE) (fn := Tryz.f178) eok (by kernel_rfl) (by kernel_rfl) Tryz.call178 (by kernel_rfl) (by kernel_rfl) ?_
  conv => whnf
  repeat' first
    | (refine bc_true (by assumption) ?_; (conv => whnf))
    | (refine bc_false (by assumption) ?_; (conv => whnf))
    | (refine bc_intro (fun _ => ?_) (fun _ => ?_) <;> (conv => whnf))
    | (refine need_intro ?_ ?_; (conv => whnf))
    | (refine wk_refl ?_; (conv => whnf))
    | (refine draw_intro (by kernel_rfl) ?_; (conv => whnf))
    | (refine ord_intro (by kernel_rfl) ?_; (conv => whnf))
  all_goals try simp only [bne_iff_ne, bne_eq_false_iff_eq, beq_iff_eq, beq_eq_false_iff_ne, ne_eq, Bool.not_eq_true', Bool.not_eq_false'] at *
  all_goals try first
    | (rw [same_len (by omega)]; exact ⟨LeS.refl _, trivial⟩)
  refine loop_auto [0, 1, 12] [] (fun i : Nat => [(13, .d (.int .i64 i))]) (fun i => []) (fun i => i ≤ a.length ∧ ∀ j, j < i → a.getD j default = b.getD j default) (fun i => a.length - i) 0 ?_ (fun i hx => ?_) ⟨Nat.zero_le _, fun j hj => absurd hj (Nat.not_lt_zero j)⟩
  · conv => whnf
    repeat' first
      | (refine bc_true (by assumption) ?_; (conv => whnf))
      | (refine bc_false (by assumption) ?_; (conv => whnf))
      | (refine bc_intro (fun _ => ?_) (fun _ => ?_) <;> (conv => whnf))
      | (refine need_intro ?_ ?_; (conv => whnf))
      | (refine wk_refl ?_; (conv => whnf))
      | (refine draw_intro (by kernel_rfl) ?_; (conv => whnf))
      | (refine ord_intro (by kernel_rfl) ?_; (conv => whnf))
    all_goals first | exact ⟨rfl, rfl⟩ | exact ⟨rfl, rfl, rfl⟩ | exact DLe.refl _ | exact RowLe.refl _ _ _ | exact trivial
  · obtain ⟨hi, hc⟩ := hx
    have hs : IntKind.i64.wrap ((i : Int) + 1) = ((i + 1 : Nat) : Int) := wrap_succ (n := 8796093022209) (by omega) (by omega)
    conv => whnf
    repeat' first
      | (refine NextVC.mk (i + 1) ?_ ?_ ?_; (conv => whnf))
      | (refine bc_true (by assumption) ?_; (conv => whnf))
      | (refine bc_false (by assumption) ?_; (conv => whnf))
      | (refine bc_intro (fun _ => ?_) (fun _ => ?_) <;> (conv => whnf))
      | (refine need_intro ?_ ?_; (conv => whnf))
      | (refine wk_refl ?_; (conv => whnf))
      | (refine draw_intro (by kernel_rfl) ?_; (conv => whnf))
      | (refine ord_intro (by kernel_rfl) ?_; (conv => whnf))
    all_goals try simp only [decide_eq_true_eq, decide_eq_false_iff_not, Int.toNat_natCast, Bool.and_eq_true, Bool.and_eq_false_iff, bne_iff_ne, bne_eq_false_iff_eq, beq_iff_eq, beq_eq_false_iff_ne, ne_eq, Bool.not_eq_true', Bool.not_eq_false'] at *
    all_goals first
      | exact trivial
      | omega
      | exact DLe.refl _
      | exact DLe.of_eq (by rw [hs])
      | exact ⟨by omega, by omega⟩
      | (refine ⟨by omega, fun j hj => ?_⟩
         by_cases e : j = i
         · subst e; (exact Prod.ext (by simp_all) (by simp_all))
         · exact hc j (by omega))
      | (rw [same_false (i := i) (fun e => by rename_i z; exact z.elim (fun z => z (congrArg Prod.fst e)) (fun z => z (congrArg Prod.snd e)))]; exact ⟨LeS.refl _, trivial⟩)
      | (rw [same_true (by omega) (fun j hj => hc j (by omega))]; exact ⟨LeS.refl _, trivial⟩)
      | trace_state
theorem sameWp_spec (a b : List Wr) : (a.length ≤ 5000000000000 ∧ b.length ≤ 5000000000000) → Sx.Spec Tryz.prog GG 171 [.d (encL encWr 3 a), .d (encL encWr 3 b)] [] (.d (.bool (sameF a b))) [] := by
  rintro ⟨hla, hlb⟩
  refine spec_intro (E := EE) (fn := Tryz.f171) eok (by kernel_rfl) (by kernel_rfl) Tryz.call171 (by kernel_rfl) (by kernel_rfl) ?_
  conv => whnf
  repeat' first
    | (refine bc_true (by assumption) ?_; (conv => whnf))
    | (refine bc_false (by assumption) ?_; (conv => whnf))
    | (refine bc_intro (fun _ => ?_) (fun _ => ?_) <;> (conv => whnf))
    | (refine need_intro ?_ ?_; (conv => whnf))
    | (refine wk_refl ?_; (conv => whnf))
    | (refine draw_intro (by kernel_rfl) ?_; (conv => whnf))
    | (refine ord_intro (by kernel_rfl) ?_; (conv => whnf))
  all_goals try simp only [bne_iff_ne, bne_eq_false_iff_eq, beq_iff_eq, beq_eq_false_iff_ne, ne_eq, Bool.not_eq_true', Bool.not_eq_false'] at *
  all_goals try first
    | (rw [same_len (by omega)]; exact ⟨LeS.refl _, trivial⟩)
  refine loop_auto [0, 1, 12] [] (fun i : Nat => [(13, .d (.int .i64 i))]) (fun i => []) (fun i => i ≤ a.length ∧ ∀ j, j < i → a.getD j default = b.getD j default) (fun i => a.length - i) 0 ?_ (fun i hx => ?_) ⟨Nat.zero_le _, fun j hj => absurd hj (Nat.not_lt_zero j)⟩
  · conv => whnf
    repeat' first
      | (refine bc_true (by assumption) ?_; (conv => whnf))
      | (refine bc_false (by assumption) ?_; (conv => whnf))
      | (refine bc_intro (fun _ => ?_) (fun _ => ?_) <;> (conv => whnf))
      | (refine need_intro ?_ ?_; (conv => whnf))
      | (refine wk_refl ?_; (conv => whnf))
      | (refine draw_intro (by kernel_rfl) ?_; (conv => whnf))
      | (refine ord_intro (by kernel_rfl) ?_; (conv => whnf))
    all_goals first | exact ⟨rfl, rfl⟩ | exact ⟨rfl, rfl, rfl⟩ | exact DLe.refl _ | exact RowLe.refl _ _ _ | exact trivial
  · obtain ⟨hi, hc⟩ := hx
    have hs : IntKind.i64.wrap ((i : Int) + 1) = ((i + 1 : Nat) : Int) := wrap_succ (n := 8796093022209) (by omega) (by omega)
    conv => whnf
    repeat' first
      | (refine NextVC.mk (i + 1) ?_ ?_ ?_; (conv => whnf))
      | (refine bc_true (by assumption) ?_; (conv => whnf))
      | (refine bc_false (by assumption) ?_; (conv => whnf))
      | (refine bc_intro (fun _ => ?_) (fun _ => ?_) <;> (conv => whnf))
      | (refine need_intro ?_ ?_; (conv => whnf))
      | (refine wk_refl ?_; (conv => whnf))
      | (refine draw_intro (by kernel_rfl) ?_; (conv => whnf))
      | (refine ord_intro (by kernel_rfl) ?_; (conv => whnf))
    all_goals try simp only [decide_eq_true_eq, decide_eq_false_iff_not, Int.toNat_natCast, Bool.and_eq_true, Bool.and_eq_false_iff, bne_iff_ne, bne_eq_false_iff_eq, beq_iff_eq, beq_eq_false_iff_ne, ne_eq, Bool.not_eq_true', Bool.not_eq_false'] at *
    all_goals first
      | exact trivial
      | omega
      | exact DLe.refl _
      | exact DLe.of_eq (by rw [hs])
      | exact ⟨by omega, by omega⟩
      | (refine ⟨by omega, fun j hj => ?_⟩
         by_cases e : j = i
         · subst e; (exact Prod.ext (by simp_all) (Prod.ext (by simp_all) (by simp_all)))
         · exact hc j (by omega))
      | (rw [same_false (i := i) (fun e => by rename_i z; rcases z with z | z | z <;> simp_all)]; exact ⟨LeS.refl _, trivial⟩)
      | (rw [same_true (by omega) (fun j hj => hc j (by omega))]; exact ⟨LeS.refl _, trivial⟩)
      | trace_state
theorem sameRp_spec (a b : List Row) : (a.length ≤ 5000000000000 ∧ b.length ≤ 5000000000000) → Sx.Spec Tryz.prog GG 170 [.d (encL encRow 2 a), .d (encL encRow 2 b)] [] (.d (.bool (sameF a b))) [] := by
  intro h
  refine spec_intro (E := EE) (fn := Tryz.f170) eok (by kernel_rfl) (by kernel_rfl) Tryz.call170 (by kernel_rfl) (by kernel_rfl) ?_
  conv => whnf
  repeat' first
    | (refine call_if (sameRl_spec _ _) (by first | exact .inl rfl | exact .inr ⟨rfl, rfl⟩) (need_intro ?_ ?_); (conv => whnf))
    | (refine bc_true (by assumption) ?_; (conv => whnf))
    | (refine bc_false (by assumption) ?_; (conv => whnf))
    | (refine bc_intro (fun _ => ?_) (fun _ => ?_) <;> (conv => whnf))
    | (refine need_intro ?_ ?_; (conv => whnf))
    | (refine wk_refl ?_; (conv => whnf))
    | (refine draw_intro (by kernel_rfl) ?_; (conv => whnf))
    | (refine ord_intro (by kernel_rfl) ?_; (conv => whnf))
  all_goals first
    | exact h
    | exact ⟨LeS.refl _, trivial⟩
theorem sameRngr_spec (lk : List UInt8) (lt : Bool) (hk : List UInt8) (ht : Bool) (lk2 : List UInt8) (lt2 : Bool) (hk2 : List UInt8) (ht2 : Bool) : Sx.Spec Tryz.prog GG 33 [.agg [.d (.str lk), .d (.bool lt), .d (.str hk), .d (.bool ht)], .agg [.d (.str lk2), .d (.bool lt2), .d (.str hk2), .d (.bool ht2)]] [] (.d (.bool (sameRng (lk, lt, hk, ht) (lk2, lt2, hk2, ht2)))) [] := by
  refine spec_intro (E := EE) (fn := Tryz.f33) eok (by kernel_rfl) (by kernel_rfl) Tryz.call33 (by kernel_rfl) (by kernel_rfl) ?_
  conv => whnf
  repeat' first
    | (refine call_intro (comparer_spec _ _ _ _) ?_ (by first | exact .inl rfl | exact .inr ⟨rfl, rfl⟩); (conv => whnf))
    | (refine bc_true (by assumption) ?_; (conv => whnf))
    | (refine bc_false (by assumption) ?_; (conv => whnf))
    | (refine bc_intro (fun _ => ?_) (fun _ => ?_) <;> (conv => whnf))
    | (refine need_intro ?_ ?_; (conv => whnf))
    | (refine wk_refl ?_; (conv => whnf))
    | (refine draw_intro (by kernel_rfl) ?_; (conv => whnf))
    | (refine ord_intro (by kernel_rfl) ?_; (conv => whnf))
  all_goals
    refine ⟨LeS.of_eq ?_, trivial⟩
    simp only [sameRng, *, Bool.true_and, Bool.false_and]
theorem samePartr_spec (p q : PartT) : (p.rows.length ≤ 4398046511104 ∧ q.rows.length ≤ 4398046511104) → Sx.Spec Tryz.prog GG 105 [.agg (partL p), .agg (partL q)] [] (.d (.bool (samePart p q))) [] := by
  rintro ⟨h1, h2⟩
  refine spec_intro (E := EE) (fn := Tryz.f105) eok (by kernel_rfl) (by kernel_rfl) Tryz.call105 (by kernel_rfl) (by kernel_rfl) ?_
  conv => whnf
  repeat' first
    | (refine call_intro (sameRngr_spec _ _ _ _ _ _ _ _) ?_ (by first | exact .inl rfl | exact .inr ⟨rfl, rfl⟩); (conv => whnf))
    | (refine call_if (sameRr_spec _ _) (by first | exact .inl rfl | exact .inr ⟨rfl, rfl⟩) (need_intro ?_ ?_); (conv => whnf))
    | (refine bc_true (by assumption) ?_; (conv => whnf))
    | (refine bc_false (by assumption) ?_; (conv => whnf))
    | (refine bc_intro (fun _ => ?_) (fun _ => ?_) <;> (conv => whnf))
    | (refine need_intro ?_ ?_; (conv => whnf))
    | (refine wk_refl ?_; (conv => whnf))
    | (refine draw_intro (by kernel_rfl) ?_; (conv => whnf))
    | (refine ord_intro (by kernel_rfl) ?_; (conv => whnf))
  all_goals first
    | exact ⟨by omega, by omega⟩
    | (refine ⟨LeS.of_eq ?_, trivial⟩
       first
         | (simp_all [samePart, PartT.rng]; done)
         | trace_state)
theorem samer_spec (a b : CopyT) : (Small a ∧ Small b) → Sx.Spec Tryz.prog GG 122 [.agg (copyL a), .agg (copyL b)] [] (.d (.bool (sameC a b))) [] := by
  rintro ⟨⟨h1, h2, h3, h4⟩, ⟨g1, g2, g3, g4⟩⟩
  refine spec_intro (E := EE) (fn := Tryz.f122) eok (by kernel_rfl) (by kernel_rfl) Tryz.call122 (by kernel_rfl) (by kernel_rfl) ?_
  conv => whnf
  repeat' first
    | (refine call_intro (sameRngr_spec _ _ _ _ _ _ _ _) ?_ (by first | exact .inl rfl | exact .inr ⟨rfl, rfl⟩); (conv => whnf))
    | (refine call_if (sameRr_spec _ _) (by first | exact .inl rfl | exact .inr ⟨rfl, rfl⟩) (need_intro ?_ ?_); (conv => whnf))
    | (refine call_if (sameWr_spec _ _) (by first | exact .inl rfl | exact .inr ⟨rfl, rfl⟩) (need_intro ?_ ?_); (conv => whnf))
    | (refine call_if (samePartr_spec a.out b.out) (by first | exact .inl rfl | exact .inr ⟨rfl, rfl⟩) (need_intro ?_ ?_); (conv => whnf))
    | (refine call_if (samePartr_spec a.inn b.inn) (by first | exact .inl rfl | exact .inr ⟨rfl, rfl⟩) (need_intro ?_ ?_); (conv => whnf))
    | (refine bc_true (by assumption) ?_; (conv => whnf))
    | (refine bc_false (by assumption) ?_; (conv => whnf))
    | (refine bc_intro (fun _ => ?_) (fun _ => ?_) <;> (conv => whnf))
    | (refine need_intro ?_ ?_; (conv => whnf))
    | (refine wk_refl ?_; (conv => whnf))
    | (refine draw_intro (by kernel_rfl) ?_; (conv => whnf))
    | (refine ord_intro (by kernel_rfl) ?_; (conv => whnf))
  all_goals first
    | exact ⟨by omega, by omega⟩
    | (refine ⟨LeS.of_eq ?_, trivial⟩
       first
         | (simp_all [sameC, CopyT.rng]; done)
         | trace_state)
theorem sameRngp_spec (lk : List UInt8) (lt : Bool) (hk : List UInt8) (ht : Bool) (lk2 : List UInt8) (lt2 : Bool) (hk2 : List UInt8) (ht2 : Bool) : Sx.Spec Tryz.prog GG 169 [.agg [.d (.str lk), .d (.bool lt), .d (.str hk), .d (.bool ht)], .agg [.d (.str lk2), .d (.bool lt2), .d (.str hk2), .d (.bool ht2)]] [] (.d (.bool (sameRng (lk, lt, hk, ht) (lk2, lt2, hk2, ht2)))) [] := by
  refine spec_intro (E := EE) (fn := Tryz.f169) eok (by kernel_rfl) (by kernel_rfl) Tryz.call169 (by kernel_rfl) (by kernel_rfl) ?_
  conv => whnf
  repeat' first
    | (refine call_intro (comparep_spec _ _ _ _) ?_ (by first | exact .inl rfl | exact .inr ⟨rfl, rfl⟩); (conv => whnf))
    | (refine bc_true (by assumption) ?_; (conv => whnf))
    | (refine bc_false (by assumption) ?_; (conv => whnf))
    | (refine bc_intro (fun _ => ?_) (fun _ => ?_) <;> (conv => whnf))
    | (refine need_intro ?_ ?_; (conv => whnf))
    | (refine wk_refl ?_; (conv => whnf))
    | (refine draw_intro (by kernel_rfl) ?_; (conv => whnf))
    | (refine ord_intro (by kernel_rfl) ?_; (conv => whnf))
  all_goals
    refine ⟨LeS.of_eq ?_, trivial⟩
    simp only [sameRng, *, Bool.true_and, Bool.false_and]
theorem samePartp_spec (p q : PartT) : (p.rows.length ≤ 4398046511104 ∧ q.rows.length ≤ 4398046511104) → Sx.Spec Tryz.prog GG 172 [.agg (partL p), .agg (partL q)] [] (.d (.bool (samePart p q))) [] := by
  rintro ⟨h1, h2⟩
  refine spec_intro (E := EE) (fn := Tryz.f172) eok (by kernel_rfl) (by kernel_rfl) Tryz.call172 (by kernel_rfl) (by kernel_rfl) ?_
  conv => whnf
  repeat' first
    | (refine call_intro (sameRngp_spec _ _ _ _ _ _ _ _) ?_ (by first | exact .inl rfl | exact .inr ⟨rfl, rfl⟩); (conv => whnf))
    | (refine call_if (sameRp_spec _ _) (by first | exact .inl rfl | exact .inr ⟨rfl, rfl⟩) (need_intro ?_ ?_); (conv => whnf))
    | (refine bc_true (by assumption) ?_; (conv => whnf))
    | (refine bc_false (by assumption) ?_; (conv => whnf))
    | (refine bc_intro (fun _ => ?_) (fun _ => ?_) <;> (conv => whnf))
    | (refine need_intro ?_ ?_; (conv => whnf))
    | (refine wk_refl ?_; (conv => whnf))
    | (refine draw_intro (by kernel_rfl) ?_; (conv => whnf))
    | (refine ord_intro (by kernel_rfl) ?_; (conv => whnf))
  all_goals first
    | exact ⟨by omega, by omega⟩
    | (refine ⟨LeS.of_eq ?_, trivial⟩
       first
         | (simp_all [samePart, PartT.rng]; done)
         | trace_state)
theorem samep_spec (a b : CopyT) : (Small a ∧ Small b) → Sx.Spec Tryz.prog GG 162 [.agg (copyL a), .agg (copyL b)] [] (.d (.bool (sameC a b))) [] := by
  rintro ⟨⟨h1, h2, h3, h4⟩, ⟨g1, g2, g3, g4⟩⟩
  refine spec_intro (E := EE) (fn := Tryz.f162) eok (by kernel_rfl) (by kernel_rfl) Tryz.call162 (by kernel_rfl) (by kernel_rfl) ?_
  conv => whnf
  repeat' first
    | (refine call_intro (sameRngp_spec _ _ _ _ _ _ _ _) ?_ (by first | exact .inl rfl | exact .inr ⟨rfl, rfl⟩); (conv => whnf))
    | (refine call_if (sameRp_spec _ _) (by first | exact .inl rfl | exact .inr ⟨rfl, rfl⟩) (need_intro ?_ ?_); (conv => whnf))
    | (refine call_if (sameWp_spec _ _) (by first | exact .inl rfl | exact .inr ⟨rfl, rfl⟩) (need_intro ?_ ?_); (conv => whnf))
    | (refine call_if (samePartp_spec a.out b.out) (by first | exact .inl rfl | exact .inr ⟨rfl, rfl⟩) (need_intro ?_ ?_); (conv => whnf))
    | (refine call_if (samePartp_spec a.inn b.inn) (by first | exact .inl rfl | exact .inr ⟨rfl, rfl⟩) (need_intro ?_ ?_); (conv => whnf))
    | (refine bc_true (by assumption) ?_; (conv => whnf))
    | (refine bc_false (by assumption) ?_; (conv => whnf))
    | (refine bc_intro (fun _ => ?_) (fun _ => ?_) <;> (conv => whnf))
    | (refine need_intro ?_ ?_; (conv => whnf))
    | (refine wk_refl ?_; (conv => whnf))
    | (refine draw_intro (by kernel_rfl) ?_; (conv => whnf))
    | (refine ord_intro (by kernel_rfl) ?_; (conv => whnf))
  all_goals first
    | exact ⟨by omega, by omega⟩
    | (refine ⟨LeS.of_eq ?_, trivial⟩
       first
         | (simp_all [sameC, CopyT.rng]; done)
         | trace_state)
end Go.Proofs.YtapddnfjngfloaaGreatDoor
