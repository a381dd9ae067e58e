/- Contracts of functions that the law reaches: YtggehonedmbnjaaDoorQTap. Written for this claim. -/
import Derived.Test.YtggehonedmbnjaaDoorQFin
namespace Go.Proofs.YtggehonedmbnjaaDoor
open Go Go.Sx Go.ChangeShapes Go.WideShapes Go.ChangeAt Go.RowKit
set_option linter.unusedVariables false
set_option linter.unusedSimpArgs false
set_option maxRecDepth 100000
def I64 (n : Int) : Prop := -9223372036854775808 ≤ n ∧ n < 9223372036854775808
theorem cellsIntG : Tryd.prog.cellsOf 3 = 1 := cellsI
theorem bytesIntG : Tryd.prog.bytesOf 3 = 8 := bytesI
/-- a choice among numbers that are written out: what is true of all of them -/
theorem pickQ_ex (m : Nat) {l : List Int} {a : Nat} (Q : Int → Prop) {n : Nat} {g : Nat → Nat → D} : (TapeOk l a ∧ (0 < n ∧ n ≤ 1000) ∧ AllLt (fun i => ∃ v, g i 0 = .int .i64 v ∧ Q v) n) → ∃ x : Int × Nat, (Q x.1 ∧ TapeOk l x.2) ∧
    Sx.Spec Tryd.prog GG 20 [.ptr m 0, .d (.list n 1 g)] [(m, tapeB l a)] (.d (.int .i64 x.1)) [(m, tapeB l x.2)] := by
  rintro ⟨h, hn, hq⟩
  obtain ⟨xs, h1, h2, h3⟩ := list_of (α := Int) (enc := encI) (Q := Q) (k := 1) (fun _ => rfl) (len := n) (get := g) (fun i hi => by
    obtain ⟨v, e, hv⟩ := hq.out i hi
    exact ⟨v, hv, by simp [List.range_succ, encI, e]⟩)
  obtain ⟨x, ⟨hx1, hx2⟩, hs⟩ := pick0 (xs := xs) ⟨h, by omega, by omega⟩
  exact ⟨x, ⟨h2 _ hx1, hx2⟩, (hs.at m).arg (LeL.cons (LeS.refl _) (LeL.cons (LeS.d h3) LeL.nil))⟩
theorem write0 {l : List Int} {a : Nat} : TapeOk l a → ∃ x : Wr × Nat, (((x.1.1.length : Int) ≤ 65 ∧ (x.1.2.1.length : Int) ≤ 65) ∧ TapeOk l x.2) ∧ Sx.Spec Tryd.prog GG 19 [.ptr 1000 0] [(1000, tapeB l a)] (.agg [.d (.str x.1.1), .d (.str x.1.2.1), .d (.bool x.1.2.2)]) [(1000, tapeB l x.2)] := by
  intro h
  refine spec_some (E := EE) (fn := Tryd.f19) _ _ _ false eok (by kernel_rfl) (by kernel_rfl) Tryd.call19 (by kernel_rfl) (fun _ => by kernel_rfl) (fun _ => by kernel_rfl) ?_
  conv => whnf
  repeat' first
    | (refine call_some_if (oddKey_ex _) (fun _ => by first | exact .inl rfl | exact .inr ⟨rfl, rfl⟩) (need_intro ?_ ?_); rintro ⟨k, b⟩ ⟨h1, h2⟩; (conv => whnf))
    | (refine call_some_if (oddValue_ex _) (fun _ => by first | exact .inl rfl | exact .inr ⟨rfl, rfl⟩) (need_intro ?_ ?_); rintro ⟨v, b⟩ ⟨h1, h2⟩; (conv => whnf))
    | (refine call_some_if (bool_ex _) (fun _ => by first | exact .inl rfl | exact .inr ⟨rfl, rfl⟩) (need_intro ?_ ?_); rintro ⟨v, b⟩ h1; (conv => whnf))
    | (refine bc_true (by assumption) ?_; (conv => whnf))
    | (refine bc_false (by assumption) ?_; (conv => whnf))
    | (refine bc_intro (fun _ => ?_) (fun _ => ?_) <;> (conv => whnf))
    | (refine need_intro ?_ ?_; (conv => whnf))
    | (refine wk_refl ?_; (conv => whnf))
    | (refine draw_intro (by kernel_rfl) ?_; (conv => whnf))
    | (refine ord_intro (by kernel_rfl) ?_; (conv => whnf))
  all_goals try simp only [decide_eq_true_eq, decide_eq_false_iff_not, beq_iff_eq, beq_eq_false_iff_ne, letterS_len] at *
  all_goals try first
    | assumption
    | exact ⟨by assumption, by omega, by omega⟩
    | exact ⟨by omega, by omega, by omega⟩
    | exact ⟨by omega, by omega⟩
  all_goals (refine ⟨((_, _, _), _), ⟨⟨?_, ?_⟩, by assumption⟩, LeS.refl _, LeL.refl _, trivial⟩ <;> (simp only; omega))
theorem write_ex (m : Nat) {l : List Int} {a : Nat} : TapeOk l a → ∃ x : Wr × Nat, (((x.1.1.length : Int) ≤ 65 ∧ (x.1.2.1.length : Int) ≤ 65) ∧ TapeOk l x.2) ∧ Sx.Spec Tryd.prog GG 19 [.ptr m 0] [(m, tapeB l a)] (.agg [.d (.str x.1.1), .d (.str x.1.2.1), .d (.bool x.1.2.2)]) [(m, tapeB l x.2)] := fun h => by
  obtain ⟨x, hx, hs⟩ := write0 h
  exact ⟨x, hx, hs.at m⟩
theorem left0 {l : List Int} {a : Nat} : TapeOk l a → ∃ x : Bool × Nat, TapeOk l x.2 ∧ Sx.Spec Tryd.prog GG 7 [.ptr 1000 0] [(1000, tapeB l a)] (.d (.bool x.1)) [(1000, tapeB l x.2)] := by
  intro h
  refine spec_some (E := EE) (fn := Tryd.f7) _ _ _ false eok (by kernel_rfl) (by kernel_rfl) Tryd.call7 (by kernel_rfl) (fun _ => by kernel_rfl) (fun _ => by kernel_rfl) ?_
  conv => whnf
  repeat' first
    | (refine bc_true (by assumption) ?_; (conv => whnf))
    | (refine bc_false (by assumption) ?_; (conv => whnf))
    | (refine bc_intro (fun _ => ?_) (fun _ => ?_) <;> (conv => whnf))
    | (refine need_intro ?_ ?_; (conv => whnf))
    | (refine wk_refl ?_; (conv => whnf))
    | (refine draw_intro (by kernel_rfl) ?_; (conv => whnf))
    | (refine ord_intro (by kernel_rfl) ?_; (conv => whnf))
  all_goals exact ⟨(_, a), h, LeS.refl _, LeL.refl _, trivial⟩
theorem left_ex (m : Nat) {l : List Int} {a : Nat} : TapeOk l a → ∃ x : Bool × Nat, TapeOk l x.2 ∧ Sx.Spec Tryd.prog GG 7 [.ptr m 0] [(m, tapeB l a)] (.d (.bool x.1)) [(m, tapeB l x.2)] := fun h => by
  obtain ⟨x, hx, hs⟩ := left0 h
  exact ⟨x, hx, hs.at m⟩
/-! drawn lists of numbers -/
set_option maxHeartbeats 1000000 in
theorem ints0 {l : List Int} {a : Nat} {n mst : Int} : (TapeOk l a ∧ (0 ≤ n ∧ n ≤ 100) ∧ (0 < mst ∧ mst ≤ 1000000)) → ∃ x : List Int × Nat, ((x.1.length : Int) ≤ n ∧ TapeOk l x.2) ∧ Sx.Spec Tryd.prog GG 18 [.ptr 1000 0, .d (.int .i64 n), .d (.int .i64 mst)] [(1000, tapeB l a)] (.d (encL encI 1 x.1)) [(1000, tapeB l x.2)] := by
  rintro ⟨hT, hn, hm⟩
  have hw : IntKind.i64.wrap (n + 1) = n + 1 := wrap_of (by omega) (by omega)
  refine spec_some (E := EE) (fn := Tryd.f18) _ _ _ false eok (by kernel_rfl) (by kernel_rfl) Tryd.call18 (by kernel_rfl) (fun _ => by kernel_rfl) (fun _ => by kernel_rfl) ?_
  conv => whnf
  repeat' first
    | (refine call_some_if (next_ex _) (fun _ => by first | exact .inl rfl | exact .inr ⟨rfl, rfl⟩) (need_intro ?_ ?_); rintro ⟨v, b⟩ ⟨⟨q1, q2⟩, h6⟩; (conv => whnf))
    | (refine bc_true (by assumption) ?_; (conv => whnf))
    | (refine bc_false (by assumption) ?_; (conv => whnf))
    | (refine need_intro ?_ ?_; (conv => whnf))
    | (refine wk_refl ?_; (conv => whnf))
    | (refine draw_intro (by kernel_rfl) ?_; (conv => whnf))
    | (refine ord_intro (by kernel_rfl) ?_; (conv => whnf))
  all_goals try simp only at *
  all_goals try first
    | assumption
    | exact ⟨by assumption, by omega, by omega⟩
  rw [hw] at q2
  refine loop_auto [0, 1, 2, 6] [] (fun x : List Int × Int × Nat => [(8, .d (.int .i64 x.2.1)), (7, .osl 500 1 0 x.1.length)]) (fun x => [(500, .row 3 1 x.1.length (cellOf encI x.1)), (1000, tapeB l x.2.2)]) (fun x => (0 ≤ x.2.1 ∧ (x.1.length : Int) + x.2.1 ≤ n) ∧ TapeOk l x.2.2) (fun x => x.2.1.toNat) ([], v, b) ?_ (fun x hx => ?_) ⟨⟨q1, by simp only [List.length_nil]; omega⟩, h6⟩
  · conv => whnf
    repeat' first
      | (refine bc_true (by assumption) ?_; (conv => whnf))
      | (refine bc_false (by assumption) ?_; (conv => whnf))
      | (refine bc_intro (fun _ => ?_) (fun _ => ?_) <;> (conv => whnf))
      | (refine need_intro ?_ ?_; (conv => whnf))
      | (refine wk_refl ?_; (conv => whnf))
      | (refine draw_intro (by kernel_rfl) ?_; (conv => whnf))
      | (refine ord_intro (by kernel_rfl) ?_; (conv => whnf))
    all_goals first | exact trivial | exact DLe.refl _ | exact DLe.nil | exact ⟨rfl, rfl⟩ | exact ⟨rfl, rfl, rfl⟩ | exact RowLe.refl _ _ _ | trace_state
  · obtain ⟨xs, i, b⟩ := x
    obtain ⟨⟨hi, hl⟩, hb⟩ := hx
    simp only at hi hl hb
    have hs : 0 < i → IntKind.i64.wrap (i - 1) = i - 1 := fun _ => wrap_of (by omega) (by omega)
    conv => whnf
    repeat' first
      | (refine call_some_if (next_ex _) (fun _ => by first | exact .inl rfl | exact .inr ⟨rfl, rfl⟩) (need_intro ?_ ?_); rintro ⟨w, b⟩ ⟨⟨q1, q2⟩, h6⟩; (conv => whnf))
      | (refine NextVC.mk (xs ++ [w], i - 1, b) ?_ ?_ ?_; (conv => whnf))
      | (refine bc_true (by assumption) ?_; (conv => whnf))
      | (refine bc_false (by assumption) ?_; (conv => whnf))
      | (refine bc_intro (fun _ => ?_) (fun _ => ?_) <;> (conv => whnf))
      | (refine need_intro ?_ ?_; (conv => whnf))
      | (refine wk_refl ?_; (conv => whnf))
      | (refine draw_intro (by kernel_rfl) ?_; (conv => whnf))
      | (refine ord_intro (by kernel_rfl) ?_; (conv => whnf))
    all_goals try simp only [decide_eq_true_eq, decide_eq_false_iff_not] at *
    all_goals first
      | exact trivial
      | assumption
      | omega
      | exact DLe.refl _
      | exact ⟨by assumption, by omega, by omega⟩
      | exact DLe.of_eq (by rw [hs (by omega)])
      | exact ⟨trivial, cellsIntG, by simp only [List.length_append, List.length_singleton]⟩
      | exact ⟨cellsIntG, trivial, by simp only [List.length_append, List.length_singleton]⟩
      | exact ⟨trivial, by rw [bytesIntG]; omega, by omega⟩
      | (simp only [List.length_append, List.length_singleton]; done)
      | (simp only [List.length_append, List.length_singleton]; exact row_snoc rfl (RowLe.refl _ _ _) (jlt1 (DLe.of_eq rfl)))
      | exact ⟨⟨by omega, by simp only [List.length_append, List.length_singleton]; omega⟩, by assumption⟩
      | exact ⟨(xs, _), ⟨by simp only; omega, by assumption⟩, les_own rfl, LeL.refl _, trivial⟩
      | trace_state
theorem ints_ex (m : Nat) {l : List Int} {a : Nat} {n mst : Int} : (TapeOk l a ∧ (0 ≤ n ∧ n ≤ 100) ∧ (0 < mst ∧ mst ≤ 1000000)) → ∃ x : List Int × Nat, ((x.1.length : Int) ≤ n ∧ TapeOk l x.2) ∧ Sx.Spec Tryd.prog GG 18 [.ptr m 0, .d (.int .i64 n), .d (.int .i64 mst)] [(m, tapeB l a)] (.d (encL encI 1 x.1)) [(m, tapeB l x.2)] := fun h => by
  obtain ⟨x, hx, hs⟩ := ints0 h
  exact ⟨x, hx, hs.at m⟩
end Go.Proofs.YtggehonedmbnjaaDoor
