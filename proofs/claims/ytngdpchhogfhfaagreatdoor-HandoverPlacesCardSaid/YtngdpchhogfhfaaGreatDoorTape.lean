/- Contracts of functions that the law reaches: YtngdpchhogfhfaaGreatDoorTape. Written for this claim. -/
import Derived.Test.YtngdpchhogfhfaaGreatDoorSame
import Derived.Test.YtngdpchhogfhfaaGreatDoorSxTab
namespace Go.Proofs.YtngdpchhogfhfaaGreatDoor
open Go Go.Sx Go.ChangeShapes Go.WideShapes Go.ChangeAt Go.RowKit
set_option linter.unusedVariables false
set_option linter.unusedSimpArgs false
set_option maxRecDepth 100000
theorem pick0 {l : List Int} {a : Nat} {xs : List Int} : (TapeOk l a ∧ 0 < xs.length ∧ xs.length ≤ 1000) → ∃ x : Int × Nat, (x.1 ∈ xs ∧ TapeOk l x.2) ∧
    Sx.Spec Tryz.prog GG 64 [.ptr 1000 0, .d (encL encI 1 xs)] [(1000, tapeB l a)] (.d (.int .i64 x.1)) [(1000, tapeB l x.2)] := by
  rintro ⟨h, hn⟩
  refine spec_some (E := EE) (fn := Tryz.f64) _ _ _ false eok (by kernel_rfl) (by kernel_rfl) Tryz.call64 (by kernel_rfl) (fun _ => by kernel_rfl) (fun _ => by kernel_rfl) ?_
  conv => whnf
  repeat' first
    | (refine call_some_if (next_ex _) (fun _ => by first | exact .inl rfl | exact .inr ⟨rfl, rfl⟩) (need_intro ?_ ?_); rintro ⟨v, b⟩ ⟨⟨h1, h2⟩, h3⟩; (conv => whnf))
    | (refine bc_true (by assumption) ?_; (conv => whnf))
    | (refine bc_false (by assumption) ?_; (conv => whnf))
    | (refine bc_intro (fun _ => ?_) (fun _ => ?_) <;> (conv => whnf))
    | (refine need_intro ?_ ?_; (conv => whnf))
    | (refine wk_refl ?_; (conv => whnf))
    | (refine draw_intro (by kernel_rfl) ?_; (conv => whnf))
    | (refine ord_intro (by kernel_rfl) ?_; (conv => whnf))
  · refine ⟨(_, _), ⟨?_, by assumption⟩, LeS.refl _, LeL.refl _, trivial⟩
    have hv : v.toNat < xs.length := by omega
    show xs.getD v.toNat default ∈ xs
    have e : xs.getD v.toNat default = xs[v.toNat] := by simp only [List.getD, List.getElem?_eq_getElem hv, Option.getD_some]
    rw [e]
    exact List.getElem_mem hv
  · exact ⟨by omega, by omega⟩
  · exact ⟨h, by omega, by omega⟩
/-- a choice among numbers that are written out: what is true of all of them -/
theorem pickQ_ex (m : Nat) {l : List Int} {a : Nat} (Q : Int → Prop) {n : Nat} {g : Nat → Nat → D} : (TapeOk l a ∧ (0 < n ∧ n ≤ 1000) ∧ AllLt (fun i => ∃ v, g i 0 = .int .i64 v ∧ Q v) n) → ∃ x : Int × Nat, (Q x.1 ∧ TapeOk l x.2) ∧
    Sx.Spec Tryz.prog GG 64 [.ptr m 0, .d (.list n 1 g)] [(m, tapeB l a)] (.d (.int .i64 x.1)) [(m, tapeB l x.2)] := by
  rintro ⟨h, hn, hq⟩
  obtain ⟨xs, h1, h2, h3⟩ := list_of (α := Int) (enc := encI) (Q := Q) (k := 1) (fun _ => rfl) (len := n) (get := g) (fun i hi => by
    obtain ⟨v, e, hv⟩ := hq.out i hi
    exact ⟨v, hv, by simp [List.range_succ, encI, e]⟩)
  obtain ⟨x, ⟨hx1, hx2⟩, hs⟩ := pick0 (xs := xs) ⟨h, by omega, by omega⟩
  exact ⟨x, ⟨h2 _ hx1, hx2⟩, (hs.at m).arg (LeL.cons (LeS.refl _) (LeL.cons (LeS.d h3) LeL.nil))⟩
theorem writeIn0 {l : List Int} {a : Nat} {lk : List UInt8} {lt : Bool} {hk : List UInt8} {ht : Bool} : (TapeOk l a ∧ emptyR lk lt hk ht = false) → ∃ x : Wr × Nat, ((validW x.1.1 x.1.2.1 x.1.2.2 = true ∧ hasR (lk, lt, hk, ht) x.1.1 = true) ∧ TapeOk l x.2) ∧
    Sx.Spec Tryz.prog GG 33 [.ptr 1000 0, .agg [.d (.str lk), .d (.bool lt), .d (.str hk), .d (.bool ht)]] [(1000, tapeB l a)] (.agg [.d (.str x.1.1), .d (.str x.1.2.1), .d (.bool x.1.2.2)]) [(1000, tapeB l x.2)] := by
  rintro ⟨h, he⟩
  refine spec_some (E := EE) (fn := Tryz.f33) _ _ _ false eok (by kernel_rfl) (by kernel_rfl) Tryz.call33 (by kernel_rfl) (fun _ => by kernel_rfl) (fun _ => by kernel_rfl) ?_
  conv => whnf
  repeat' first
    | (refine call_some_if (keyIn_ex _) (fun _ => by first | exact .inl rfl | exact .inr ⟨rfl, rfl⟩) (need_intro ?_ ?_); rintro ⟨k, b⟩ ⟨h1, h2, h3⟩; (conv => whnf))
    | (refine call_some_if (bool_ex _) (fun _ => by first | exact .inl rfl | exact .inr ⟨rfl, rfl⟩) (need_intro ?_ ?_); rintro ⟨d, b⟩ h4; (conv => whnf))
    | (refine call_some_if (value_ex _) (fun _ => by first | exact .inl rfl | exact .inr ⟨rfl, rfl⟩) (need_intro ?_ ?_); rintro ⟨v, b⟩ ⟨h5, h6⟩; (conv => whnf))
    | (refine bc_true (by assumption) ?_; (conv => whnf))
    | (refine bc_false (by assumption) ?_; (conv => whnf))
    | (refine bc_intro (fun _ => ?_) (fun _ => ?_) <;> (conv => whnf))
    | (refine need_intro ?_ ?_; (conv => whnf))
    | (refine wk_refl ?_; (conv => whnf))
    | (refine draw_intro (by kernel_rfl) ?_; (conv => whnf))
    | (refine ord_intro (by kernel_rfl) ?_; (conv => whnf))
  all_goals try simp only [Bool.not_eq_true', Bool.not_eq_false', decide_eq_true_eq, decide_eq_false_iff_not] at *
  all_goals try first
    | assumption
    | exact ⟨by assumption, by assumption⟩
    | exact ⟨by assumption, by omega, by omega⟩
  all_goals first
    | (refine ⟨((_, _, _), _), ⟨⟨?_, by assumption⟩, by assumption⟩, LeS.refl _, LeL.refl _, trivial⟩
       simp only [validW, Bool.and_eq_true, decide_eq_true_eq]
       refine ⟨⟨by assumption, by first | assumption | simp⟩, ?_⟩
       simp [*]
       done)
    | trace_state
theorem writeIn_ex (m : Nat) {l : List Int} {a : Nat} {lk : List UInt8} {lt : Bool} {hk : List UInt8} {ht : Bool} : (TapeOk l a ∧ emptyR lk lt hk ht = false) → ∃ x : Wr × Nat, ((validW x.1.1 x.1.2.1 x.1.2.2 = true ∧ hasR (lk, lt, hk, ht) x.1.1 = true) ∧ TapeOk l x.2) ∧
    Sx.Spec Tryz.prog GG 33 [.ptr m 0, .agg [.d (.str lk), .d (.bool lt), .d (.str hk), .d (.bool ht)]] [(m, tapeB l a)] (.agg [.d (.str x.1.1), .d (.str x.1.2.1), .d (.bool x.1.2.2)]) [(m, tapeB l x.2)] := fun h => by
  obtain ⟨x, hx, hs⟩ := writeIn0 h
  exact ⟨x, hx, hs.at m⟩
/-! Subtract -/
end Go.Proofs.YtngdpchhogfhfaaGreatDoor
