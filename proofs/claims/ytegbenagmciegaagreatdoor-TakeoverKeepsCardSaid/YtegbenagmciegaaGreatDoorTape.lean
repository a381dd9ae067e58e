/- Contracts of functions that the law reaches: YtegbenagmciegaaGreatDoorTape. Written for this claim. -/
import Derived.Test.YtegbenagmciegaaGreatDoorSame
import Derived.Test.YtegbenagmciegaaGreatDoorSxTab
namespace Go.Proofs.YtegbenagmciegaaGreatDoor
open Go Go.Sx Go.ChangeShapes Go.WideShapes Go.ChangeAt Go.RowKit
set_option linter.unusedVariables false
set_option linter.unusedSimpArgs false
set_option maxRecDepth 100000
theorem pick0 {l : List Int} {a : Nat} {xs : List Int} : (TapeOk l a ∧ 0 < xs.length ∧ xs.length ≤ 1000) → ∃ x : Int × Nat, (x.1 ∈ xs ∧ TapeOk l x.2) ∧
    Sx.Spec Tryz.prog GG 18 [.ptr 1000 0, .d (encL encI 1 xs)] [(1000, tapeB l a)] (.d (.int .i64 x.1)) [(1000, tapeB l x.2)] := by
  rintro ⟨h, hn⟩
  refine spec_some (E := EE) (fn := Tryz.f18) _ _ _ false eok (by kernel_rfl) (by kernel_rfl) Tryz.call18 (by kernel_rfl) (fun _ => by kernel_rfl) (fun _ => by kernel_rfl) ?_
  conv => whnf
  repeat' first
    | (refine call_some_if (next_ex _) (fun _ => by first | exact .inl rfl | exact .inr ⟨rfl, rfl⟩) (need_intro ?_ ?_); rintro ⟨v, b⟩ ⟨⟨h1, h2⟩, h3⟩; (conv => whnf))
    | (refine bc_true (by assumption) ?_; (conv => whnf))
    | (refine bc_false (by assumption) ?_; (conv => whnf))
    | (refine bc_intro (fun _ => ?_) (fun _ => ?_) <;> (conv => whnf))
    | (refine need_intro ?_ ?_; (conv => whnf))
    | (refine wk_refl ?_; (conv => whnf))
    | (refine draw_intro (by kernel_rfl) ?_; (conv => whnf))
    | (refine ord_intro (by kernel_rfl) ?_; (conv => whnf))
  · refine ⟨(_, _), ⟨?_, by assumption⟩, LeS.refl _, LeL.refl _, trivial⟩
    have hv : v.toNat < xs.length := by omega
    show xs.getD v.toNat default ∈ xs
    have e : xs.getD v.toNat default = xs[v.toNat] := by simp only [List.getD, List.getElem?_eq_getElem hv, Option.getD_some]
    rw [e]
    exact List.getElem_mem hv
  · exact ⟨by omega, by omega⟩
  · exact ⟨h, by omega, by omega⟩
/-- a choice among numbers that are written out -/
theorem pick_ex (m : Nat) {l : List Int} {a : Nat} (xs : List Int) {n : Nat} {g : Nat → Nat → D} (hg : RowLe n 1 g (cellOf encI xs)) : (n = xs.length ∧ TapeOk l a ∧ 0 < xs.length ∧ xs.length ≤ 1000) → ∃ x : Int × Nat, (x.1 ∈ xs ∧ TapeOk l x.2) ∧
    Sx.Spec Tryz.prog GG 18 [.ptr m 0, .d (.list n 1 g)] [(m, tapeB l a)] (.d (.int .i64 x.1)) [(m, tapeB l x.2)] := by
  rintro ⟨rfl, h, hn⟩
  obtain ⟨x, hx, hs⟩ := pick0 (xs := xs) ⟨h, hn⟩
  exact ⟨x, hx, (hs.at m).arg (LeL.cons (LeS.refl _) (LeL.cons (LeS.d (DLe.rows rfl hg)) LeL.nil))⟩

/-- a choice among numbers that are written out: what is true of all of them -/
theorem pickQ_ex (m : Nat) {l : List Int} {a : Nat} (Q : Int → Prop) {n : Nat} {g : Nat → Nat → D} : (TapeOk l a ∧ (0 < n ∧ n ≤ 1000) ∧ AllLt (fun i => ∃ v, g i 0 = .int .i64 v ∧ Q v) n) → ∃ x : Int × Nat, (Q x.1 ∧ TapeOk l x.2) ∧
    Sx.Spec Tryz.prog GG 18 [.ptr m 0, .d (.list n 1 g)] [(m, tapeB l a)] (.d (.int .i64 x.1)) [(m, tapeB l x.2)] := by
  rintro ⟨h, hn, hq⟩
  obtain ⟨xs, h1, h2, h3⟩ := list_of (α := Int) (enc := encI) (Q := Q) (k := 1) (fun _ => rfl) (len := n) (get := g) (fun i hi => by
    obtain ⟨v, e, hv⟩ := hq.out i hi
    exact ⟨v, hv, by simp [List.range_succ, encI, e]⟩)
  obtain ⟨x, ⟨hx1, hx2⟩, hs⟩ := pick0 (xs := xs) ⟨h, by omega, by omega⟩
  exact ⟨x, ⟨h2 _ hx1, hx2⟩, (hs.at m).arg (LeL.cons (LeS.refl _) (LeL.cons (LeS.d h3) LeL.nil))⟩
theorem stamp_i64 {e v : Int} (h : stampOk e v = true) : I64 e ∧ I64 v := by
  have := stamp_of.1 h
  unfold I64
  omega
theorem stamp0 {l : List Int} {a : Nat} : TapeOk l a → ∃ x : Int × Int × Nat, ((stampOk x.1 x.2.1 = true ∧ I64 x.1 ∧ I64 x.2.1) ∧ TapeOk l x.2.2) ∧ Sx.Spec Tryz.prog GG 45 [.ptr 1000 0] [(1000, tapeB l a)] (.agg [.d (.int .i64 x.1), .d (.int .i64 x.2.1)]) [(1000, tapeB l x.2.2)] := by
  intro h
  refine spec_some (E := EE) (fn := Tryz.f45) _ _ _ false eok (by kernel_rfl) (by kernel_rfl) Tryz.call45 (by kernel_rfl) (fun _ => by kernel_rfl) (fun _ => by kernel_rfl) ?_
  conv => whnf
  repeat' first
    | (refine call_some_if (pickQ_ex _ (fun v => 0 ≤ v ∧ v ≤ 1099511627776)) (fun _ => by first | exact .inl rfl | exact .inr ⟨rfl, rfl⟩) (need_intro ?_ ?_); rintro ⟨v, b⟩ ⟨h1, h2⟩; (conv => whnf))
    | (refine bc_true (by assumption) ?_; (conv => whnf))
    | (refine bc_false (by assumption) ?_; (conv => whnf))
    | (refine bc_intro (fun _ => ?_) (fun _ => ?_) <;> (conv => whnf))
    | (refine need_intro ?_ ?_; (conv => whnf))
    | (refine wk_refl ?_; (conv => whnf))
    | (refine draw_intro (by kernel_rfl) ?_; (conv => whnf))
    | (refine ord_intro (by kernel_rfl) ?_; (conv => whnf))
  all_goals try first
    | (refine ⟨by assumption, ⟨by omega, by omega⟩, ?_⟩
       repeat' first
         | exact trivial
         | (refine ⟨_, rfl, ?_⟩
            first
              | assumption
              | (unfold I64; omega)
              | omega
              | (refine ⟨?_, ?_⟩ <;> omega))
         | apply And.intro
       done)
  all_goals first
    | (rename_i v1 b1 g1 g2
       have hs := stamp_of.2 ⟨g1, h1⟩
       exact ⟨(_, _, _), ⟨⟨hs, stamp_i64 hs⟩, by assumption⟩, LeS.refl _, LeL.refl _, trivial⟩)
    | trace_state
theorem stamp_ex (m : Nat) {l : List Int} {a : Nat} : TapeOk l a → ∃ x : Int × Int × Nat, ((stampOk x.1 x.2.1 = true ∧ I64 x.1 ∧ I64 x.2.1) ∧ TapeOk l x.2.2) ∧ Sx.Spec Tryz.prog GG 45 [.ptr m 0] [(m, tapeB l a)] (.agg [.d (.int .i64 x.1), .d (.int .i64 x.2.1)]) [(m, tapeB l x.2.2)] := fun h => by
  obtain ⟨x, hx, hs⟩ := stamp0 h
  exact ⟨x, hx, hs.at m⟩
theorem oddStamp0 {l : List Int} {a : Nat} : TapeOk l a → ∃ x : Int × Int × Nat, ((I64 x.1 ∧ I64 x.2.1) ∧ TapeOk l x.2.2) ∧ Sx.Spec Tryz.prog GG 48 [.ptr 1000 0] [(1000, tapeB l a)] (.agg [.d (.int .i64 x.1), .d (.int .i64 x.2.1)]) [(1000, tapeB l x.2.2)] := by
  intro h
  refine spec_some (E := EE) (fn := Tryz.f48) _ _ _ false eok (by kernel_rfl) (by kernel_rfl) Tryz.call48 (by kernel_rfl) (fun _ => by kernel_rfl) (fun _ => by kernel_rfl) ?_
  conv => whnf
  repeat' first
    | (refine call_some_if (stamp_ex _) (fun _ => by first | exact .inl rfl | exact .inr ⟨rfl, rfl⟩) (need_intro ?_ ?_); rintro ⟨e, v, b⟩ ⟨⟨h1, h5, h6⟩, h2⟩; (conv => whnf))
    | (refine call_some_if (next_ex _) (fun _ => by first | exact .inl rfl | exact .inr ⟨rfl, rfl⟩) (need_intro ?_ ?_); rintro ⟨v, b⟩ ⟨⟨h1, h2⟩, h3⟩; (conv => whnf))
    | (refine call_some_if (pickQ_ex _ I64) (fun _ => by first | exact .inl rfl | exact .inr ⟨rfl, rfl⟩) (need_intro ?_ ?_); rintro ⟨v, b⟩ ⟨h1, h2⟩; (conv => whnf))
    | (refine bc_true (by assumption) ?_; (conv => whnf))
    | (refine bc_false (by assumption) ?_; (conv => whnf))
    | (refine bc_intro (fun _ => ?_) (fun _ => ?_) <;> (conv => whnf))
    | (refine need_intro ?_ ?_; (conv => whnf))
    | (refine wk_refl ?_; (conv => whnf))
    | (refine draw_intro (by kernel_rfl) ?_; (conv => whnf))
    | (refine ord_intro (by kernel_rfl) ?_; (conv => whnf))
  all_goals try first
    | (refine ⟨by assumption, ⟨by omega, by omega⟩, ?_⟩
       repeat' first
         | exact trivial
         | (refine ⟨_, rfl, ?_⟩
            first
              | assumption
              | (unfold I64; omega)
              | omega
              | (refine ⟨?_, ?_⟩ <;> omega))
         | apply And.intro
       done)
  all_goals try simp only [decide_eq_true_eq, decide_eq_false_iff_not, beq_iff_eq, beq_eq_false_iff_ne, letterS_len] at *
  all_goals try first
    | assumption
    | exact ⟨by assumption, by omega, by omega⟩
    | exact ⟨by omega, by omega, by omega⟩
    | exact ⟨by omega, by omega⟩
  all_goals first
    | exact ⟨by assumption, by omega, by omega⟩
    | exact ⟨(_, _, _), ⟨⟨by assumption, by assumption⟩, by assumption⟩, LeS.refl _, LeL.refl _, trivial⟩
    | trace_state

theorem oddStamp_ex (m : Nat) {l : List Int} {a : Nat} : TapeOk l a → ∃ x : Int × Int × Nat, ((I64 x.1 ∧ I64 x.2.1) ∧ TapeOk l x.2.2) ∧ Sx.Spec Tryz.prog GG 48 [.ptr m 0] [(m, tapeB l a)] (.agg [.d (.int .i64 x.1), .d (.int .i64 x.2.1)]) [(m, tapeB l x.2.2)] := fun h => by
  obtain ⟨x, hx, hs⟩ := oddStamp0 h
  exact ⟨x, hx, hs.at m⟩
/-! writes, parts -/
theorem write0 {l : List Int} {a : Nat} : TapeOk l a → ∃ x : Wr × Nat, (((x.1.1.length : Int) ≤ 65 ∧ (x.1.2.1.length : Int) ≤ 65) ∧ TapeOk l x.2) ∧ Sx.Spec Tryz.prog GG 67 [.ptr 1000 0] [(1000, tapeB l a)] (.agg [.d (.str x.1.1), .d (.str x.1.2.1), .d (.bool x.1.2.2)]) [(1000, tapeB l x.2)] := by
  intro h
  refine spec_some (E := EE) (fn := Tryz.f67) _ _ _ false eok (by kernel_rfl) (by kernel_rfl) Tryz.call67 (by kernel_rfl) (fun _ => by kernel_rfl) (fun _ => by kernel_rfl) ?_
  conv => whnf
  repeat' first
    | (refine call_some_if (oddKey_ex _) (fun _ => by first | exact .inl rfl | exact .inr ⟨rfl, rfl⟩) (need_intro ?_ ?_); rintro ⟨k, b⟩ ⟨h1, h2⟩; (conv => whnf))
    | (refine call_some_if (oddValue_ex _) (fun _ => by first | exact .inl rfl | exact .inr ⟨rfl, rfl⟩) (need_intro ?_ ?_); rintro ⟨v, b⟩ ⟨h1, h2⟩; (conv => whnf))
    | (refine call_some_if (bool_ex _) (fun _ => by first | exact .inl rfl | exact .inr ⟨rfl, rfl⟩) (need_intro ?_ ?_); rintro ⟨v, b⟩ h1; (conv => whnf))
    | (refine bc_true (by assumption) ?_; (conv => whnf))
    | (refine bc_false (by assumption) ?_; (conv => whnf))
    | (refine bc_intro (fun _ => ?_) (fun _ => ?_) <;> (conv => whnf))
    | (refine need_intro ?_ ?_; (conv => whnf))
    | (refine wk_refl ?_; (conv => whnf))
    | (refine draw_intro (by kernel_rfl) ?_; (conv => whnf))
    | (refine ord_intro (by kernel_rfl) ?_; (conv => whnf))
  all_goals try simp only [decide_eq_true_eq, decide_eq_false_iff_not, beq_iff_eq, beq_eq_false_iff_ne, letterS_len] at *
  all_goals try first
    | assumption
    | exact ⟨by assumption, by omega, by omega⟩
    | exact ⟨by omega, by omega, by omega⟩
    | exact ⟨by omega, by omega⟩
  all_goals (refine ⟨((_, _, _), _), ⟨⟨?_, ?_⟩, by assumption⟩, LeS.refl _, LeL.refl _, trivial⟩ <;> (simp only; omega))
theorem write_ex (m : Nat) {l : List Int} {a : Nat} : TapeOk l a → ∃ x : Wr × Nat, (((x.1.1.length : Int) ≤ 65 ∧ (x.1.2.1.length : Int) ≤ 65) ∧ TapeOk l x.2) ∧ Sx.Spec Tryz.prog GG 67 [.ptr m 0] [(m, tapeB l a)] (.agg [.d (.str x.1.1), .d (.str x.1.2.1), .d (.bool x.1.2.2)]) [(m, tapeB l x.2)] := fun h => by
  obtain ⟨x, hx, hs⟩ := write0 h
  exact ⟨x, hx, hs.at m⟩
theorem writeIn0 {l : List Int} {a : Nat} {lk : List UInt8} {lt : Bool} {hk : List UInt8} {ht : Bool} : (TapeOk l a ∧ emptyR lk lt hk ht = false) → ∃ x : Wr × Nat, ((validW x.1.1 x.1.2.1 x.1.2.2 = true ∧ hasR (lk, lt, hk, ht) x.1.1 = true) ∧ TapeOk l x.2) ∧
    Sx.Spec Tryz.prog GG 25 [.ptr 1000 0, .agg [.d (.str lk), .d (.bool lt), .d (.str hk), .d (.bool ht)]] [(1000, tapeB l a)] (.agg [.d (.str x.1.1), .d (.str x.1.2.1), .d (.bool x.1.2.2)]) [(1000, tapeB l x.2)] := by
  rintro ⟨h, he⟩
  refine spec_some (E := EE) (fn := Tryz.f25) _ _ _ false eok (by kernel_rfl) (by kernel_rfl) Tryz.call25 (by kernel_rfl) (fun _ => by kernel_rfl) (fun _ => by kernel_rfl) ?_
  conv => whnf
  repeat' first
    | (refine call_some_if (keyIn_ex _) (fun _ => by first | exact .inl rfl | exact .inr ⟨rfl, rfl⟩) (need_intro ?_ ?_); rintro ⟨k, b⟩ ⟨h1, h2, h3⟩; (conv => whnf))
    | (refine call_some_if (bool_ex _) (fun _ => by first | exact .inl rfl | exact .inr ⟨rfl, rfl⟩) (need_intro ?_ ?_); rintro ⟨d, b⟩ h4; (conv => whnf))
    | (refine call_some_if (value_ex _) (fun _ => by first | exact .inl rfl | exact .inr ⟨rfl, rfl⟩) (need_intro ?_ ?_); rintro ⟨v, b⟩ ⟨h5, h6⟩; (conv => whnf))
    | (refine bc_true (by assumption) ?_; (conv => whnf))
    | (refine bc_false (by assumption) ?_; (conv => whnf))
    | (refine bc_intro (fun _ => ?_) (fun _ => ?_) <;> (conv => whnf))
    | (refine need_intro ?_ ?_; (conv => whnf))
    | (refine wk_refl ?_; (conv => whnf))
    | (refine draw_intro (by kernel_rfl) ?_; (conv => whnf))
    | (refine ord_intro (by kernel_rfl) ?_; (conv => whnf))
  all_goals try simp only [Bool.not_eq_true', Bool.not_eq_false', decide_eq_true_eq, decide_eq_false_iff_not] at *
  all_goals try first
    | assumption
    | exact ⟨by assumption, by assumption⟩
    | exact ⟨by assumption, by omega, by omega⟩
  all_goals first
    | (refine ⟨((_, _, _), _), ⟨⟨?_, by assumption⟩, by assumption⟩, LeS.refl _, LeL.refl _, trivial⟩
       simp only [validW, Bool.and_eq_true, decide_eq_true_eq]
       refine ⟨⟨by assumption, by first | assumption | simp⟩, ?_⟩
       simp [*]
       done)
    | trace_state
theorem writeIn_ex (m : Nat) {l : List Int} {a : Nat} {lk : List UInt8} {lt : Bool} {hk : List UInt8} {ht : Bool} : (TapeOk l a ∧ emptyR lk lt hk ht = false) → ∃ x : Wr × Nat, ((validW x.1.1 x.1.2.1 x.1.2.2 = true ∧ hasR (lk, lt, hk, ht) x.1.1 = true) ∧ TapeOk l x.2) ∧
    Sx.Spec Tryz.prog GG 25 [.ptr m 0, .agg [.d (.str lk), .d (.bool lt), .d (.str hk), .d (.bool ht)]] [(m, tapeB l a)] (.agg [.d (.str x.1.1), .d (.str x.1.2.1), .d (.bool x.1.2.2)]) [(m, tapeB l x.2)] := fun h => by
  obtain ⟨x, hx, hs⟩ := writeIn0 h
  exact ⟨x, hx, hs.at m⟩
theorem part0 {l : List Int} {a : Nat} {lk : List UInt8} {lt : Bool} {hk : List UInt8} {ht : Bool} : TapeOk l a → ∃ x : PartT × Nat, (PartB 3 x.1 ∧ TapeOk l x.2) ∧
    Sx.Spec Tryz.prog GG 64 [.ptr 1000 0, .agg [.d (.str lk), .d (.bool lt), .d (.str hk), .d (.bool ht)]] [(1000, tapeB l a)] (.agg (partL x.1)) [(1000, tapeB l x.2)] := by
  intro h
  refine spec_some (E := EE) (fn := Tryz.f64) _ _ _ false eok (by kernel_rfl) (by kernel_rfl) Tryz.call64 (by kernel_rfl) (fun _ => by kernel_rfl) (fun _ => by kernel_rfl) ?_
  conv => whnf
  repeat' first
    | (refine call_some_if (next_ex _) (fun _ => by first | exact .inl rfl | exact .inr ⟨rfl, rfl⟩) (need_intro ?_ ?_); rintro ⟨v, b⟩ ⟨⟨h1, h2⟩, h3⟩; (conv => whnf))
    | (refine call_some_if (rowsIn_ex _) (fun _ => by first | exact .inl rfl | exact .inr ⟨rfl, rfl⟩) (need_intro ?_ ?_); rintro ⟨rows, b⟩ ⟨hr, h3⟩; (conv => whnf))
    | (refine bc_true (by assumption) ?_; (conv => whnf))
    | (refine bc_false (by assumption) ?_; (conv => whnf))
    | (refine bc_intro (fun _ => ?_) (fun _ => ?_) <;> (conv => whnf))
    | (refine need_intro ?_ ?_; (conv => whnf))
    | (refine wk_refl ?_; (conv => whnf))
    | (refine draw_intro (by kernel_rfl) ?_; (conv => whnf))
    | (refine ord_intro (by kernel_rfl) ?_; (conv => whnf))
  all_goals try simp only at *
  all_goals try first
    | assumption
    | exact ⟨by assumption, by omega, by omega⟩
  all_goals try first
    | decide
    | (have hl := hr.len
       exact ⟨(⟨_, _, _, _, _, _, _, _, _, rows⟩, _), ⟨⟨by simp only; omega, i64_wrap _, i64_wrap _, i64_wrap _, by unfold I64; simp only; omega, by unfold I64; simp only; omega⟩, by assumption⟩, LeS.refl _, LeL.refl _, trivial⟩)
    | trace_state
theorem part_ex (m : Nat) {l : List Int} {a : Nat} {lk : List UInt8} {lt : Bool} {hk : List UInt8} {ht : Bool} : TapeOk l a → ∃ x : PartT × Nat, (PartB 3 x.1 ∧ TapeOk l x.2) ∧
    Sx.Spec Tryz.prog GG 64 [.ptr m 0, .agg [.d (.str lk), .d (.bool lt), .d (.str hk), .d (.bool ht)]] [(m, tapeB l a)] (.agg (partL x.1)) [(m, tapeB l x.2)] := fun h => by
  obtain ⟨x, hx, hs⟩ := part0 h
  exact ⟨x, hx, hs.at m⟩
/-! Subtract -/
theorem cellsRng : Tryz.prog.cellsOf 26 = 4 := by kernel_rfl
theorem bytesRng : Tryz.prog.bytesOf 26 = 48 := by kernel_rfl
theorem subtract_spec (lk : List UInt8) (lt : Bool) (hk : List UInt8) (ht : Bool) (lk2 : List UInt8) (lt2 : Bool) (hk2 : List UInt8) (ht2 : Bool) :
    Sx.Spec Tryz.prog GG 62 [.agg [.d (.str lk), .d (.bool lt), .d (.str hk), .d (.bool ht)], .agg [.d (.str lk2), .d (.bool lt2), .d (.str hk2), .d (.bool ht2)]] [] (.d (encL encRng 4 (subR (lk, lt, hk, ht) (lk2, lt2, hk2, ht2)))) [] := by
  refine spec_intro (E := EE) (fn := Tryz.f62) eok (by kernel_rfl) (by kernel_rfl) Tryz.call62 (by kernel_rfl) (by kernel_rfl) ?_
  conv => whnf
  repeat' first
    | (refine call_intro (emptyRr_spec _ _ _ _) ?_ (by first | exact .inl rfl | exact .inr ⟨rfl, rfl⟩); (conv => whnf))
    | (refine call_intro (interr_spec _ _ _ _ _ _ _ _) ?_ (by first | exact .inl rfl | exact .inr ⟨rfl, rfl⟩); (conv => whnf))
    | (refine bc_true (by assumption) ?_; (conv => whnf))
    | (refine bc_false (by assumption) ?_; (conv => whnf))
    | (refine bc_intro (fun _ => ?_) (fun _ => ?_) <;> (conv => whnf))
    | (refine need_intro ?_ ?_; (conv => whnf))
    | (refine wk_refl ?_; (conv => whnf))
    | (refine draw_intro (by kernel_rfl) ?_; (conv => whnf))
    | (refine ord_intro (by kernel_rfl) ?_; (conv => whnf))
  all_goals try simp only [cellsRng, bytesRng, true_and, and_true] at *
  all_goals try first
    | omega
    | exact ⟨by omega, by omega⟩
    | decide
  all_goals generalize hm : interR (lk, lt, hk, ht) (lk2, lt2, hk2, ht2) = m at *
  all_goals try simp only [Bool.not_eq_true', Bool.not_eq_false'] at *
  all_goals
    simp only [subR, emptyR', lowR, highR, hm, *, if_true, if_false, Bool.false_eq_true, List.nil_append, List.append_nil, List.cons_append]
    first
      | exact ⟨les_nil rfl, trivial⟩
      | exact ⟨LeS.d (dle_lit rfl rfl (.allD (by repeat' first | exact trivial | exact DLe.refl _ | exact DLe.of_eq rfl | apply And.intro))), trivial⟩
      | trace_state
end Go.Proofs.YtegbenagmciegaaGreatDoor
