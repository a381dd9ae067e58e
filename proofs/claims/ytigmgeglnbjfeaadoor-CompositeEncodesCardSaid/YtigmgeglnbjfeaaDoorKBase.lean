/- Contracts of functions that the law reaches: YtigmgeglnbjfeaaDoorKBase. Written for this claim. -/
import Derived.Test.YtigmgeglnbjfeaaDoorSxCmp
import Derived.Test.YtigmgeglnbjfeaaDoorRows
import Derived.Test.YtigmgeglnbjfeaaDoorProg
import Derived.Lib.Strings
import Derived.Lib.Slices
import Derived.Lib.Walk
import Derived.Lib.Bytealg
namespace Go.Proofs.YtigmgeglnbjfeaaDoor
open Go Go.Sx Go.ChangeShapes Go.WideShapes Go.ChangeAt Go.RowKit
set_option linter.unusedVariables false
set_option linter.unusedSimpArgs false
set_option maxRecDepth 100000
abbrev EE : List Nat := [40, 48, 50, 2000000 + 6]
theorem eok : EOk Tryd.prog EE := by
  refine ⟨by kernel_rfl, ?_⟩
  intro T hT
  simp only [memN_iff] at hT
  simp only [List.mem_cons, List.not_mem_nil, or_false] at hT
  rcases hT with rfl | rfl | rfl | rfl <;> exact ⟨by kernel_rfl, by kernel_rfl⟩
abbrev EL : List Nat := [40, 48, 50, 1000000 + 24, 1000000 + 23, 1000000 + 60, 2000000 + 6]
theorem eokL : EOk Tryd.prog EL := by
  refine ⟨by kernel_rfl, ?_⟩
  intro T hT
  simp only [memN_iff] at hT
  simp only [List.mem_cons, List.not_mem_nil, or_false] at hT
  rcases hT with rfl | rfl | rfl | rfl | rfl | rfl | rfl <;> exact ⟨by kernel_rfl, by kernel_rfl⟩
theorem letterS_len : ∀ n : Nat, n = n := fun _ => rfl
def textS : Nat → List UInt8
  | 0 => []
  | 1 => [97]
  | 2 => [97, 98]
  | 3 => [0]
  | 4 => [0, 255]
  | 5 => [255]
  | 6 => [97, 0]
  | _ => [98]
theorem textS_len : ∀ n, (textS n).length ≤ 2
  | 0 => by decide
  | 1 => by decide
  | 2 => by decide
  | 3 => by decide
  | 4 => by decide
  | 5 => by decide
  | 6 => by decide
  | _ + 7 => show [(98 : UInt8)].length ≤ 2 by decide
def GG : Nat → Option (Nat × (Nat → D))
  | 0 => some (8, fun j => .str (textS j))
  | _ => none
/-! keys, bounds, ranges -/
theorem validKeyp_spec (k : List UInt8) : Sx.Spec Tryd.prog GG 37 [.d (.str k)] [] (.d (.bool (decide ((k.length : Int) ≤ 64)))) [] := by
  refine spec_intro (E := EE) (fn := Tryd.f37) eok (by kernel_rfl) (by kernel_rfl) Tryd.call37 (by kernel_rfl) (by kernel_rfl) ?_
  conv => whnf
  repeat' first
    | (refine bc_true (by assumption) ?_; (conv => whnf))
    | (refine bc_false (by assumption) ?_; (conv => whnf))
    | (refine bc_intro (fun _ => ?_) (fun _ => ?_) <;> (conv => whnf))
    | (refine need_intro ?_ ?_; (conv => whnf))
    | (refine wk_refl ?_; (conv => whnf))
    | (refine draw_intro (by kernel_rfl) ?_; (conv => whnf))
    | (refine ord_intro (by kernel_rfl) ?_; (conv => whnf))
  exact ⟨LeS.refl _, trivial⟩
theorem validKeyr_spec (k : List UInt8) : Sx.Spec Tryd.prog GG 38 [.d (.str k)] [] (.d (.bool (decide ((k.length : Int) ≤ 64)))) [] := by
  refine spec_intro (E := EE) (fn := Tryd.f38) eok (by kernel_rfl) (by kernel_rfl) Tryd.call38 (by kernel_rfl) (by kernel_rfl) ?_
  conv => whnf
  repeat' first
    | (refine bc_true (by assumption) ?_; (conv => whnf))
    | (refine bc_false (by assumption) ?_; (conv => whnf))
    | (refine bc_intro (fun _ => ?_) (fun _ => ?_) <;> (conv => whnf))
    | (refine need_intro ?_ ?_; (conv => whnf))
    | (refine wk_refl ?_; (conv => whnf))
    | (refine draw_intro (by kernel_rfl) ?_; (conv => whnf))
    | (refine ord_intro (by kernel_rfl) ?_; (conv => whnf))
  exact ⟨LeS.refl _, trivial⟩
/-! the tape -/
def encI (n : Int) : List D := [.int .i64 n]
structure TapeOk (l : List Int) (a : Nat) : Prop where
  h1 : l.length ≤ 600
  h2 : a ≤ l.length
  h3 : ∀ x ∈ l, -9223372036854775808 ≤ x ∧ x < 9223372036854775808
abbrev tapeB (l : List Int) (a : Nat) : Blk := .box [.d (encL encI 1 l), .d (.int .i64 a)]
theorem TapeOk.get {l : List Int} {a i : Nat} (h : TapeOk l a) (hi : i < l.length) : -9223372036854775808 ≤ l.getD i default ∧ l.getD i default < 9223372036854775808 := by
  have : l.getD i default = l[i] := by simp [List.getD, hi]
  rw [this]
  exact h.h3 _ (List.getElem_mem hi)
theorem wrap_pred {n : Nat} (hn : n ≤ 9223372036854775806) : IntKind.i64.wrap (((n + 1 : Nat) : Int) - 1) = n := by
  rw [wrap_of (by omega) (by omega)]; omega
theorem mod_spec (v n : Int) : ((0 < n ∧ n < 9223372036854775808) ∧ -9223372036854775808 ≤ v ∧ v < 9223372036854775808) → Sx.Spec Tryd.prog GG 13 [.d (.int .i64 v), .d (.int .i64 n)] [] (.d (.int .i64 (v % n))) [] := by
  rintro ⟨hn, hv⟩
  have r1 := Int.tmod_lt_of_pos v hn.1
  have r2 := Int.lt_tmod_of_pos v hn.1
  have e0 : v % n = if v.tmod n < 0 then v.tmod n + n else v.tmod n := by
    have h1 := Int.tmod_add_mul_tdiv v n
    have h2 := Int.emod_add_mul_ediv v n
    have h3 := Int.emod_nonneg v (by omega : n ≠ 0)
    have h4 := Int.emod_lt_of_pos v hn.1
    rw [Int.tmod_eq_emod]
    split <;> split at * <;> omega
  refine spec_intro (E := EE) (fn := Tryd.f13) eok (by kernel_rfl) (by kernel_rfl) Tryd.call13 (by kernel_rfl) (by kernel_rfl) ?_
  conv => whnf
  repeat' first
    | (refine bc_true (by assumption) ?_; (conv => whnf))
    | (refine bc_false (by assumption) ?_; (conv => whnf))
    | (refine bc_intro (fun _ => ?_) (fun _ => ?_) <;> (conv => whnf))
    | (refine need_intro ?_ ?_; (conv => whnf))
    | (refine wk_refl ?_; (conv => whnf))
    | (refine draw_intro (by kernel_rfl) ?_; (conv => whnf))
    | (refine ord_intro (by kernel_rfl) ?_; (conv => whnf))
  all_goals try simp only [decide_eq_true_eq, decide_eq_false_iff_not] at *
  all_goals first
    | omega
    | (refine ⟨LeS.of_eq ?_, trivial⟩; rw [wrap_of (by omega) (by omega), e0, if_pos (by assumption)])
    | (refine ⟨LeS.of_eq ?_, trivial⟩; rw [e0, if_neg (by assumption)])
theorem next0 {l : List Int} {a : Nat} {n : Int} : (TapeOk l a ∧ -9223372036854775808 ≤ n ∧ n < 9223372036854775808) →
    ∃ x : Int × Nat, ((0 ≤ x.1 ∧ (x.1 < n ∨ x.1 = 0)) ∧ TapeOk l x.2) ∧ Sx.Spec Tryd.prog GG 7 [.ptr 1000 0, .d (.int .i64 n)] [(1000, tapeB l a)] (.d (.int .i64 x.1)) [(1000, tapeB l x.2)] := by
  rintro ⟨h, hn⟩
  have h1 := h.h1
  have h2 := h.h2
  have w1 : IntKind.i64.wrap ((a : Int) + 1) = ((a + 1 : Nat) : Int) := wrap_succ (n := 601) (by omega) (by omega)
  have w2 := wrap_pred (n := a) (by omega)
  refine spec_some (E := EE) (fn := Tryd.f7) _ _ _ false eok (by kernel_rfl) (by kernel_rfl) Tryd.call7 (by kernel_rfl) (fun _ => by kernel_rfl) (fun _ => by kernel_rfl) ?_
  conv => whnf
  repeat' first
    | (refine call_if (mod_spec _ _) (by first | exact .inl rfl | exact .inr ⟨rfl, rfl⟩) (need_intro ?_ ?_); (conv => whnf))
    | (refine bc_true (by assumption) ?_; (conv => whnf))
    | (refine bc_false (by assumption) ?_; (conv => whnf))
    | (refine bc_intro (fun _ => ?_) (fun _ => ?_) <;> (conv => whnf))
    | (refine need_intro ?_ ?_; (conv => whnf))
    | (refine wk_refl ?_; (conv => whnf))
    | (refine draw_intro (by kernel_rfl) ?_; (conv => whnf))
    | (refine ord_intro (by kernel_rfl) ?_; (conv => whnf))
  all_goals try simp only [w1, w2, decide_eq_true_eq, decide_eq_false_iff_not] at *
  · exact ⟨(0, a), ⟨⟨Int.le_refl 0, .inr rfl⟩, h⟩, LeS.refl _, LeL.refl _, trivial⟩
  · exact ⟨(0, a), ⟨⟨Int.le_refl 0, .inr rfl⟩, h⟩, LeS.refl _, LeL.refl _, trivial⟩
  · refine ⟨(_, _), ?_, LeS.refl _, LeL.refl _, trivial⟩
    exact ⟨⟨Int.emod_nonneg _ (by omega), .inl (Int.emod_lt_of_pos _ (by omega))⟩, ⟨h1, by simp only; omega, h.h3⟩⟩
  · exact ⟨⟨by omega, by omega⟩, h.get (by omega)⟩
  · exact ⟨by omega, by omega⟩
theorem next_ex (m : Nat) {l : List Int} {a : Nat} {n : Int} : (TapeOk l a ∧ -9223372036854775808 ≤ n ∧ n < 9223372036854775808) →
    ∃ x : Int × Nat, ((0 ≤ x.1 ∧ (x.1 < n ∨ x.1 = 0)) ∧ TapeOk l x.2) ∧ Sx.Spec Tryd.prog GG 7 [.ptr m 0, .d (.int .i64 n)] [(m, tapeB l a)] (.d (.int .i64 x.1)) [(m, tapeB l x.2)] := fun h => by
  obtain ⟨x, hx, hs⟩ := next0 (n := n) h
  exact ⟨x, hx, hs.at m⟩
theorem bool0 {l : List Int} {a : Nat} {n : Int} : (TapeOk l a ∧ 0 ≤ n ∧ n < 9223372036854775808) →
    ∃ x : Bool × Nat, TapeOk l x.2 ∧ Sx.Spec Tryd.prog GG 9 [.ptr 1000 0, .d (.int .i64 n)] [(1000, tapeB l a)] (.d (.bool x.1)) [(1000, tapeB l x.2)] := by
  rintro ⟨h, hn⟩
  refine spec_some (E := EE) (fn := Tryd.f9) _ _ _ false eok (by kernel_rfl) (by kernel_rfl) Tryd.call9 (by kernel_rfl) (fun _ => by kernel_rfl) (fun _ => by kernel_rfl) ?_
  conv => whnf
  repeat' first
    | (refine call_some_if (next_ex _) (fun _ => by first | exact .inl rfl | exact .inr ⟨rfl, rfl⟩) (need_intro ?_ ?_); rintro ⟨v, b⟩ ⟨⟨h1, h2⟩, h3⟩; (conv => whnf))
    | (refine bc_true (by assumption) ?_; (conv => whnf))
    | (refine bc_false (by assumption) ?_; (conv => whnf))
    | (refine bc_intro (fun _ => ?_) (fun _ => ?_) <;> (conv => whnf))
    | (refine need_intro ?_ ?_; (conv => whnf))
    | (refine wk_refl ?_; (conv => whnf))
    | (refine draw_intro (by kernel_rfl) ?_; (conv => whnf))
    | (refine ord_intro (by kernel_rfl) ?_; (conv => whnf))
  · exact ⟨(_, _), h3, LeS.refl _, LeL.refl _, trivial⟩
  · exact ⟨h, by omega, hn.2⟩
theorem bool_ex (m : Nat) {l : List Int} {a : Nat} {n : Int} : (TapeOk l a ∧ 0 ≤ n ∧ n < 9223372036854775808) →
    ∃ x : Bool × Nat, TapeOk l x.2 ∧ Sx.Spec Tryd.prog GG 9 [.ptr m 0, .d (.int .i64 n)] [(m, tapeB l a)] (.d (.bool x.1)) [(m, tapeB l x.2)] := fun h => by
  obtain ⟨x, hx, hs⟩ := bool0 (n := n) h
  exact ⟨x, hx, hs.at m⟩
theorem pick0 {l : List Int} {a : Nat} {xs : List Int} : (TapeOk l a ∧ 0 < xs.length ∧ xs.length ≤ 1000) → ∃ x : Int × Nat, (x.1 ∈ xs ∧ TapeOk l x.2) ∧
    Sx.Spec Tryd.prog GG 25 [.ptr 1000 0, .d (encL encI 1 xs)] [(1000, tapeB l a)] (.d (.int .i64 x.1)) [(1000, tapeB l x.2)] := by
  rintro ⟨h, hn⟩
  refine spec_some (E := EE) (fn := Tryd.f25) _ _ _ false eok (by kernel_rfl) (by kernel_rfl) Tryd.call25 (by kernel_rfl) (fun _ => by kernel_rfl) (fun _ => by kernel_rfl) ?_
  conv => whnf
  repeat' first
    | (refine call_some_if (next_ex _) (fun _ => by first | exact .inl rfl | exact .inr ⟨rfl, rfl⟩) (need_intro ?_ ?_); rintro ⟨v, b⟩ ⟨⟨h1, h2⟩, h3⟩; (conv => whnf))
    | (refine bc_true (by assumption) ?_; (conv => whnf))
    | (refine bc_false (by assumption) ?_; (conv => whnf))
    | (refine bc_intro (fun _ => ?_) (fun _ => ?_) <;> (conv => whnf))
    | (refine need_intro ?_ ?_; (conv => whnf))
    | (refine wk_refl ?_; (conv => whnf))
    | (refine draw_intro (by kernel_rfl) ?_; (conv => whnf))
    | (refine ord_intro (by kernel_rfl) ?_; (conv => whnf))
  · refine ⟨(_, _), ⟨?_, by assumption⟩, LeS.refl _, LeL.refl _, trivial⟩
    have hv : v.toNat < xs.length := by omega
    show xs.getD v.toNat default ∈ xs
    have e : xs.getD v.toNat default = xs[v.toNat] := by simp only [List.getD, List.getElem?_eq_getElem hv, Option.getD_some]
    rw [e]
    exact List.getElem_mem hv
  · exact ⟨by omega, by omega⟩
  · exact ⟨h, by omega, by omega⟩
/-- a choice among numbers that are written out -/
theorem pick_ex (m : Nat) {l : List Int} {a : Nat} (xs : List Int) {n : Nat} {g : Nat → Nat → D} (hg : RowLe n 1 g (cellOf encI xs)) : (n = xs.length ∧ TapeOk l a ∧ 0 < xs.length ∧ xs.length ≤ 1000) → ∃ x : Int × Nat, (x.1 ∈ xs ∧ TapeOk l x.2) ∧
    Sx.Spec Tryd.prog GG 25 [.ptr m 0, .d (.list n 1 g)] [(m, tapeB l a)] (.d (.int .i64 x.1)) [(m, tapeB l x.2)] := by
  rintro ⟨rfl, h, hn⟩
  obtain ⟨x, hx, hs⟩ := pick0 (xs := xs) ⟨h, hn⟩
  exact ⟨x, hx, (hs.at m).arg (LeL.cons (LeS.refl _) (LeL.cons (LeS.d (DLe.rows rfl hg)) LeL.nil))⟩
/-- a new tape -/
theorem new_ex (m : Nat) {l : List Int} (hl : ∀ x ∈ l, -9223372036854775808 ≤ x ∧ x < 9223372036854775808) : ∃ x : List Int × Nat, TapeOk x.1 x.2 ∧
    Sx.Spec Tryd.prog GG 4 [.d (encL encI 1 l)] [] (.ptr m 0) [(m, tapeB x.1 x.2)] := by
  have key : ∃ x : List Int × Nat, TapeOk x.1 x.2 ∧ Sx.Spec Tryd.prog GG 4 [.d (encL encI 1 l)] [] (.ptr 1000 0) [(1000, tapeB x.1 x.2)] := by
    refine spec_some (E := EE) (fn := Tryd.f4) _ _ _ true eok (by kernel_rfl) (by kernel_rfl) Tryd.call4 (by kernel_rfl) (fun _ => by kernel_rfl) (fun _ => by kernel_rfl) ?_
    conv => whnf
    repeat' first
      | (refine bc_true (by assumption) ?_; (conv => whnf))
      | (refine bc_false (by assumption) ?_; (conv => whnf))
      | (refine bc_intro (fun _ => ?_) (fun _ => ?_) <;> (conv => whnf))
      | (refine need_intro ?_ ?_; (conv => whnf))
      | (refine wk_refl ?_; (conv => whnf))
      | (refine draw_intro (by kernel_rfl) ?_; (conv => whnf))
      | (refine ord_intro (by kernel_rfl) ?_; (conv => whnf))
    all_goals simp only [decide_eq_true_eq, decide_eq_false_iff_not] at *
    · refine ⟨(l.take 600, 0), ⟨by simp; omega, by simp, fun x hx => hl x (List.mem_of_mem_take hx)⟩, ?_⟩
      conv => whnf
      repeat' first
        | (refine bc_true (by assumption) ?_; (conv => whnf))
        | (refine bc_false (by assumption) ?_; (conv => whnf))
        | (refine bc_intro (fun _ => ?_) (fun _ => ?_) <;> (conv => whnf))
        | (refine need_intro ?_ ?_; (conv => whnf))
        | (refine wk_refl ?_; (conv => whnf))
        | (refine draw_intro (by kernel_rfl) ?_; (conv => whnf))
        | (refine ord_intro (by kernel_rfl) ?_; (conv => whnf))
      all_goals first
        | exact trivial
        | exact DLe.refl _
        | (refine DLe.rows (by simp; omega) (.of_eq fun i j hi hj => ?_)
           have hi : i < 600 := by simp at hi; omega
           simp [cellOf, List.getD, List.getElem?_take, hi])
    · simp
      omega
    · refine ⟨(l, 0), ⟨by simp only; omega, by simp, hl⟩, ?_⟩
      conv => whnf
      repeat' first
        | (refine bc_true (by assumption) ?_; (conv => whnf))
        | (refine bc_false (by assumption) ?_; (conv => whnf))
        | (refine bc_intro (fun _ => ?_) (fun _ => ?_) <;> (conv => whnf))
        | (refine need_intro ?_ ?_; (conv => whnf))
        | (refine wk_refl ?_; (conv => whnf))
        | (refine draw_intro (by kernel_rfl) ?_; (conv => whnf))
        | (refine ord_intro (by kernel_rfl) ?_; (conv => whnf))
      all_goals first
        | exact trivial
        | exact DLe.refl _
  obtain ⟨x, hx, hs⟩ := key
  exact ⟨x, hx, hs.new1 m⟩
def I64 (n : Int) : Prop := -9223372036854775808 ≤ n ∧ n < 9223372036854775808
/-- a choice among numbers that are written out: what is true of all of them -/
theorem pickQ_ex (m : Nat) {l : List Int} {a : Nat} (Q : Int → Prop) {n : Nat} {g : Nat → Nat → D} : (TapeOk l a ∧ (0 < n ∧ n ≤ 1000) ∧ AllLt (fun i => ∃ v, g i 0 = .int .i64 v ∧ Q v) n) → ∃ x : Int × Nat, (Q x.1 ∧ TapeOk l x.2) ∧
    Sx.Spec Tryd.prog GG 25 [.ptr m 0, .d (.list n 1 g)] [(m, tapeB l a)] (.d (.int .i64 x.1)) [(m, tapeB l x.2)] := by
  rintro ⟨h, hn, hq⟩
  obtain ⟨xs, h1, h2, h3⟩ := list_of (α := Int) (enc := encI) (Q := Q) (k := 1) (fun _ => rfl) (len := n) (get := g) (fun i hi => by
    obtain ⟨v, e, hv⟩ := hq.out i hi
    exact ⟨v, hv, by simp [List.range_succ, encI, e]⟩)
  obtain ⟨x, ⟨hx1, hx2⟩, hs⟩ := pick0 (xs := xs) ⟨h, by omega, by omega⟩
  exact ⟨x, ⟨h2 _ hx1, hx2⟩, (hs.at m).arg (LeL.cons (LeS.refl _) (LeL.cons (LeS.d h3) LeL.nil))⟩
/-! numbers and strings compared -/
theorem isNaN3_spec (n : Int) : Sx.Spec Tryd.prog GG 42 [.d (.int .i64 n)] [] (.d (.bool false)) [] := by
  refine spec_intro (E := EE) (fn := Tryd.f42) eok (by kernel_rfl) (by kernel_rfl) Tryd.call42 (by kernel_rfl) (by kernel_rfl) ?_
  conv => whnf
  repeat' first
    | (refine bc_true (by assumption) ?_; (conv => whnf))
    | (refine bc_false (by assumption) ?_; (conv => whnf))
    | (refine bc_intro (fun _ => ?_) (fun _ => ?_) <;> (conv => whnf))
    | (refine need_intro ?_ ?_; (conv => whnf))
    | (refine wk_refl ?_; (conv => whnf))
    | (refine draw_intro (by kernel_rfl) ?_; (conv => whnf))
    | (refine ord_intro (by kernel_rfl) ?_; (conv => whnf))
  exact ⟨LeS.of_eq (by simp), trivial⟩
theorem cmpInt3_spec (a b : Int) : Sx.Spec Tryd.prog GG 33 [.d (.int .i64 a), .d (.int .i64 b)] [] (.d (.int .i64 (cmpI a b))) [] := by
  refine spec_intro (E := EE) (fn := Tryd.f33) eok (by kernel_rfl) (by kernel_rfl) Tryd.call33 (by kernel_rfl) (by kernel_rfl) ?_
  conv => whnf
  repeat' first
    | (refine call_intro (isNaN3_spec _) ?_ (by first | exact .inl rfl | exact .inr ⟨rfl, rfl⟩); (conv => whnf))
    | (refine bc_true (by assumption) ?_; (conv => whnf))
    | (refine bc_false (by assumption) ?_; (conv => whnf))
    | (refine bc_intro (fun _ => ?_) (fun _ => ?_) <;> (conv => whnf))
    | (refine need_intro ?_ ?_; (conv => whnf))
    | (refine wk_refl ?_; (conv => whnf))
    | (refine draw_intro (by kernel_rfl) ?_; (conv => whnf))
    | (refine ord_intro (by kernel_rfl) ?_; (conv => whnf))
  all_goals try (exfalso; simp at *; done)
  all_goals try simp only [decide_eq_true_eq, decide_eq_false_iff_not] at *
  all_goals exact ⟨LeS.of_eq (by simp [cmpI, *]), trivial⟩
theorem isNaN6_spec (n : Int) : Sx.Spec Tryd.prog GG 44 [.d (.int .i64 n)] [] (.d (.bool false)) [] := by
  refine spec_intro (E := EE) (fn := Tryd.f44) eok (by kernel_rfl) (by kernel_rfl) Tryd.call44 (by kernel_rfl) (by kernel_rfl) ?_
  conv => whnf
  repeat' first
    | (refine bc_true (by assumption) ?_; (conv => whnf))
    | (refine bc_false (by assumption) ?_; (conv => whnf))
    | (refine bc_intro (fun _ => ?_) (fun _ => ?_) <;> (conv => whnf))
    | (refine need_intro ?_ ?_; (conv => whnf))
    | (refine wk_refl ?_; (conv => whnf))
    | (refine draw_intro (by kernel_rfl) ?_; (conv => whnf))
    | (refine ord_intro (by kernel_rfl) ?_; (conv => whnf))
  exact ⟨LeS.of_eq (by simp), trivial⟩
theorem cmpInt6_spec (a b : Int) : Sx.Spec Tryd.prog GG 40 [.d (.int .i64 a), .d (.int .i64 b)] [] (.d (.int .i64 (cmpI a b))) [] := by
  refine spec_intro (E := EE) (fn := Tryd.f40) eok (by kernel_rfl) (by kernel_rfl) Tryd.call40 (by kernel_rfl) (by kernel_rfl) ?_
  conv => whnf
  repeat' first
    | (refine call_intro (isNaN6_spec _) ?_ (by first | exact .inl rfl | exact .inr ⟨rfl, rfl⟩); (conv => whnf))
    | (refine bc_true (by assumption) ?_; (conv => whnf))
    | (refine bc_false (by assumption) ?_; (conv => whnf))
    | (refine bc_intro (fun _ => ?_) (fun _ => ?_) <;> (conv => whnf))
    | (refine need_intro ?_ ?_; (conv => whnf))
    | (refine wk_refl ?_; (conv => whnf))
    | (refine draw_intro (by kernel_rfl) ?_; (conv => whnf))
    | (refine ord_intro (by kernel_rfl) ?_; (conv => whnf))
  all_goals try (exfalso; simp at *; done)
  all_goals try simp only [decide_eq_true_eq, decide_eq_false_iff_not] at *
  all_goals exact ⟨LeS.of_eq (by simp [cmpI, *]), trivial⟩
theorem or_spec (a b : Int) {g : Nat → Nat → D} (h : RowLe 2 1 g (cellOf encI [a, b])) : Sx.Spec Tryd.prog GG 39 [.d (.list 2 1 g)] [] (.d (.int .i64 (if a ≠ 0 then a else b))) [] := by
  refine Spec.arg (args' := [.d (encL encI 1 [a, b])]) ?_ (LeL.cons (LeS.d (DLe.rows rfl h)) LeL.nil)
  refine spec_intro (E := EE) (fn := Tryd.f39) eok (by kernel_rfl) (by kernel_rfl) Tryd.call39 (by kernel_rfl) (by kernel_rfl) ?_
  conv => whnf
  repeat' first
    | (refine bc_true (by assumption) ?_; (conv => whnf))
    | (refine bc_false (by assumption) ?_; (conv => whnf))
    | (refine need_intro ?_ ?_; (conv => whnf))
    | (refine wk_refl ?_; (conv => whnf))
    | (refine draw_intro (by kernel_rfl) ?_; (conv => whnf))
    | (refine ord_intro (by kernel_rfl) ?_; (conv => whnf))
  refine loop_auto [2, 3, 6, 7] [] (fun i : Nat => [(8, .d (.int .i64 i))]) (fun i => []) (fun i => i ≤ 2 ∧ ∀ j, j < i → [a, b].getD j default = 0) (fun i => 2 - i) 0 ?_ (fun i hi => ?_) ⟨by omega, fun j hj => absurd hj (by omega)⟩
  · conv => whnf
    repeat' first
      | (refine bc_true (by assumption) ?_; (conv => whnf))
      | (refine bc_false (by assumption) ?_; (conv => whnf))
      | (refine bc_intro (fun _ => ?_) (fun _ => ?_) <;> (conv => whnf))
      | (refine need_intro ?_ ?_; (conv => whnf))
      | (refine wk_refl ?_; (conv => whnf))
      | (refine draw_intro (by kernel_rfl) ?_; (conv => whnf))
      | (refine ord_intro (by kernel_rfl) ?_; (conv => whnf))
    all_goals first | exact trivial | exact DLe.refl _ | trace_state
  · obtain ⟨hi, hz⟩ := hi
    have hs : IntKind.i64.wrap ((i : Int) + 1) = ((i + 1 : Nat) : Int) := wrap_succ (n := 100) (by omega) (by omega)
    conv => whnf
    repeat' first
      | (refine NextVC.mk (i + 1) ?_ ?_ ?_; (conv => whnf))
      | (refine bc_true (by assumption) ?_; (conv => whnf))
      | (refine bc_false (by assumption) ?_; (conv => whnf))
      | (refine bc_intro (fun _ => ?_) (fun _ => ?_) <;> (conv => whnf))
      | (refine need_intro ?_ ?_; (conv => whnf))
      | (refine wk_refl ?_; (conv => whnf))
      | (refine draw_intro (by kernel_rfl) ?_; (conv => whnf))
      | (refine ord_intro (by kernel_rfl) ?_; (conv => whnf))
    all_goals try simp only [decide_eq_true_eq, decide_eq_false_iff_not, Int.toNat_natCast, bne_iff_ne, ne_eq, bne_eq_false_iff_eq, List.length_cons, List.length_nil] at *
    all_goals first
      | exact trivial
      | omega
      | exact DLe.refl _
      | exact DLe.of_eq (by rw [hs])
      | exact ⟨by simp only [List.length_cons, List.length_nil]; omega, by simp only [List.length_cons, List.length_nil]; omega⟩
      | exact ⟨by omega, by omega⟩
      | (refine ⟨by omega, fun j hj => ?_⟩
         by_cases e : j = i
         · subst e; assumption
         · exact hz j (by omega))
      | (refine ⟨LeS.of_eq ?_, trivial⟩
         rcases (show i = 0 ∨ i = 1 by omega) with rfl | rfl
         · have h0 : ¬ a = 0 := by assumption
           rw [if_pos h0]; rfl
         · have h0 : a = 0 := hz 0 (by omega)
           rw [if_neg (by omega)]; rfl)
      | (refine ⟨LeS.of_eq ?_, trivial⟩
         have hl : i = 2 := by omega
         subst hl
         have h0 : a = 0 := hz 0 (by omega)
         have h1 : b = 0 := hz 1 (by omega)
         simp [h0, h1])
      | trace_state
theorem compareB_eq : ∀ a b : List UInt8, Lib.compareBytes a b = cmpT a b
  | [], [] => by simp [Lib.compareBytes, cmpT, Op.bytesLess]
  | [], _ :: _ => by simp [Lib.compareBytes, cmpT, Op.bytesLess]
  | _ :: _, [] => by simp [Lib.compareBytes, cmpT, Op.bytesLess]
  | x :: a, y :: b => by
    rw [Lib.compareBytes, compareB_eq a b]
    simp only [cmpT, Op.bytesLess]
    by_cases h1 : x < y
    · simp [h1]
    · by_cases h2 : y < x
      · have h3 : x ≠ y := fun e => by subst e; exact h1 h2
        have h4 : y ≠ x := fun e => h3 e.symm
        simp [h1, h2, h3, h4]
      · have e : x = y := UInt8.le_antisymm (UInt8.not_lt.1 h2) (UInt8.not_lt.1 h1)
        subst e
        simp
set_option maxHeartbeats 1000000 in
theorem bytealg_CompareString (a b : ByteArray) (w : World) :
    Calls Tryd.prog 45 #[.string a, .string b] w fun e w' => e = .returned (.int .i64 (Lib.compareBytes a.data.toList b.data.toList)) ∧ w' = w := by
  go_enter Tryd.func45, Tryd.ntmps45
  go_wp2
  rw [run_callFunc_extern Tryd.func46 (by kernel_rfl) (by kernel_rfl) (by kernel_rfl) (e := Extern.BytealgCompare.compare) (by kernel_rfl), Lib.run_compareString]
  simp only [Result.andThen]
  rw [Oper.upon_value]
  go_wp2
  go_ret
  exact ⟨rfl, rfl⟩
/-- a call that leaves the world as it was -/
theorem Spec.of_calls {f : FuncId} {args : List SV} {k : IntKind} {n : Int} (he : ∀ (vs : Array Value) (w : World), (callFunc f vs).run Tryd.prog w = .ok (.enter f vs) w)
    (h : ∀ (w : World) (I : Nat → Prop) (ρ : Nat → Sx.Loc) (vs : List Value), RepL I ρ w args vs → Calls Tryd.prog f ⟨vs⟩ w fun e w' => e = .returned (.int k n) ∧ w' = w) : Sx.Spec Tryd.prog GG f args [] (.d (.int k n)) [] where
  keys := rfl
  apart := by intro n hn; simp [newP, keysP] at hn
  rnames := by intro n hn; simp [inS] at hn
  pnames := by intro n b m hn; simp at hn
  kind := by intro n b c hn; simp at hn
  enter := he
  calls := by
    intro w I ρ vs hr hp hi hl hg
    refine Calls.mono (h w I ρ vs hr) ?_
    rintro e w' ⟨rfl, rfl⟩
    exact ⟨_, I, ρ, rfl, ⟨fun _ _ => rfl, by simp only [RepS, RepD], fun n b hn => by simp at hn, fun b hb => hb, fun b hb => .inl hb, hl, Keep.refl _ _, fun n b hn => by simp at hn, fun n m b c hn => by simp at hn⟩⟩
theorem cmpString_spec (a b : List UInt8) : Sx.Spec Tryd.prog GG 45 [.d (.str a), .d (.str b)] [] (.d (.int .i64 (cmpT a b))) [] := by
  refine Spec.of_calls Tryd.call45 ?_
  intro w I ρ vs hr
  simp only [RepL, RepS, RepD] at hr
  obtain ⟨_, _, rfl, rfl, _, _, rfl, rfl, rfl⟩ := hr
  rw [← compareB_eq]
  exact bytealg_CompareString ⟨⟨a⟩⟩ ⟨⟨b⟩⟩ w
theorem strCompare_spec (a b : List UInt8) : Sx.Spec Tryd.prog GG 41 [.d (.str a), .d (.str b)] [] (.d (.int .i64 (cmpT a b))) [] := by
  refine spec_intro (E := EE) (fn := Tryd.f41) eok (by kernel_rfl) (by kernel_rfl) Tryd.call41 (by kernel_rfl) (by kernel_rfl) ?_
  conv => whnf
  repeat' first
    | (refine call_intro (cmpString_spec _ _) ?_ (by first | exact .inl rfl | exact .inr ⟨rfl, rfl⟩); (conv => whnf))
    | (refine bc_true (by assumption) ?_; (conv => whnf))
    | (refine bc_false (by assumption) ?_; (conv => whnf))
    | (refine bc_intro (fun _ => ?_) (fun _ => ?_) <;> (conv => whnf))
    | (refine need_intro ?_ ?_; (conv => whnf))
    | (refine wk_refl ?_; (conv => whnf))
    | (refine draw_intro (by kernel_rfl) ?_; (conv => whnf))
    | (refine ord_intro (by kernel_rfl) ?_; (conv => whnf))
  exact ⟨LeS.refl _, trivial⟩
end Go.Proofs.YtigmgeglnbjfeaaDoor
