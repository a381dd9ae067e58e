/- Contracts of functions that the law reaches: YtfjiffbacallhaaDoorBase. Written for this claim. -/
import Derived.Test.YtfjiffbacallhaaDoorSxTab
import Derived.Test.YtfjiffbacallhaaDoorRows
import Derived.Test.YtfjiffbacallhaaDoorProg
namespace Go.Proofs.YtfjiffbacallhaaDoor
open Go Go.Sx Go.ChangeShapes Go.WideShapes Go.ChangeAt Go.RowKit
set_option linter.unusedVariables false
set_option linter.unusedSimpArgs false
set_option maxRecDepth 100000
abbrev EE : List Nat := [43, 29, 31, 49]
theorem eok : EOk Tryd.prog EE := by
  refine ⟨by kernel_rfl, ?_⟩
  intro T hT
  simp only [memN_iff] at hT
  simp only [List.mem_cons, List.not_mem_nil, or_false] at hT
  rcases hT with rfl | rfl | rfl | rfl <;> exact ⟨by kernel_rfl, by kernel_rfl⟩
def letterS : Nat → List UInt8
  | 0 => [97]
  | 1 => [98]
  | 2 => [99]
  | 3 => [0]
  | 4 => [255]
  | _ => [109]
theorem letterS_len : ∀ n, (letterS n).length = 1
  | 0 => rfl
  | 1 => rfl
  | 2 => rfl
  | 3 => rfl
  | 4 => rfl
  | _ + 5 => rfl
def GG : Nat → Option (Nat × (Nat → D))
  | 0 => some (6, fun j => .str (letterS j))
  | _ => none
theorem validKeyp_spec (k : List UInt8) : Sx.Spec Tryd.prog GG 46 [.d (.str k)] [] (.d (.bool (decide ((k.length : Int) ≤ 64)))) [] := by
  refine spec_intro (E := EE) (fn := Tryd.f46) eok (by kernel_rfl) (by kernel_rfl) Tryd.call46 (by kernel_rfl) (by kernel_rfl) ?_
  conv => whnf
  repeat' first
    | (refine bc_true (by assumption) ?_; (conv => whnf))
    | (refine bc_false (by assumption) ?_; (conv => whnf))
    | (refine bc_intro (fun _ => ?_) (fun _ => ?_) <;> (conv => whnf))
    | (refine need_intro ?_ ?_; (conv => whnf))
    | (refine wk_refl ?_; (conv => whnf))
    | (refine draw_intro (by kernel_rfl) ?_; (conv => whnf))
    | (refine ord_intro (by kernel_rfl) ?_; (conv => whnf))
  exact ⟨LeS.refl _, trivial⟩
theorem validBoundp_spec (k : List UInt8) (t : Bool) : Sx.Spec Tryd.prog GG 43 [.agg [.d (.str k), .d (.bool t)]] [] (.d (.bool (validB k t))) [] := by
  refine spec_intro (E := EE) (fn := Tryd.f43) eok (by kernel_rfl) (by kernel_rfl) Tryd.call43 (by kernel_rfl) (by kernel_rfl) ?_
  conv => whnf
  repeat' first
    | (refine call_intro (validKeyp_spec _) ?_ (by first | exact .inl rfl | exact .inr ⟨rfl, rfl⟩); (conv => whnf))
    | (refine bc_true (by assumption) ?_; (conv => whnf))
    | (refine bc_false (by assumption) ?_; (conv => whnf))
    | (refine bc_intro (fun _ => ?_) (fun _ => ?_) <;> (conv => whnf))
    | (refine need_intro ?_ ?_; (conv => whnf))
    | (refine wk_refl ?_; (conv => whnf))
    | (refine draw_intro (by kernel_rfl) ?_; (conv => whnf))
    | (refine ord_intro (by kernel_rfl) ?_; (conv => whnf))
  all_goals exact ⟨LeS.of_eq (by first | (simp_all [validB]; done) | (simp_all [validB]; omega) | (simp_all [validB]; intros; omega)), trivial⟩
theorem comparep_spec (ak : List UInt8) (a : Bool) (bk : List UInt8) (b : Bool) : Sx.Spec Tryd.prog GG 44 [.agg [.d (.str ak), .d (.bool a)], .agg [.d (.str bk), .d (.bool b)]] [] (.d (.int .i64 (cmpB ak a bk b))) [] := by
  refine spec_intro (E := EE) (fn := Tryd.f44) eok (by kernel_rfl) (by kernel_rfl) Tryd.call44 (by kernel_rfl) (by kernel_rfl) ?_
  conv => whnf
  repeat' first
    | (refine bc_true (by assumption) ?_; (conv => whnf))
    | (refine bc_false (by assumption) ?_; (conv => whnf))
    | (refine bc_intro (fun _ => ?_) (fun _ => ?_) <;> (conv => whnf))
    | (refine need_intro ?_ ?_; (conv => whnf))
    | (refine wk_refl ?_; (conv => whnf))
    | (refine draw_intro (by kernel_rfl) ?_; (conv => whnf))
    | (refine ord_intro (by kernel_rfl) ?_; (conv => whnf))
  all_goals try simp only [bl_gtr] at *
  all_goals exact ⟨LeS.of_eq (by first | (simp_all [cmpB]; done) | (simp_all [cmpB, bl_asymm]; done)), trivial⟩
theorem validRp_spec (lk : List UInt8) (lt : Bool) (hk : List UInt8) (ht : Bool) : Sx.Spec Tryd.prog GG 26 [.agg [.d (.str lk), .d (.bool lt), .d (.str hk), .d (.bool ht)]] [] (.d (.bool (validR lk lt hk ht))) [] := by
  refine spec_intro (E := EE) (fn := Tryd.f26) eok (by kernel_rfl) (by kernel_rfl) Tryd.call26 (by kernel_rfl) (by kernel_rfl) ?_
  conv => whnf
  repeat' first
    | (refine call_intro (validBoundp_spec _ _) ?_ (by first | exact .inl rfl | exact .inr ⟨rfl, rfl⟩); (conv => whnf))
    | (refine call_intro (comparep_spec _ _ _ _) ?_ (by first | exact .inl rfl | exact .inr ⟨rfl, rfl⟩); (conv => whnf))
    | (refine bc_true (by assumption) ?_; (conv => whnf))
    | (refine bc_false (by assumption) ?_; (conv => whnf))
    | (refine bc_intro (fun _ => ?_) (fun _ => ?_) <;> (conv => whnf))
    | (refine need_intro ?_ ?_; (conv => whnf))
    | (refine wk_refl ?_; (conv => whnf))
    | (refine draw_intro (by kernel_rfl) ?_; (conv => whnf))
    | (refine ord_intro (by kernel_rfl) ?_; (conv => whnf))
  all_goals exact ⟨LeS.of_eq (by first | (simp_all [validR]; done) | (simp_all [validR]; omega) | (simp_all [validR]; intros; omega)), trivial⟩
theorem emptyRp_spec (lk : List UInt8) (lt : Bool) (hk : List UInt8) (ht : Bool) : Sx.Spec Tryd.prog GG 45 [.agg [.d (.str lk), .d (.bool lt), .d (.str hk), .d (.bool ht)]] [] (.d (.bool (emptyR lk lt hk ht))) [] := by
  refine spec_intro (E := EE) (fn := Tryd.f45) eok (by kernel_rfl) (by kernel_rfl) Tryd.call45 (by kernel_rfl) (by kernel_rfl) ?_
  conv => whnf
  repeat' first
    | (refine call_intro (validRp_spec _ _ _ _) ?_ (by first | exact .inl rfl | exact .inr ⟨rfl, rfl⟩); (conv => whnf))
    | (refine call_intro (comparep_spec _ _ _ _) ?_ (by first | exact .inl rfl | exact .inr ⟨rfl, rfl⟩); (conv => whnf))
    | (refine bc_true (by assumption) ?_; (conv => whnf))
    | (refine bc_false (by assumption) ?_; (conv => whnf))
    | (refine bc_intro (fun _ => ?_) (fun _ => ?_) <;> (conv => whnf))
    | (refine need_intro ?_ ?_; (conv => whnf))
    | (refine wk_refl ?_; (conv => whnf))
    | (refine draw_intro (by kernel_rfl) ?_; (conv => whnf))
    | (refine ord_intro (by kernel_rfl) ?_; (conv => whnf))
  all_goals exact ⟨LeS.of_eq (by first | (simp_all [emptyR]; done) | (simp_all [emptyR]; omega) | (simp_all [emptyR]; intros; omega)), trivial⟩
theorem containsRp_spec (lk : List UInt8) (lt : Bool) (hk : List UInt8) (ht : Bool) (k : List UInt8) : Sx.Spec Tryd.prog GG 27 [.agg [.d (.str lk), .d (.bool lt), .d (.str hk), .d (.bool ht)], .d (.str k)] [] (.d (.bool (containsR lk lt hk ht k))) [] := by
  refine spec_intro (E := EE) (fn := Tryd.f27) eok (by kernel_rfl) (by kernel_rfl) Tryd.call27 (by kernel_rfl) (by kernel_rfl) ?_
  conv => whnf
  repeat' first
    | (refine call_intro (validKeyp_spec _) ?_ (by first | exact .inl rfl | exact .inr ⟨rfl, rfl⟩); (conv => whnf))
    | (refine call_intro (emptyRp_spec _ _ _ _) ?_ (by first | exact .inl rfl | exact .inr ⟨rfl, rfl⟩); (conv => whnf))
    | (refine call_intro (comparep_spec _ _ _ _) ?_ (by first | exact .inl rfl | exact .inr ⟨rfl, rfl⟩); (conv => whnf))
    | (refine bc_true (by assumption) ?_; (conv => whnf))
    | (refine bc_false (by assumption) ?_; (conv => whnf))
    | (refine bc_intro (fun _ => ?_) (fun _ => ?_) <;> (conv => whnf))
    | (refine need_intro ?_ ?_; (conv => whnf))
    | (refine wk_refl ?_; (conv => whnf))
    | (refine draw_intro (by kernel_rfl) ?_; (conv => whnf))
    | (refine ord_intro (by kernel_rfl) ?_; (conv => whnf))
  all_goals exact ⟨LeS.of_eq (by first | (simp_all [containsR]; done) | (simp_all [containsR]; omega) | (simp_all [containsR]; intros; omega)), trivial⟩
theorem validKeyr_spec (k : List UInt8) : Sx.Spec Tryd.prog GG 52 [.d (.str k)] [] (.d (.bool (decide ((k.length : Int) ≤ 64)))) [] := by
  refine spec_intro (E := EE) (fn := Tryd.f52) eok (by kernel_rfl) (by kernel_rfl) Tryd.call52 (by kernel_rfl) (by kernel_rfl) ?_
  conv => whnf
  repeat' first
    | (refine bc_true (by assumption) ?_; (conv => whnf))
    | (refine bc_false (by assumption) ?_; (conv => whnf))
    | (refine bc_intro (fun _ => ?_) (fun _ => ?_) <;> (conv => whnf))
    | (refine need_intro ?_ ?_; (conv => whnf))
    | (refine wk_refl ?_; (conv => whnf))
    | (refine draw_intro (by kernel_rfl) ?_; (conv => whnf))
    | (refine ord_intro (by kernel_rfl) ?_; (conv => whnf))
  exact ⟨LeS.refl _, trivial⟩
theorem validBoundr_spec (k : List UInt8) (t : Bool) : Sx.Spec Tryd.prog GG 53 [.agg [.d (.str k), .d (.bool t)]] [] (.d (.bool (validB k t))) [] := by
  refine spec_intro (E := EE) (fn := Tryd.f53) eok (by kernel_rfl) (by kernel_rfl) Tryd.call53 (by kernel_rfl) (by kernel_rfl) ?_
  conv => whnf
  repeat' first
    | (refine call_intro (validKeyr_spec _) ?_ (by first | exact .inl rfl | exact .inr ⟨rfl, rfl⟩); (conv => whnf))
    | (refine bc_true (by assumption) ?_; (conv => whnf))
    | (refine bc_false (by assumption) ?_; (conv => whnf))
    | (refine bc_intro (fun _ => ?_) (fun _ => ?_) <;> (conv => whnf))
    | (refine need_intro ?_ ?_; (conv => whnf))
    | (refine wk_refl ?_; (conv => whnf))
    | (refine draw_intro (by kernel_rfl) ?_; (conv => whnf))
    | (refine ord_intro (by kernel_rfl) ?_; (conv => whnf))
  all_goals exact ⟨LeS.of_eq (by first | (simp_all [validB]; done) | (simp_all [validB]; omega) | (simp_all [validB]; intros; omega)), trivial⟩
theorem comparer_spec (ak : List UInt8) (a : Bool) (bk : List UInt8) (b : Bool) : Sx.Spec Tryd.prog GG 36 [.agg [.d (.str ak), .d (.bool a)], .agg [.d (.str bk), .d (.bool b)]] [] (.d (.int .i64 (cmpB ak a bk b))) [] := by
  refine spec_intro (E := EE) (fn := Tryd.f36) eok (by kernel_rfl) (by kernel_rfl) Tryd.call36 (by kernel_rfl) (by kernel_rfl) ?_
  conv => whnf
  repeat' first
    | (refine bc_true (by assumption) ?_; (conv => whnf))
    | (refine bc_false (by assumption) ?_; (conv => whnf))
    | (refine bc_intro (fun _ => ?_) (fun _ => ?_) <;> (conv => whnf))
    | (refine need_intro ?_ ?_; (conv => whnf))
    | (refine wk_refl ?_; (conv => whnf))
    | (refine draw_intro (by kernel_rfl) ?_; (conv => whnf))
    | (refine ord_intro (by kernel_rfl) ?_; (conv => whnf))
  all_goals try simp only [bl_gtr] at *
  all_goals exact ⟨LeS.of_eq (by first | (simp_all [cmpB]; done) | (simp_all [cmpB, bl_asymm]; done)), trivial⟩
theorem validRr_spec (lk : List UInt8) (lt : Bool) (hk : List UInt8) (ht : Bool) : Sx.Spec Tryd.prog GG 31 [.agg [.d (.str lk), .d (.bool lt), .d (.str hk), .d (.bool ht)]] [] (.d (.bool (validR lk lt hk ht))) [] := by
  refine spec_intro (E := EE) (fn := Tryd.f31) eok (by kernel_rfl) (by kernel_rfl) Tryd.call31 (by kernel_rfl) (by kernel_rfl) ?_
  conv => whnf
  repeat' first
    | (refine call_intro (validBoundr_spec _ _) ?_ (by first | exact .inl rfl | exact .inr ⟨rfl, rfl⟩); (conv => whnf))
    | (refine call_intro (comparer_spec _ _ _ _) ?_ (by first | exact .inl rfl | exact .inr ⟨rfl, rfl⟩); (conv => whnf))
    | (refine bc_true (by assumption) ?_; (conv => whnf))
    | (refine bc_false (by assumption) ?_; (conv => whnf))
    | (refine bc_intro (fun _ => ?_) (fun _ => ?_) <;> (conv => whnf))
    | (refine need_intro ?_ ?_; (conv => whnf))
    | (refine wk_refl ?_; (conv => whnf))
    | (refine draw_intro (by kernel_rfl) ?_; (conv => whnf))
    | (refine ord_intro (by kernel_rfl) ?_; (conv => whnf))
  all_goals exact ⟨LeS.of_eq (by first | (simp_all [validR]; done) | (simp_all [validR]; omega) | (simp_all [validR]; intros; omega)), trivial⟩
theorem emptyRr_spec (lk : List UInt8) (lt : Bool) (hk : List UInt8) (ht : Bool) : Sx.Spec Tryd.prog GG 18 [.agg [.d (.str lk), .d (.bool lt), .d (.str hk), .d (.bool ht)]] [] (.d (.bool (emptyR lk lt hk ht))) [] := by
  refine spec_intro (E := EE) (fn := Tryd.f18) eok (by kernel_rfl) (by kernel_rfl) Tryd.call18 (by kernel_rfl) (by kernel_rfl) ?_
  conv => whnf
  repeat' first
    | (refine call_intro (validRr_spec _ _ _ _) ?_ (by first | exact .inl rfl | exact .inr ⟨rfl, rfl⟩); (conv => whnf))
    | (refine call_intro (comparer_spec _ _ _ _) ?_ (by first | exact .inl rfl | exact .inr ⟨rfl, rfl⟩); (conv => whnf))
    | (refine bc_true (by assumption) ?_; (conv => whnf))
    | (refine bc_false (by assumption) ?_; (conv => whnf))
    | (refine bc_intro (fun _ => ?_) (fun _ => ?_) <;> (conv => whnf))
    | (refine need_intro ?_ ?_; (conv => whnf))
    | (refine wk_refl ?_; (conv => whnf))
    | (refine draw_intro (by kernel_rfl) ?_; (conv => whnf))
    | (refine ord_intro (by kernel_rfl) ?_; (conv => whnf))
  all_goals exact ⟨LeS.of_eq (by first | (simp_all [emptyR]; done) | (simp_all [emptyR]; omega) | (simp_all [emptyR]; intros; omega)), trivial⟩
theorem containsRr_spec (lk : List UInt8) (lt : Bool) (hk : List UInt8) (ht : Bool) (k : List UInt8) : Sx.Spec Tryd.prog GG 33 [.agg [.d (.str lk), .d (.bool lt), .d (.str hk), .d (.bool ht)], .d (.str k)] [] (.d (.bool (containsR lk lt hk ht k))) [] := by
  refine spec_intro (E := EE) (fn := Tryd.f33) eok (by kernel_rfl) (by kernel_rfl) Tryd.call33 (by kernel_rfl) (by kernel_rfl) ?_
  conv => whnf
  repeat' first
    | (refine call_intro (validKeyr_spec _) ?_ (by first | exact .inl rfl | exact .inr ⟨rfl, rfl⟩); (conv => whnf))
    | (refine call_intro (emptyRr_spec _ _ _ _) ?_ (by first | exact .inl rfl | exact .inr ⟨rfl, rfl⟩); (conv => whnf))
    | (refine call_intro (comparer_spec _ _ _ _) ?_ (by first | exact .inl rfl | exact .inr ⟨rfl, rfl⟩); (conv => whnf))
    | (refine bc_true (by assumption) ?_; (conv => whnf))
    | (refine bc_false (by assumption) ?_; (conv => whnf))
    | (refine bc_intro (fun _ => ?_) (fun _ => ?_) <;> (conv => whnf))
    | (refine need_intro ?_ ?_; (conv => whnf))
    | (refine wk_refl ?_; (conv => whnf))
    | (refine draw_intro (by kernel_rfl) ?_; (conv => whnf))
    | (refine ord_intro (by kernel_rfl) ?_; (conv => whnf))
  all_goals exact ⟨LeS.of_eq (by first | (simp_all [containsR]; done) | (simp_all [containsR]; omega) | (simp_all [containsR]; intros; omega)), trivial⟩
def encI (n : Int) : List D := [.int .i64 n]
structure TapeOk (l : List Int) (a : Nat) : Prop where
  h1 : l.length ≤ 600
  h2 : a ≤ l.length
  h3 : ∀ x ∈ l, -9223372036854775808 ≤ x ∧ x < 9223372036854775808
abbrev tapeB (l : List Int) (a : Nat) : Blk := .box [.d (encL encI 1 l), .d (.int .i64 a)]
theorem TapeOk.get {l : List Int} {a i : Nat} (h : TapeOk l a) (hi : i < l.length) : -9223372036854775808 ≤ l.getD i default ∧ l.getD i default < 9223372036854775808 := by
  have : l.getD i default = l[i] := by simp [List.getD, hi]
  rw [this]
  exact h.h3 _ (List.getElem_mem hi)
theorem wrap_pred {n : Nat} (hn : n ≤ 9223372036854775806) : IntKind.i64.wrap (((n + 1 : Nat) : Int) - 1) = n := by
  rw [wrap_of (by omega) (by omega)]; omega
theorem mod_spec (v n : Int) : ((0 < n ∧ n < 9223372036854775808) ∧ -9223372036854775808 ≤ v ∧ v < 9223372036854775808) → Sx.Spec Tryd.prog GG 37 [.d (.int .i64 v), .d (.int .i64 n)] [] (.d (.int .i64 (v % n))) [] := by
  rintro ⟨hn, hv⟩
  have r1 := Int.tmod_lt_of_pos v hn.1
  have r2 := Int.lt_tmod_of_pos v hn.1
  have e0 : v % n = if v.tmod n < 0 then v.tmod n + n else v.tmod n := by
    have h1 := Int.tmod_add_mul_tdiv v n
    have h2 := Int.emod_add_mul_ediv v n
    have h3 := Int.emod_nonneg v (by omega : n ≠ 0)
    have h4 := Int.emod_lt_of_pos v hn.1
    rw [Int.tmod_eq_emod]
    split <;> split at * <;> omega
  refine spec_intro (E := EE) (fn := Tryd.f37) eok (by kernel_rfl) (by kernel_rfl) Tryd.call37 (by kernel_rfl) (by kernel_rfl) ?_
  conv => whnf
  repeat' first
    | (refine bc_true (by assumption) ?_; (conv => whnf))
    | (refine bc_false (by assumption) ?_; (conv => whnf))
    | (refine bc_intro (fun _ => ?_) (fun _ => ?_) <;> (conv => whnf))
    | (refine need_intro ?_ ?_; (conv => whnf))
    | (refine wk_refl ?_; (conv => whnf))
    | (refine draw_intro (by kernel_rfl) ?_; (conv => whnf))
    | (refine ord_intro (by kernel_rfl) ?_; (conv => whnf))
  all_goals try simp only [decide_eq_true_eq, decide_eq_false_iff_not] at *
  all_goals first
    | omega
    | (refine ⟨LeS.of_eq ?_, trivial⟩; rw [wrap_of (by omega) (by omega), e0, if_pos (by assumption)])
    | (refine ⟨LeS.of_eq ?_, trivial⟩; rw [e0, if_neg (by assumption)])
theorem next0 {l : List Int} {a : Nat} {n : Int} : (TapeOk l a ∧ -9223372036854775808 ≤ n ∧ n < 9223372036854775808) →
    ∃ x : Int × Nat, ((0 ≤ x.1 ∧ (x.1 < n ∨ x.1 = 0)) ∧ TapeOk l x.2) ∧ Sx.Spec Tryd.prog GG 19 [.ptr 1000 0, .d (.int .i64 n)] [(1000, tapeB l a)] (.d (.int .i64 x.1)) [(1000, tapeB l x.2)] := by
  rintro ⟨h, hn⟩
  have h1 := h.h1
  have h2 := h.h2
  have w1 : IntKind.i64.wrap ((a : Int) + 1) = ((a + 1 : Nat) : Int) := wrap_succ (n := 601) (by omega) (by omega)
  have w2 := wrap_pred (n := a) (by omega)
  refine spec_some (E := EE) (fn := Tryd.f19) _ _ _ false eok (by kernel_rfl) (by kernel_rfl) Tryd.call19 (by kernel_rfl) (fun _ => by kernel_rfl) (fun _ => by kernel_rfl) ?_
  conv => whnf
  repeat' first
    | (refine call_if (mod_spec _ _) (by first | exact .inl rfl | exact .inr ⟨rfl, rfl⟩) (need_intro ?_ ?_); (conv => whnf))
    | (refine bc_true (by assumption) ?_; (conv => whnf))
    | (refine bc_false (by assumption) ?_; (conv => whnf))
    | (refine bc_intro (fun _ => ?_) (fun _ => ?_) <;> (conv => whnf))
    | (refine need_intro ?_ ?_; (conv => whnf))
    | (refine wk_refl ?_; (conv => whnf))
    | (refine draw_intro (by kernel_rfl) ?_; (conv => whnf))
    | (refine ord_intro (by kernel_rfl) ?_; (conv => whnf))
  all_goals try simp only [w1, w2, decide_eq_true_eq, decide_eq_false_iff_not] at *
  · exact ⟨(0, a), ⟨⟨Int.le_refl 0, .inr rfl⟩, h⟩, LeS.refl _, LeL.refl _, trivial⟩
  · exact ⟨(0, a), ⟨⟨Int.le_refl 0, .inr rfl⟩, h⟩, LeS.refl _, LeL.refl _, trivial⟩
  · refine ⟨(_, _), ?_, LeS.refl _, LeL.refl _, trivial⟩
    exact ⟨⟨Int.emod_nonneg _ (by omega), .inl (Int.emod_lt_of_pos _ (by omega))⟩, ⟨h1, by simp only; omega, h.h3⟩⟩
  · exact ⟨⟨by omega, by omega⟩, h.get (by omega)⟩
  · exact ⟨by omega, by omega⟩
theorem next_ex (m : Nat) {l : List Int} {a : Nat} {n : Int} : (TapeOk l a ∧ -9223372036854775808 ≤ n ∧ n < 9223372036854775808) →
    ∃ x : Int × Nat, ((0 ≤ x.1 ∧ (x.1 < n ∨ x.1 = 0)) ∧ TapeOk l x.2) ∧ Sx.Spec Tryd.prog GG 19 [.ptr m 0, .d (.int .i64 n)] [(m, tapeB l a)] (.d (.int .i64 x.1)) [(m, tapeB l x.2)] := fun h => by
  obtain ⟨x, hx, hs⟩ := next0 (n := n) h
  exact ⟨x, hx, hs.at m⟩
theorem bool0 {l : List Int} {a : Nat} {n : Int} : (TapeOk l a ∧ 0 ≤ n ∧ n < 9223372036854775808) →
    ∃ x : Bool × Nat, TapeOk l x.2 ∧ Sx.Spec Tryd.prog GG 9 [.ptr 1000 0, .d (.int .i64 n)] [(1000, tapeB l a)] (.d (.bool x.1)) [(1000, tapeB l x.2)] := by
  rintro ⟨h, hn⟩
  refine spec_some (E := EE) (fn := Tryd.f9) _ _ _ false eok (by kernel_rfl) (by kernel_rfl) Tryd.call9 (by kernel_rfl) (fun _ => by kernel_rfl) (fun _ => by kernel_rfl) ?_
  conv => whnf
  repeat' first
    | (refine call_some_if (next_ex _) (fun _ => by first | exact .inl rfl | exact .inr ⟨rfl, rfl⟩) (need_intro ?_ ?_); rintro ⟨v, b⟩ ⟨⟨h1, h2⟩, h3⟩; (conv => whnf))
    | (refine bc_true (by assumption) ?_; (conv => whnf))
    | (refine bc_false (by assumption) ?_; (conv => whnf))
    | (refine bc_intro (fun _ => ?_) (fun _ => ?_) <;> (conv => whnf))
    | (refine need_intro ?_ ?_; (conv => whnf))
    | (refine wk_refl ?_; (conv => whnf))
    | (refine draw_intro (by kernel_rfl) ?_; (conv => whnf))
    | (refine ord_intro (by kernel_rfl) ?_; (conv => whnf))
  · exact ⟨(_, _), h3, LeS.refl _, LeL.refl _, trivial⟩
  · exact ⟨h, by omega, hn.2⟩
theorem bool_ex (m : Nat) {l : List Int} {a : Nat} {n : Int} : (TapeOk l a ∧ 0 ≤ n ∧ n < 9223372036854775808) →
    ∃ x : Bool × Nat, TapeOk l x.2 ∧ Sx.Spec Tryd.prog GG 9 [.ptr m 0, .d (.int .i64 n)] [(m, tapeB l a)] (.d (.bool x.1)) [(m, tapeB l x.2)] := fun h => by
  obtain ⟨x, hx, hs⟩ := bool0 (n := n) h
  exact ⟨x, hx, hs.at m⟩
theorem long_ex {s : List UInt8} {n : Int} : (s.length ≤ 1 ∧ 0 ≤ n ∧ n ≤ 100) → ∃ x : List UInt8, (x.length : Int) ≤ n ∧ Sx.Spec Tryd.prog GG 39 [.d (.str s), .d (.int .i64 n)] [] (.d (.str x)) [] := by
  rintro ⟨hs, hn⟩
  refine spec_some (E := EE) (fn := Tryd.f39) _ _ _ false eok (by kernel_rfl) (by kernel_rfl) Tryd.call39 (by kernel_rfl) (fun _ => by kernel_rfl) (fun _ => by kernel_rfl) ?_
  conv => whnf
  repeat' first
    | (refine bc_true (by assumption) ?_; (conv => whnf))
    | (refine bc_false (by assumption) ?_; (conv => whnf))
    | (refine bc_intro (fun _ => ?_) (fun _ => ?_) <;> (conv => whnf))
    | (refine need_intro ?_ ?_; (conv => whnf))
    | (refine wk_refl ?_; (conv => whnf))
    | (refine draw_intro (by kernel_rfl) ?_; (conv => whnf))
    | (refine ord_intro (by kernel_rfl) ?_; (conv => whnf))
  refine loop_auto [0, 0 + 1] [] (fun x : Nat × List UInt8 => [(5, .d (.str x.2)), (6, .d (.int .i64 x.1))]) (fun _ => []) (fun x => (x.1 : Int) ≤ n ∧ (x.2.length : Int) ≤ x.1) (fun x => n.toNat - x.1) (0, []) ?_ (fun x hx => ?_) ⟨by simp; omega, by simp⟩
  · conv => whnf
    repeat' first
      | (refine bc_true (by assumption) ?_; (conv => whnf))
      | (refine bc_false (by assumption) ?_; (conv => whnf))
      | (refine bc_intro (fun _ => ?_) (fun _ => ?_) <;> (conv => whnf))
      | (refine need_intro ?_ ?_; (conv => whnf))
      | (refine wk_refl ?_; (conv => whnf))
      | (refine draw_intro (by kernel_rfl) ?_; (conv => whnf))
      | (refine ord_intro (by kernel_rfl) ?_; (conv => whnf))
    all_goals first | exact ⟨rfl, rfl⟩ | exact ⟨rfl, rfl, rfl⟩ | exact DLe.refl _ | exact RowLe.refl _ _ _ | exact trivial
  · have e1 : IntKind.i64.wrap ((x.1 : Int) + 1) = ((x.1 + 1 : Nat) : Int) := wrap_succ (n := 101) (by omega) (by omega)
    conv => whnf
    repeat' first
      | (refine NextVC.mk (x.1 + 1, x.2 ++ s) ?_ ?_ ?_; (conv => whnf))
      | (refine bc_true (by assumption) ?_; (conv => whnf))
      | (refine bc_false (by assumption) ?_; (conv => whnf))
      | (refine bc_intro (fun _ => ?_) (fun _ => ?_) <;> (conv => whnf))
      | (refine need_intro ?_ ?_; (conv => whnf))
      | (refine wk_refl ?_; (conv => whnf))
      | (refine draw_intro (by kernel_rfl) ?_; (conv => whnf))
      | (refine ord_intro (by kernel_rfl) ?_; (conv => whnf))
    all_goals try simp only [decide_eq_true_eq, decide_eq_false_iff_not, List.length_append] at *
    all_goals first
      | exact trivial
      | omega
      | exact DLe.refl _
      | exact DLe.of_eq (by rw [e1])
      | exact ⟨by omega, by omega⟩
      | (refine ⟨x.2, ?_, LeS.refl _, trivial⟩; omega)
theorem key0 {l : List Int} {a : Nat} : TapeOk l a → ∃ x : List UInt8 × Nat, ((x.1.length : Int) ≤ 64 ∧ TapeOk l x.2) ∧ Sx.Spec Tryd.prog GG 38 [.ptr 1000 0] [(1000, tapeB l a)] (.d (.str x.1)) [(1000, tapeB l x.2)] := by
  intro h
  refine spec_some (E := EE) (fn := Tryd.f38) _ _ _ false eok (by kernel_rfl) (by kernel_rfl) Tryd.call38 (by kernel_rfl) (fun _ => by kernel_rfl) (fun _ => by kernel_rfl) ?_
  conv => whnf
  repeat' first
    | (refine call_some_if (next_ex _) (fun _ => by first | exact .inl rfl | exact .inr ⟨rfl, rfl⟩) (need_intro ?_ ?_); rintro ⟨v, b⟩ ⟨⟨h1, h2⟩, h3⟩; (conv => whnf))
    | (refine call_some_if (long_ex) (fun _ => by first | exact .inl rfl | exact .inr ⟨rfl, rfl⟩) (need_intro ?_ ?_); rintro x hx; (conv => whnf))
    | (refine bc_true (by assumption) ?_; (conv => whnf))
    | (refine bc_false (by assumption) ?_; (conv => whnf))
    | (refine bc_intro (fun _ => ?_) (fun _ => ?_) <;> (conv => whnf))
    | (refine need_intro ?_ ?_; (conv => whnf))
    | (refine wk_refl ?_; (conv => whnf))
    | (refine draw_intro (by kernel_rfl) ?_; (conv => whnf))
    | (refine ord_intro (by kernel_rfl) ?_; (conv => whnf))
  all_goals try simp only [decide_eq_true_eq, decide_eq_false_iff_not, beq_iff_eq, beq_eq_false_iff_ne, letterS_len] at *
  all_goals try first
    | exact ⟨by assumption, by omega, by omega⟩
    | exact ⟨by omega, by omega, by omega⟩
    | exact ⟨by omega, by omega⟩
    | (refine ⟨(_, _), ⟨?_, by assumption⟩, LeS.refl _, LeL.refl _, trivial⟩; first | assumption | simp)
  have e1 : IntKind.i64.wrap (1 + v) = 1 + v := wrap_of (by omega) (by omega)
  rw [e1]
  refine loop_auto [0] [] (fun x : Int × List UInt8 × Nat => [(3, .d (.str x.2.1)), (4, .d (.int .i64 x.1))]) (fun x => [(1000, tapeB l x.2.2)]) (fun x => 0 ≤ x.1 ∧ x.1 ≤ 3 ∧ (x.2.1.length : Int) ≤ 3 - x.1 ∧ TapeOk l x.2.2) (fun x => x.1.toNat) (1 + v, [], b) ?_ (fun x hx => ?_) ⟨by simp only; omega, by simp only; omega, by simp; omega, h3⟩
  · conv => whnf
    repeat' first
      | (refine bc_true (by assumption) ?_; (conv => whnf))
      | (refine bc_false (by assumption) ?_; (conv => whnf))
      | (refine bc_intro (fun _ => ?_) (fun _ => ?_) <;> (conv => whnf))
      | (refine need_intro ?_ ?_; (conv => whnf))
      | (refine wk_refl ?_; (conv => whnf))
      | (refine draw_intro (by kernel_rfl) ?_; (conv => whnf))
      | (refine ord_intro (by kernel_rfl) ?_; (conv => whnf))
    all_goals first | exact ⟨rfl, rfl⟩ | exact ⟨rfl, rfl, rfl⟩ | exact DLe.refl _ | exact RowLe.refl _ _ _ | exact trivial
  · obtain ⟨k, o, c⟩ := x
    obtain ⟨k1, k2, k3, k4⟩ := hx
    simp only at k1 k2 k3 k4
    have e2 : 0 < k → IntKind.i64.wrap (k - 1) = k - 1 := fun _ => wrap_of (by omega) (by omega)
    conv => whnf
    repeat' first
      | (refine call_some_if (next_ex _) (fun _ => by first | exact .inl rfl | exact .inr ⟨rfl, rfl⟩) (need_intro ?_ ?_); rintro ⟨u, d⟩ ⟨⟨g1, g2⟩, g3⟩; (conv => whnf))
      | (refine NextVC.mk (k - 1, o ++ letterS (u.toNat * Tryd.prog.cellsOf 9 + 0), d) ?_ ?_ ?_; (conv => whnf))
      | (refine bc_true (by assumption) ?_; (conv => whnf))
      | (refine bc_false (by assumption) ?_; (conv => whnf))
      | (refine bc_intro (fun _ => ?_) (fun _ => ?_) <;> (conv => whnf))
      | (refine need_intro ?_ ?_; (conv => whnf))
      | (refine wk_refl ?_; (conv => whnf))
      | (refine draw_intro (by kernel_rfl) ?_; (conv => whnf))
      | (refine ord_intro (by kernel_rfl) ?_; (conv => whnf))
    all_goals try simp only [decide_eq_true_eq, decide_eq_false_iff_not, List.length_append, letterS_len] at *
    all_goals first
      | exact trivial
      | exact ⟨by assumption, by omega, by omega⟩
      | exact ⟨by omega, by omega⟩
      | omega
      | exact DLe.refl _
      | exact DLe.of_eq (by rw [e2 (by omega)])
      | exact ⟨by omega, by omega, by omega, by assumption⟩
      | (refine ⟨(_, _), ⟨?_, by assumption⟩, LeS.refl _, LeL.refl _, trivial⟩; simp only; omega)
      | trace_state
theorem key_ex (m : Nat) {l : List Int} {a : Nat} : TapeOk l a → ∃ x : List UInt8 × Nat, ((x.1.length : Int) ≤ 64 ∧ TapeOk l x.2) ∧ Sx.Spec Tryd.prog GG 38 [.ptr m 0] [(m, tapeB l a)] (.d (.str x.1)) [(m, tapeB l x.2)] := fun h => by
  obtain ⟨x, hx, hs⟩ := key0 h
  exact ⟨x, hx, hs.at m⟩
theorem oddKey0 {l : List Int} {a : Nat} : TapeOk l a → ∃ x : List UInt8 × Nat, ((x.1.length : Int) ≤ 65 ∧ TapeOk l x.2) ∧ Sx.Spec Tryd.prog GG 40 [.ptr 1000 0] [(1000, tapeB l a)] (.d (.str x.1)) [(1000, tapeB l x.2)] := by
  intro h
  refine spec_some (E := EE) (fn := Tryd.f40) _ _ _ false eok (by kernel_rfl) (by kernel_rfl) Tryd.call40 (by kernel_rfl) (fun _ => by kernel_rfl) (fun _ => by kernel_rfl) ?_
  conv => whnf
  repeat' first
    | (refine call_some_if (bool_ex _) (fun _ => by first | exact .inl rfl | exact .inr ⟨rfl, rfl⟩) (need_intro ?_ ?_); rintro ⟨v, b⟩ h1; (conv => whnf))
    | (refine call_some_if (next_ex _) (fun _ => by first | exact .inl rfl | exact .inr ⟨rfl, rfl⟩) (need_intro ?_ ?_); rintro ⟨v, b⟩ ⟨⟨h1, h2⟩, h3⟩; (conv => whnf))
    | (refine call_some_if (long_ex) (fun _ => by first | exact .inl rfl | exact .inr ⟨rfl, rfl⟩) (need_intro ?_ ?_); rintro x hx; (conv => whnf))
    | (refine call_some_if (key_ex _) (fun _ => by first | exact .inl rfl | exact .inr ⟨rfl, rfl⟩) (need_intro ?_ ?_); rintro ⟨k, b⟩ ⟨h1, h2⟩; (conv => whnf))
    | (refine bc_true (by assumption) ?_; (conv => whnf))
    | (refine bc_false (by assumption) ?_; (conv => whnf))
    | (refine bc_intro (fun _ => ?_) (fun _ => ?_) <;> (conv => whnf))
    | (refine need_intro ?_ ?_; (conv => whnf))
    | (refine wk_refl ?_; (conv => whnf))
    | (refine draw_intro (by kernel_rfl) ?_; (conv => whnf))
    | (refine ord_intro (by kernel_rfl) ?_; (conv => whnf))
  all_goals try simp only [decide_eq_true_eq, decide_eq_false_iff_not, beq_iff_eq, beq_eq_false_iff_ne, letterS_len] at *
  all_goals try first
    | assumption
    | exact ⟨by assumption, by omega, by omega⟩
    | exact ⟨by omega, by omega, by omega⟩
    | exact ⟨by omega, by omega⟩
  all_goals (refine ⟨(_, _), ⟨?_, by assumption⟩, LeS.refl _, LeL.refl _, trivial⟩; simp only; omega)
theorem oddKey_ex (m : Nat) {l : List Int} {a : Nat} : TapeOk l a → ∃ x : List UInt8 × Nat, ((x.1.length : Int) ≤ 65 ∧ TapeOk l x.2) ∧ Sx.Spec Tryd.prog GG 40 [.ptr m 0] [(m, tapeB l a)] (.d (.str x.1)) [(m, tapeB l x.2)] := fun h => by
  obtain ⟨x, hx, hs⟩ := oddKey0 h
  exact ⟨x, hx, hs.at m⟩
theorem bound0 {l : List Int} {a : Nat} : TapeOk l a → ∃ x : List UInt8 × Bool × Nat, ((x.1.length : Int) ≤ 65 ∧ TapeOk l x.2.2) ∧ Sx.Spec Tryd.prog GG 24 [.ptr 1000 0] [(1000, tapeB l a)] (.agg [.d (.str x.1), .d (.bool x.2.1)]) [(1000, tapeB l x.2.2)] := by
  intro h
  refine spec_some (E := EE) (fn := Tryd.f24) _ _ _ false eok (by kernel_rfl) (by kernel_rfl) Tryd.call24 (by kernel_rfl) (fun _ => by kernel_rfl) (fun _ => by kernel_rfl) ?_
  conv => whnf
  repeat' first
    | (refine call_some_if (next_ex _) (fun _ => by first | exact .inl rfl | exact .inr ⟨rfl, rfl⟩) (need_intro ?_ ?_); rintro ⟨v, b⟩ ⟨⟨h1, h2⟩, h3⟩; (conv => whnf))
    | (refine call_some_if (bool_ex _) (fun _ => by first | exact .inl rfl | exact .inr ⟨rfl, rfl⟩) (need_intro ?_ ?_); rintro ⟨v, b⟩ h1; (conv => whnf))
    | (refine call_some_if (key_ex _) (fun _ => by first | exact .inl rfl | exact .inr ⟨rfl, rfl⟩) (need_intro ?_ ?_); rintro ⟨k, b⟩ ⟨h1, h2⟩; (conv => whnf))
    | (refine call_some_if (oddKey_ex _) (fun _ => by first | exact .inl rfl | exact .inr ⟨rfl, rfl⟩) (need_intro ?_ ?_); rintro ⟨k, b⟩ ⟨h1, h2⟩; (conv => whnf))
    | (refine bc_true (by assumption) ?_; (conv => whnf))
    | (refine bc_false (by assumption) ?_; (conv => whnf))
    | (refine bc_intro (fun _ => ?_) (fun _ => ?_) <;> (conv => whnf))
    | (refine need_intro ?_ ?_; (conv => whnf))
    | (refine wk_refl ?_; (conv => whnf))
    | (refine draw_intro (by kernel_rfl) ?_; (conv => whnf))
    | (refine ord_intro (by kernel_rfl) ?_; (conv => whnf))
  all_goals try simp only [decide_eq_true_eq, decide_eq_false_iff_not, beq_iff_eq, beq_eq_false_iff_ne, letterS_len] at *
  all_goals try first
    | assumption
    | exact ⟨by assumption, by omega, by omega⟩
    | exact ⟨by omega, by omega, by omega⟩
    | exact ⟨by omega, by omega⟩
  all_goals (refine ⟨(_, _, _), ⟨?_, by assumption⟩, LeS.refl _, LeL.refl _, trivial⟩; first | (simp only; omega) | simp)
theorem bound_ex (m : Nat) {l : List Int} {a : Nat} : TapeOk l a → ∃ x : List UInt8 × Bool × Nat, ((x.1.length : Int) ≤ 65 ∧ TapeOk l x.2.2) ∧ Sx.Spec Tryd.prog GG 24 [.ptr m 0] [(m, tapeB l a)] (.agg [.d (.str x.1), .d (.bool x.2.1)]) [(m, tapeB l x.2.2)] := fun h => by
  obtain ⟨x, hx, hs⟩ := bound0 h
  exact ⟨x, hx, hs.at m⟩
theorem range0 {l : List Int} {a : Nat} : TapeOk l a → ∃ x : List UInt8 × Bool × List UInt8 × Bool × Nat, ((x.1.length : Int) ≤ 65 ∧ (x.2.2.1.length : Int) ≤ 65 ∧ TapeOk l x.2.2.2.2) ∧ Sx.Spec Tryd.prog GG 11 [.ptr 1000 0] [(1000, tapeB l a)] (.agg [.d (.str x.1), .d (.bool x.2.1), .d (.str x.2.2.1), .d (.bool x.2.2.2.1)]) [(1000, tapeB l x.2.2.2.2)] := by
  intro h
  refine spec_some (E := EE) (fn := Tryd.f11) _ _ _ false eok (by kernel_rfl) (by kernel_rfl) Tryd.call11 (by kernel_rfl) (fun _ => by kernel_rfl) (fun _ => by kernel_rfl) ?_
  conv => whnf
  repeat' first
    | (refine call_some_if (bound_ex _) (fun _ => by first | exact .inl rfl | exact .inr ⟨rfl, rfl⟩) (need_intro ?_ ?_); rintro ⟨k, t, b⟩ ⟨h1, h2⟩; (conv => whnf))
    | (refine call_some_if (bool_ex _) (fun _ => by first | exact .inl rfl | exact .inr ⟨rfl, rfl⟩) (need_intro ?_ ?_); rintro ⟨v, b⟩ h1; (conv => whnf))
    | (refine bc_true (by assumption) ?_; (conv => whnf))
    | (refine bc_false (by assumption) ?_; (conv => whnf))
    | (refine bc_intro (fun _ => ?_) (fun _ => ?_) <;> (conv => whnf))
    | (refine need_intro ?_ ?_; (conv => whnf))
    | (refine wk_refl ?_; (conv => whnf))
    | (refine draw_intro (by kernel_rfl) ?_; (conv => whnf))
    | (refine ord_intro (by kernel_rfl) ?_; (conv => whnf))
  all_goals try simp only [decide_eq_true_eq, decide_eq_false_iff_not, beq_iff_eq, beq_eq_false_iff_ne, letterS_len] at *
  all_goals try first
    | assumption
    | exact ⟨by assumption, by omega, by omega⟩
    | exact ⟨by omega, by omega, by omega⟩
    | exact ⟨by omega, by omega⟩
  all_goals (refine ⟨(_, _, _, _, _), ⟨?_, ?_, by assumption⟩, LeS.refl _, LeL.refl _, trivial⟩ <;> (simp only; omega))
theorem range_ex (m : Nat) {l : List Int} {a : Nat} : TapeOk l a → ∃ x : List UInt8 × Bool × List UInt8 × Bool × Nat, ((x.1.length : Int) ≤ 65 ∧ (x.2.2.1.length : Int) ≤ 65 ∧ TapeOk l x.2.2.2.2) ∧ Sx.Spec Tryd.prog GG 11 [.ptr m 0] [(m, tapeB l a)] (.agg [.d (.str x.1), .d (.bool x.2.1), .d (.str x.2.2.1), .d (.bool x.2.2.2.1)]) [(m, tapeB l x.2.2.2.2)] := fun h => by
  obtain ⟨x, hx, hs⟩ := range0 h
  exact ⟨x, hx, hs.at m⟩
theorem proper0 {l : List Int} {a : Nat} : TapeOk l a → ∃ x : List UInt8 × Bool × List UInt8 × Bool × Nat, (((x.1.length : Int) ≤ 65 ∧ (x.2.2.1.length : Int) ≤ 65 ∧ emptyR x.1 x.2.1 x.2.2.1 x.2.2.2.1 = false) ∧ TapeOk l x.2.2.2.2) ∧ Sx.Spec Tryd.prog GG 7 [.ptr 1000 0] [(1000, tapeB l a)] (.agg [.d (.str x.1), .d (.bool x.2.1), .d (.str x.2.2.1), .d (.bool x.2.2.2.1)]) [(1000, tapeB l x.2.2.2.2)] := by
  intro h
  refine spec_some (E := EE) (fn := Tryd.f7) _ _ _ false eok (by kernel_rfl) (by kernel_rfl) Tryd.call7 (by kernel_rfl) (fun _ => by kernel_rfl) (fun _ => by kernel_rfl) ?_
  conv => whnf
  repeat' first
    | (refine call_some_if (range_ex _) (fun _ => by first | exact .inl rfl | exact .inr ⟨rfl, rfl⟩) (need_intro ?_ ?_); rintro ⟨k, t, k2, t2, b⟩ ⟨h1, h2, h3⟩; (conv => whnf))
    | (refine call_intro (emptyRr_spec _ _ _ _) ?_ (by first | exact .inl rfl | exact .inr ⟨rfl, rfl⟩); (conv => whnf))
    | (refine bc_true (by assumption) ?_; (conv => whnf))
    | (refine bc_false (by assumption) ?_; (conv => whnf))
    | (refine bc_intro (fun _ => ?_) (fun _ => ?_) <;> (conv => whnf))
    | (refine need_intro ?_ ?_; (conv => whnf))
    | (refine wk_refl ?_; (conv => whnf))
    | (refine draw_intro (by kernel_rfl) ?_; (conv => whnf))
    | (refine ord_intro (by kernel_rfl) ?_; (conv => whnf))
  all_goals try simp only [decide_eq_true_eq, decide_eq_false_iff_not, beq_iff_eq, beq_eq_false_iff_ne, letterS_len] at *
  all_goals try first
    | assumption
    | exact ⟨by assumption, by omega, by omega⟩
    | exact ⟨by omega, by omega, by omega⟩
    | exact ⟨by omega, by omega⟩
  · refine ⟨(_, _, _, _, _), ⟨?_, by assumption⟩, LeS.refl _, LeL.refl _, trivial⟩
    exact ⟨by simp, by simp, by simp only; decide⟩
  · exact ⟨(_, _, _, _, _), ⟨⟨by assumption, by assumption, by assumption⟩, by assumption⟩, LeS.refl _, LeL.refl _, trivial⟩
theorem proper_ex (m : Nat) {l : List Int} {a : Nat} : TapeOk l a → ∃ x : List UInt8 × Bool × List UInt8 × Bool × Nat, (((x.1.length : Int) ≤ 65 ∧ (x.2.2.1.length : Int) ≤ 65 ∧ emptyR x.1 x.2.1 x.2.2.1 x.2.2.2.1 = false) ∧ TapeOk l x.2.2.2.2) ∧ Sx.Spec Tryd.prog GG 7 [.ptr m 0] [(m, tapeB l a)] (.agg [.d (.str x.1), .d (.bool x.2.1), .d (.str x.2.2.1), .d (.bool x.2.2.2.1)]) [(m, tapeB l x.2.2.2.2)] := fun h => by
  obtain ⟨x, hx, hs⟩ := proper0 h
  exact ⟨x, hx, hs.at m⟩
theorem value0 {l : List Int} {a : Nat} : TapeOk l a → ∃ x : List UInt8 × Nat, ((x.1.length : Int) ≤ 64 ∧ TapeOk l x.2) ∧ Sx.Spec Tryd.prog GG 22 [.ptr 1000 0] [(1000, tapeB l a)] (.d (.str x.1)) [(1000, tapeB l x.2)] := by
  intro h
  refine spec_some (E := EE) (fn := Tryd.f22) _ _ _ false eok (by kernel_rfl) (by kernel_rfl) Tryd.call22 (by kernel_rfl) (fun _ => by kernel_rfl) (fun _ => by kernel_rfl) ?_
  conv => whnf
  repeat' first
    | (refine call_some_if (next_ex _) (fun _ => by first | exact .inl rfl | exact .inr ⟨rfl, rfl⟩) (need_intro ?_ ?_); rintro ⟨v, b⟩ ⟨⟨h1, h2⟩, h3⟩; (conv => whnf))
    | (refine call_some_if (long_ex) (fun _ => by first | exact .inl rfl | exact .inr ⟨rfl, rfl⟩) (need_intro ?_ ?_); rintro x hx; (conv => whnf))
    | (refine bc_true (by assumption) ?_; (conv => whnf))
    | (refine bc_false (by assumption) ?_; (conv => whnf))
    | (refine bc_intro (fun _ => ?_) (fun _ => ?_) <;> (conv => whnf))
    | (refine need_intro ?_ ?_; (conv => whnf))
    | (refine wk_refl ?_; (conv => whnf))
    | (refine draw_intro (by kernel_rfl) ?_; (conv => whnf))
    | (refine ord_intro (by kernel_rfl) ?_; (conv => whnf))
  all_goals try simp only [decide_eq_true_eq, decide_eq_false_iff_not, beq_iff_eq, beq_eq_false_iff_ne, letterS_len] at *
  all_goals try first
    | assumption
    | exact ⟨by assumption, by omega, by omega⟩
    | exact ⟨by omega, by omega, by omega⟩
    | exact ⟨by omega, by omega⟩
  all_goals try first
    | (refine ⟨(_, _), ⟨?_, by assumption⟩, LeS.refl _, LeL.refl _, trivial⟩; first | assumption | (simp; done))
    | exact ⟨by simp, by omega, by omega⟩
    | exact ⟨by simp; omega, by simp; omega⟩
  rename_i v _ _ _ _ _ _
  have hv : v = 0 ∨ v = 1 ∨ v = 2 ∨ v = 3 ∨ v = 4 ∨ v = 5 := by omega
  rcases hv with rfl | rfl | rfl | rfl | rfl | rfl <;> (refine ⟨(_, _), ⟨?_, by assumption⟩, LeS.refl _, LeL.refl _, trivial⟩; simp)
theorem validTr_spec (rows : List Row) : Sx.Spec Tryd.prog GG 30 [.d (encL encRow 2 rows)] [] (.d (.bool (validT rows))) [] := by
  refine spec_intro (E := EE) (fn := Tryd.f30) eok (by kernel_rfl) (by kernel_rfl) Tryd.call30 (by kernel_rfl) (by kernel_rfl) ?_
  conv => whnf
  repeat' first
    | (refine bc_true (by assumption) ?_; (conv => whnf))
    | (refine bc_false (by assumption) ?_; (conv => whnf))
    | (refine bc_intro (fun _ => ?_) (fun _ => ?_) <;> (conv => whnf))
    | (refine need_intro ?_ ?_; (conv => whnf))
    | (refine wk_refl ?_; (conv => whnf))
    | (refine draw_intro (by kernel_rfl) ?_; (conv => whnf))
    | (refine ord_intro (by kernel_rfl) ?_; (conv => whnf))
  all_goals try simp only [decide_eq_true_eq, decide_eq_false_iff_not] at *
  · refine ⟨LeS.of_eq ?_, trivial⟩
    have : ¬ rows.length ≤ 1024 := by omega
    simp [validT, this]
  · refine loop_auto [0, 8, 9] [] (fun i : Nat => [(10, .d (.int .i64 i))]) (fun i => []) (fun i => i ≤ rows.length ∧ ∀ j, j < i → chkT rows j = true) (fun i => rows.length - i) 0 ?_ (fun i hx => ?_) ⟨Nat.zero_le _, fun j hj => absurd hj (Nat.not_lt_zero j)⟩
    · conv => whnf
      repeat' first
        | (refine bc_true (by assumption) ?_; (conv => whnf))
        | (refine bc_false (by assumption) ?_; (conv => whnf))
        | (refine bc_intro (fun _ => ?_) (fun _ => ?_) <;> (conv => whnf))
        | (refine need_intro ?_ ?_; (conv => whnf))
        | (refine wk_refl ?_; (conv => whnf))
        | (refine draw_intro (by kernel_rfl) ?_; (conv => whnf))
        | (refine ord_intro (by kernel_rfl) ?_; (conv => whnf))
      all_goals first | exact ⟨rfl, rfl⟩ | exact ⟨rfl, rfl, rfl⟩ | exact DLe.refl _ | exact RowLe.refl _ _ _ | exact trivial
    · obtain ⟨hi, hc⟩ := hx
      have hw : 0 < i → (IntKind.i64.wrap ((i : Int) - 1)).toNat = i - 1 := fun h => by rw [wrap_of (by omega) (by omega)]; omega
      have hs : IntKind.i64.wrap ((i : Int) + 1) = ((i + 1 : Nat) : Int) := wrap_succ (n := 1025) (by omega) (by omega)
      have hk : 0 < i → 0 ≤ IntKind.i64.wrap ((i : Int) - 1) ∧ IntKind.i64.wrap ((i : Int) - 1) < rows.length := fun h => by rw [wrap_of (by omega) (by omega)]; omega
      conv => whnf
      repeat' first
        | (refine call_intro (validKeyr_spec _) ?_ (by first | exact .inl rfl | exact .inr ⟨rfl, rfl⟩); (conv => whnf))
        | (refine NextVC.mk (i + 1) ?_ ?_ ?_; (conv => whnf))
        | (refine bc_true (by assumption) ?_; (conv => whnf))
        | (refine bc_false (by assumption) ?_; (conv => whnf))
        | (refine bc_intro (fun _ => ?_) (fun _ => ?_) <;> (conv => whnf))
        | (refine need_intro ?_ ?_; (conv => whnf))
        | (refine wk_refl ?_; (conv => whnf))
        | (refine draw_intro (by kernel_rfl) ?_; (conv => whnf))
        | (refine ord_intro (by kernel_rfl) ?_; (conv => whnf))
      all_goals try simp only [decide_eq_true_eq, decide_eq_false_iff_not, Bool.not_eq_true', Bool.not_eq_false', Int.toNat_natCast] at *
      all_goals try rw [hw (by omega)] at *
      all_goals first
        | exact trivial
        | omega
        | exact DLe.refl _
        | exact DLe.of_eq (by rw [hs])
        | exact hk (by omega)
        | exact ⟨by omega, by omega⟩
        | (refine ⟨by omega, fun j hj => ?_⟩
           by_cases e : j = i
           · subst e
             have hz : (j : Int) > 0 ∨ j = 0 := by omega
             rcases hz with hz | rfl
             · have : (j == 0) = false := by simp; omega
               simp_all [chkT, rowOk]
             · simp_all [chkT, rowOk]
           · exact hc j (by omega))
        | (refine ⟨LeS.of_eq ?_, trivial⟩
           have e : i = rows.length := by omega
           subst e
           rw [validT_true (by omega) hc])
        | (refine ⟨LeS.of_eq ?_, trivial⟩
           rw [validT_false (i := i) (by omega)]
           have hz : (i : Int) > 0 ∨ i = 0 := by omega
           rcases hz with hz | rfl
           · have : (i == 0) = false := by simp; omega
             first | (simp_all [chkT, rowOk]; done) | (simp_all [chkT, rowOk]; intros; omega)
           · first | (simp_all [chkT, rowOk]; done) | (simp_all [chkT, rowOk]; intros; omega))
        | trace_state
theorem cellsRow : Tryd.prog.cellsOf 43 = 2 := by kernel_rfl
theorem bytesRow : Tryd.prog.bytesOf 43 = 32 := by kernel_rfl
theorem withoutr_spec (rows : List Row) (k : List UInt8) : rows.length ≤ 1099511627776 → Sx.Spec Tryd.prog GG 54 [.d (encL encRow 2 rows), .d (.str k)] [] (.d (encL encRow 2 (withoutF rows k))) [] := by
  intro hlen
  refine spec_intro (E := EE) (fn := Tryd.f54) eok (by kernel_rfl) (by kernel_rfl) Tryd.call54 (by kernel_rfl) (by kernel_rfl) ?_
  conv => whnf
  repeat' first
    | (refine bc_true (by assumption) ?_; (conv => whnf))
    | (refine bc_false (by assumption) ?_; (conv => whnf))
    | (refine bc_intro (fun _ => ?_) (fun _ => ?_) <;> (conv => whnf))
    | (refine need_intro ?_ ?_; (conv => whnf))
    | (refine wk_refl ?_; (conv => whnf))
    | (refine draw_intro (by kernel_rfl) ?_; (conv => whnf))
    | (refine ord_intro (by kernel_rfl) ?_; (conv => whnf))
  refine loop_auto [0, 0 + 1, 8, 9] [] (fun i : Nat => [(5, .osl 500 2 0 (withoutF (rows.take i) k).length), (10, .d (.int .i64 i))]) (fun i => [(500, .row 43 2 (withoutF (rows.take i) k).length (cellOf encRow (withoutF (rows.take i) k)))]) (fun i => i ≤ rows.length) (fun i => rows.length - i) 0 ?_ (fun i hi => ?_) (Nat.zero_le _)
  · conv => whnf
    repeat' first
      | (refine bc_true (by assumption) ?_; (conv => whnf))
      | (refine bc_false (by assumption) ?_; (conv => whnf))
      | (refine bc_intro (fun _ => ?_) (fun _ => ?_) <;> (conv => whnf))
      | (refine need_intro ?_ ?_; (conv => whnf))
      | (refine wk_refl ?_; (conv => whnf))
      | (refine draw_intro (by kernel_rfl) ?_; (conv => whnf))
      | (refine ord_intro (by kernel_rfl) ?_; (conv => whnf))
    all_goals first | exact ⟨rfl, rfl⟩ | exact ⟨rfl, rfl, rfl⟩ | exact DLe.refl _ | exact RowLe.refl _ _ _ | exact trivial
  · have hs : IntKind.i64.wrap ((i : Int) + 1) = ((i + 1 : Nat) : Int) := wrap_succ (n := 1099511627777) (by omega) (by omega)
    have hl : (withoutF (rows.take i) k).length ≤ i := Nat.le_trans without_len (by simp; omega)
    conv => whnf
    repeat' first
      | (refine NextVC.mk (i + 1) ?_ ?_ ?_; (conv => whnf))
      | (refine bc_true (by assumption) ?_; (conv => whnf))
      | (refine bc_false (by assumption) ?_; (conv => whnf))
      | (refine bc_intro (fun _ => ?_) (fun _ => ?_) <;> (conv => whnf))
      | (refine need_intro ?_ ?_; (conv => whnf))
      | (refine wk_refl ?_; (conv => whnf))
      | (refine draw_intro (by kernel_rfl) ?_; (conv => whnf))
      | (refine ord_intro (by kernel_rfl) ?_; (conv => whnf))
    all_goals try simp only [decide_eq_true_eq, decide_eq_false_iff_not, Int.toNat_natCast, cellsRow, bytesRow, true_and, and_true] at *
    all_goals first
      | exact trivial
      | omega
      | exact DLe.refl _
      | exact RowLe.refl _ _ _
      | exact DLe.of_eq (by rw [hs])
      | exact ⟨by omega, by omega⟩
      | (rw [without_keep (by omega) (by assumption)]; simp only [List.length_append, List.length_singleton]; done)
      | (rw [without_drop (by omega) (by assumption)]; done)
      | (rw [without_drop (by omega) (by assumption)]; exact RowLe.refl _ _ _)
      | (rw [without_keep (by omega) (by assumption)]; simp only [List.length_append, List.length_singleton]; exact row_snoc rfl (RowLe.refl _ _ _) (jlt2 (DLe.of_eq rfl) (DLe.of_eq rfl)))
      | exact ⟨les_own (by rw [show i = rows.length by omega, List.take_length]), trivial⟩
      | trace_state
theorem withr_spec (rows : List Row) (k v : List UInt8) : rows.length ≤ 1099511627776 → Sx.Spec Tryd.prog GG 34 [.d (encL encRow 2 rows), .agg [.d (.str k), .d (.str v)]] [] (.d (encL encRow 2 (withF rows (k, v)))) [] := by
  intro hlen
  refine spec_intro (E := EE) (fn := Tryd.f34) eok (by kernel_rfl) (by kernel_rfl) Tryd.call34 (by kernel_rfl) (by kernel_rfl) ?_
  conv => whnf
  repeat' first
    | (refine call_if (withoutr_spec _ _) (by first | exact .inl rfl | exact .inr ⟨rfl, rfl⟩) (need_intro ?_ ?_); (conv => whnf))
    | (refine bc_true (by assumption) ?_; (conv => whnf))
    | (refine bc_false (by assumption) ?_; (conv => whnf))
    | (refine bc_intro (fun _ => ?_) (fun _ => ?_) <;> (conv => whnf))
    | (refine need_intro ?_ ?_; (conv => whnf))
    | (refine wk_refl ?_; (conv => whnf))
    | (refine draw_intro (by kernel_rfl) ?_; (conv => whnf))
    | (refine ord_intro (by kernel_rfl) ?_; (conv => whnf))
  all_goals try omega
  have hwl : (withoutF rows k).length ≤ 1099511627776 := Nat.le_trans without_len hlen
  generalize hw : withoutF rows k = w at hwl
  have hF : withF rows (k, v) = insF (k, v) w := by rw [withF, hw]
  rw [hF]
  clear hF hw
  refine loop_auto [3, 12, 13] [3] (fun x : Nat × Bool × List Row => [(6, .d (.bool x.2.1)), (5, .osl 500 2 0 x.2.2.length), (14, .d (.int .i64 x.1))]) (fun x => [(500, .row 43 2 x.2.2.length (cellOf encRow x.2.2))])
    (fun x => x.1 ≤ w.length ∧ x.2.2.length ≤ x.1 + x.2.1.toNat ∧ x.2.2 ++ (if x.2.1 then w.drop x.1 else insF (k, v) (w.drop x.1)) = insF (k, v) w) (fun x => w.length - x.1) (0, false, []) ?_ (fun x hx => ?_) ⟨Nat.zero_le _, by simp, rfl⟩
  · conv => whnf
    repeat' first
      | (refine bc_true (by assumption) ?_; (conv => whnf))
      | (refine bc_false (by assumption) ?_; (conv => whnf))
      | (refine bc_intro (fun _ => ?_) (fun _ => ?_) <;> (conv => whnf))
      | (refine need_intro ?_ ?_; (conv => whnf))
      | (refine wk_refl ?_; (conv => whnf))
      | (refine draw_intro (by kernel_rfl) ?_; (conv => whnf))
      | (refine ord_intro (by kernel_rfl) ?_; (conv => whnf))
    all_goals first | exact ⟨rfl, rfl⟩ | exact ⟨rfl, rfl, rfl⟩ | exact DLe.refl _ | exact RowLe.refl _ _ _ | exact trivial
  · obtain ⟨i, dn, o⟩ := x
    obtain ⟨hi, hol, he⟩ := hx
    simp only at hi hol he
    have hs : IntKind.i64.wrap ((i : Int) + 1) = ((i + 1 : Nat) : Int) := wrap_succ (n := 1099511627777) (by omega) (by omega)
    have hol' : o.length ≤ i + 1 := by cases dn <;> simp at hol <;> omega
    have hol0 : dn = false → o.length ≤ i := fun h => by rw [h] at hol; simpa using hol
    conv => whnf
    repeat' first
      | (refine bc_true (by assumption) ?_; (conv => whnf))
      | (refine bc_false (by assumption) ?_; (conv => whnf))
      | (refine bc_intro (fun _ => ?_) (fun _ => ?_) <;> (conv => whnf))
      | (refine need_intro ?_ ?_; (conv => whnf))
      | (refine wk_refl ?_; (conv => whnf))
      | (refine draw_intro (by kernel_rfl) ?_; (conv => whnf))
      | (refine ord_intro (by kernel_rfl) ?_; (conv => whnf))
    all_goals try simp only [decide_eq_true_eq, decide_eq_false_iff_not, Int.toNat_natCast, cellsRow, bytesRow, bl_gtr, Bool.not_eq_true', Bool.not_eq_false', Nat.reduceAdd, true_and] at *
    all_goals first
      | (have hd : dn = true := by assumption
         refine NextVC.mk (i + 1, true, o ++ [w.getD i default]) ?_ ?_ ?_; (conv => whnf))
      | (have hd : Op.bytesLess k (w.getD i default).1 = true := by assumption
         refine NextVC.mk (i + 1, true, o ++ [(k, v)] ++ [w.getD i default]) ?_ ?_ ?_; (conv => whnf))
      | (refine NextVC.mk (i + 1, false, o ++ [w.getD i default]) ?_ ?_ ?_; (conv => whnf))
      | skip
    conv => whnf
    repeat' first
      | (refine bc_true (by assumption) ?_; (conv => whnf))
      | (refine bc_false (by assumption) ?_; (conv => whnf))
      | (refine bc_intro (fun _ => ?_) (fun _ => ?_) <;> (conv => whnf))
      | (refine need_intro ?_ ?_; (conv => whnf))
      | (refine wk_refl ?_; (conv => whnf))
      | (refine draw_intro (by kernel_rfl) ?_; (conv => whnf))
      | (refine ord_intro (by kernel_rfl) ?_; (conv => whnf))
    all_goals try simp only [cellsRow, true_and] at *
    all_goals first
      | exact trivial
      | omega
      | exact DLe.refl _
      | exact RowLe.refl _ _ _
      | exact DLe.of_eq (by rw [hs])
      | exact ⟨by omega, by omega⟩
      | (simp only [List.length_append, List.length_singleton]; done)
      | (simp only [List.length_append, List.length_singleton]; exact row_snoc rfl (RowLe.refl _ _ _) (jlt2 (DLe.of_eq rfl) (DLe.of_eq rfl)))
      | (simp only [List.length_append, List.length_singleton]; exact row_snoc (by simp) (row_snoc rfl (RowLe.refl _ _ _) (jlt2 (DLe.of_eq rfl) (DLe.of_eq rfl))) (jlt2 (DLe.of_eq rfl) (DLe.of_eq rfl)))
      | exact DLe.of_eq (by simp only [*])
      | (refine ⟨by omega, by simp only [List.length_append, List.length_singleton, Bool.toNat_true, Bool.toNat_false]; omega, ?_⟩
         rw [← he, drop_cons' (show i < w.length by omega)]
         clear he hol hol' hol0
         simp only [insF, *, if_true, if_false, Bool.false_eq_true, List.append_assoc, List.cons_append, List.nil_append]; done)
      | (have := hol0 (by assumption)
         refine ⟨by omega, by simp only [List.length_append, List.length_singleton, Bool.toNat_true, Bool.toNat_false]; omega, ?_⟩
         rw [← he, drop_cons' (show i < w.length by omega)]
         clear he hol hol' hol0
         simp only [insF, *, if_true, if_false, Bool.false_eq_true, List.append_assoc, List.cons_append, List.nil_append]; done)
      | (have hd : dn = true := by assumption
         refine ⟨les_own ?_, trivial⟩
         rw [← he, List.drop_eq_nil_of_le (show w.length ≤ i by omega)]
         simp [hd]; done)
      | (have hd : dn = false := by assumption
         have e : insF (k, v) w = o ++ [(k, v)] := by
           rw [← he, List.drop_eq_nil_of_le (show w.length ≤ i by omega)]
           simp [hd, insF]
         rw [e]
         exact ⟨les_row (by simp) (row_snoc rfl (RowLe.refl _ _ _) (jlt2 (DLe.of_eq rfl) (DLe.of_eq rfl))), trivial⟩)
      | trace_state
theorem refPut_spec (rows : List Row) (k v : List UInt8) : Sx.Spec Tryd.prog GG 20 [.d (encL encRow 2 rows), .agg [.d (.str k), .d (.str v)]] [] (.tup [.d (encL encRow 2 (putF rows k v).1), .d (.int .i64 (putF rows k v).2)]) [] := by
  refine spec_intro (E := EE) (fn := Tryd.f20) eok (by kernel_rfl) (by kernel_rfl) Tryd.call20 (by kernel_rfl) (by kernel_rfl) ?_
  conv => whnf
  repeat' first
    | (refine call_intro (validTr_spec _) ?_ (by first | exact .inl rfl | exact .inr ⟨rfl, rfl⟩); (conv => whnf))
    | (refine call_intro ((validTr_spec [(k, v)]).arg (LeL.cons (LeS.d (DLe.rows rfl (row_one (jlt2 (DLe.of_eq rfl) (DLe.of_eq rfl))))) LeL.nil)) ?_ (by first | exact .inl rfl | exact .inr ⟨rfl, rfl⟩); (conv => whnf))
    | (refine call_if (withr_spec _ _ _) (by first | exact .inl rfl | exact .inr ⟨rfl, rfl⟩) (need_intro ?_ ?_); (conv => whnf))
    | (refine bc_true (by assumption) ?_; (conv => whnf))
    | (refine bc_false (by assumption) ?_; (conv => whnf))
    | (refine bc_intro (fun _ => ?_) (fun _ => ?_) <;> (conv => whnf))
    | (refine need_intro ?_ ?_; (conv => whnf))
    | (refine wk_refl ?_; (conv => whnf))
    | (refine draw_intro (by kernel_rfl) ?_; (conv => whnf))
    | (refine ord_intro (by kernel_rfl) ?_; (conv => whnf))
  all_goals try simp only [decide_eq_true_eq, decide_eq_false_iff_not] at *
  · have e : putF rows k v = ([], 1) := by simp [putF, *]
    rw [e]; exact ⟨LeS.tup (LeL.cons (les_nil rfl) (LeL.cons (LeS.refl _) LeL.nil)), trivial⟩
  · have e : putF rows k v = ([], 1) := by simp [putF, *]
    rw [e]; exact ⟨LeS.tup (LeL.cons (les_nil rfl) (LeL.cons (LeS.refl _) LeL.nil)), trivial⟩
  · have e : putF rows k v = ([], 16) := by
      have : (withF rows (k, v)).length > 1024 := by omega
      simp [putF, *]
    rw [e]; exact ⟨LeS.tup (LeL.cons (les_nil rfl) (LeL.cons (LeS.refl _) LeL.nil)), trivial⟩
  · have e : putF rows k v = (withF rows (k, v), 0) := by
      have : ¬ (withF rows (k, v)).length > 1024 := by omega
      simp [putF, *]
    rw [e]; exact ⟨LeS.refl _, trivial⟩
  · have := validT_len (by simpa using ‹(!validT rows) = false›)
    omega
theorem value_ex (m : Nat) {l : List Int} {a : Nat} : TapeOk l a → ∃ x : List UInt8 × Nat, ((x.1.length : Int) ≤ 64 ∧ TapeOk l x.2) ∧ Sx.Spec Tryd.prog GG 22 [.ptr m 0] [(m, tapeB l a)] (.d (.str x.1)) [(m, tapeB l x.2)] := fun h => by
  obtain ⟨x, hx, hs⟩ := value0 h
  exact ⟨x, hx, hs.at m⟩
theorem oddValue0 {l : List Int} {a : Nat} : TapeOk l a → ∃ x : List UInt8 × Nat, ((x.1.length : Int) ≤ 65 ∧ TapeOk l x.2) ∧ Sx.Spec Tryd.prog GG 41 [.ptr 1000 0] [(1000, tapeB l a)] (.d (.str x.1)) [(1000, tapeB l x.2)] := by
  intro h
  refine spec_some (E := EE) (fn := Tryd.f41) _ _ _ false eok (by kernel_rfl) (by kernel_rfl) Tryd.call41 (by kernel_rfl) (fun _ => by kernel_rfl) (fun _ => by kernel_rfl) ?_
  conv => whnf
  repeat' first
    | (refine call_some_if (bool_ex _) (fun _ => by first | exact .inl rfl | exact .inr ⟨rfl, rfl⟩) (need_intro ?_ ?_); rintro ⟨v, b⟩ h1; (conv => whnf))
    | (refine call_some_if (long_ex) (fun _ => by first | exact .inl rfl | exact .inr ⟨rfl, rfl⟩) (need_intro ?_ ?_); rintro x hx; (conv => whnf))
    | (refine call_some_if (value_ex _) (fun _ => by first | exact .inl rfl | exact .inr ⟨rfl, rfl⟩) (need_intro ?_ ?_); rintro ⟨k, b⟩ ⟨h1, h2⟩; (conv => whnf))
    | (refine bc_true (by assumption) ?_; (conv => whnf))
    | (refine bc_false (by assumption) ?_; (conv => whnf))
    | (refine bc_intro (fun _ => ?_) (fun _ => ?_) <;> (conv => whnf))
    | (refine need_intro ?_ ?_; (conv => whnf))
    | (refine wk_refl ?_; (conv => whnf))
    | (refine draw_intro (by kernel_rfl) ?_; (conv => whnf))
    | (refine ord_intro (by kernel_rfl) ?_; (conv => whnf))
  all_goals try simp only [decide_eq_true_eq, decide_eq_false_iff_not, beq_iff_eq, beq_eq_false_iff_ne, letterS_len] at *
  all_goals try first
    | assumption
    | exact ⟨by assumption, by omega, by omega⟩
    | exact ⟨by omega, by omega, by omega⟩
    | exact ⟨by omega, by omega⟩
  all_goals first
    | exact ⟨by simp, by omega, by omega⟩
    | (refine ⟨(_, _), ⟨?_, by assumption⟩, LeS.refl _, LeL.refl _, trivial⟩; simp only; omega)
theorem oddValue_ex (m : Nat) {l : List Int} {a : Nat} : TapeOk l a → ∃ x : List UInt8 × Nat, ((x.1.length : Int) ≤ 65 ∧ TapeOk l x.2) ∧ Sx.Spec Tryd.prog GG 41 [.ptr m 0] [(m, tapeB l a)] (.d (.str x.1)) [(m, tapeB l x.2)] := fun h => by
  obtain ⟨x, hx, hs⟩ := oddValue0 h
  exact ⟨x, hx, hs.at m⟩
theorem row0 {l : List Int} {a : Nat} : TapeOk l a → ∃ x : List UInt8 × List UInt8 × Nat, ((x.1.length : Int) ≤ 65 ∧ (x.2.1.length : Int) ≤ 65 ∧ TapeOk l x.2.2) ∧ Sx.Spec Tryd.prog GG 23 [.ptr 1000 0] [(1000, tapeB l a)] (.agg [.d (.str x.1), .d (.str x.2.1)]) [(1000, tapeB l x.2.2)] := by
  intro h
  refine spec_some (E := EE) (fn := Tryd.f23) _ _ _ false eok (by kernel_rfl) (by kernel_rfl) Tryd.call23 (by kernel_rfl) (fun _ => by kernel_rfl) (fun _ => by kernel_rfl) ?_
  conv => whnf
  repeat' first
    | (refine call_some_if (oddKey_ex _) (fun _ => by first | exact .inl rfl | exact .inr ⟨rfl, rfl⟩) (need_intro ?_ ?_); rintro ⟨k, b⟩ ⟨h1, h2⟩; (conv => whnf))
    | (refine call_some_if (oddValue_ex _) (fun _ => by first | exact .inl rfl | exact .inr ⟨rfl, rfl⟩) (need_intro ?_ ?_); rintro ⟨v, b⟩ ⟨h1, h2⟩; (conv => whnf))
    | (refine bc_true (by assumption) ?_; (conv => whnf))
    | (refine bc_false (by assumption) ?_; (conv => whnf))
    | (refine bc_intro (fun _ => ?_) (fun _ => ?_) <;> (conv => whnf))
    | (refine need_intro ?_ ?_; (conv => whnf))
    | (refine wk_refl ?_; (conv => whnf))
    | (refine draw_intro (by kernel_rfl) ?_; (conv => whnf))
    | (refine ord_intro (by kernel_rfl) ?_; (conv => whnf))
  all_goals try simp only [decide_eq_true_eq, decide_eq_false_iff_not, beq_iff_eq, beq_eq_false_iff_ne, letterS_len] at *
  all_goals try first
    | assumption
    | exact ⟨by assumption, by omega, by omega⟩
    | exact ⟨by omega, by omega, by omega⟩
    | exact ⟨by omega, by omega⟩
  all_goals (refine ⟨(_, _, _), ⟨?_, ?_, by assumption⟩, LeS.refl _, LeL.refl _, trivial⟩ <;> (simp only; omega))
theorem row_ex (m : Nat) {l : List Int} {a : Nat} : TapeOk l a → ∃ x : List UInt8 × List UInt8 × Nat, ((x.1.length : Int) ≤ 65 ∧ (x.2.1.length : Int) ≤ 65 ∧ TapeOk l x.2.2) ∧ Sx.Spec Tryd.prog GG 23 [.ptr m 0] [(m, tapeB l a)] (.agg [.d (.str x.1), .d (.str x.2.1)]) [(m, tapeB l x.2.2)] := fun h => by
  obtain ⟨x, hx, hs⟩ := row0 h
  exact ⟨x, hx, hs.at m⟩
theorem all_spec : Sx.Spec Tryd.prog GG 17 [] [] (.agg [.d (.str []), .d (.bool false), .d (.str []), .d (.bool true)]) [] := by
  refine spec_intro (E := EE) (fn := Tryd.f17) eok (by kernel_rfl) (by kernel_rfl) Tryd.call17 (by kernel_rfl) (by kernel_rfl) ?_
  conv => whnf
  repeat' first
    | (refine bc_true (by assumption) ?_; (conv => whnf))
    | (refine bc_false (by assumption) ?_; (conv => whnf))
    | (refine bc_intro (fun _ => ?_) (fun _ => ?_) <;> (conv => whnf))
    | (refine need_intro ?_ ?_; (conv => whnf))
    | (refine wk_refl ?_; (conv => whnf))
    | (refine draw_intro (by kernel_rfl) ?_; (conv => whnf))
    | (refine ord_intro (by kernel_rfl) ?_; (conv => whnf))
  exact ⟨LeS.refl _, trivial⟩
/-- a key of a range that is not empty -/
theorem keyIn0 {l : List Int} {a : Nat} {lk : List UInt8} {lt : Bool} {hk : List UInt8} {ht : Bool} : (TapeOk l a ∧ emptyR lk lt hk ht = false) → ∃ x : List UInt8 × Nat, ((x.1.length : Int) ≤ 64 ∧ containsR lk lt hk ht x.1 = true ∧ TapeOk l x.2) ∧
    Sx.Spec Tryd.prog GG 21 [.ptr 1000 0, .agg [.d (.str lk), .d (.bool lt), .d (.str hk), .d (.bool ht)]] [(1000, tapeB l a)] (.d (.str x.1)) [(1000, tapeB l x.2)] := by
  rintro ⟨h, he⟩
  refine spec_some (E := EE) (fn := Tryd.f21) _ _ _ false eok (by kernel_rfl) (by kernel_rfl) Tryd.call21 (by kernel_rfl) (fun _ => by kernel_rfl) (fun _ => by kernel_rfl) ?_
  conv => whnf
  repeat' first
    | (refine bc_true (by assumption) ?_; (conv => whnf))
    | (refine bc_false (by assumption) ?_; (conv => whnf))
    | (refine bc_intro (fun _ => ?_) (fun _ => ?_) <;> (conv => whnf))
    | (refine need_intro ?_ ?_; (conv => whnf))
    | (refine wk_refl ?_; (conv => whnf))
    | (refine draw_intro (by kernel_rfl) ?_; (conv => whnf))
    | (refine ord_intro (by kernel_rfl) ?_; (conv => whnf))
  refine loop_auto [0, 3] [3] (fun x : Nat × Nat => [(5, .d (.int .i64 x.1))]) (fun x => [(1000, tapeB l x.2)]) (fun x => x.1 ≤ 4 ∧ TapeOk l x.2) (fun x => 4 - x.1) (0, a) ?_ (fun x hx => ?_) ⟨by simp, h⟩
  · conv => whnf
    repeat' first
      | (refine bc_true (by assumption) ?_; (conv => whnf))
      | (refine bc_false (by assumption) ?_; (conv => whnf))
      | (refine bc_intro (fun _ => ?_) (fun _ => ?_) <;> (conv => whnf))
      | (refine need_intro ?_ ?_; (conv => whnf))
      | (refine wk_refl ?_; (conv => whnf))
      | (refine draw_intro (by kernel_rfl) ?_; (conv => whnf))
      | (refine ord_intro (by kernel_rfl) ?_; (conv => whnf))
    all_goals first | exact ⟨rfl, rfl⟩ | exact ⟨rfl, rfl, rfl⟩ | exact DLe.refl _ | exact RowLe.refl _ _ _ | exact trivial
  · obtain ⟨i, c⟩ := x
    obtain ⟨hi, hc⟩ := hx
    simp only at hi hc
    have hs : IntKind.i64.wrap ((i : Int) + 1) = ((i + 1 : Nat) : Int) := wrap_succ (n := 5) (by omega) (by omega)
    conv => whnf
    repeat' first
      | (refine call_some_if (key_ex _) (fun _ => by first | exact .inl rfl | exact .inr ⟨rfl, rfl⟩) (need_intro ?_ ?_); rintro ⟨k, b⟩ ⟨h1, h2⟩; (conv => whnf))
      | (refine call_intro (containsRr_spec _ _ _ _ _) ?_ (by first | exact .inl rfl | exact .inr ⟨rfl, rfl⟩); (conv => whnf))
      | (refine NextVC.mk (i + 1, b) ?_ ?_ ?_; (conv => whnf))
      | (refine bc_true (by assumption) ?_; (conv => whnf))
      | (refine bc_false (by assumption) ?_; (conv => whnf))
      | (refine bc_intro (fun _ => ?_) (fun _ => ?_) <;> (conv => whnf))
      | (refine need_intro ?_ ?_; (conv => whnf))
      | (refine wk_refl ?_; (conv => whnf))
      | (refine draw_intro (by kernel_rfl) ?_; (conv => whnf))
      | (refine ord_intro (by kernel_rfl) ?_; (conv => whnf))
    all_goals try simp only [decide_eq_true_eq, decide_eq_false_iff_not, beq_iff_eq, beq_eq_false_iff_ne, letterS_len] at *
    all_goals try first
      | assumption
      | exact ⟨by assumption, by omega, by omega⟩
      | exact ⟨by omega, by omega, by omega⟩
      | exact ⟨by omega, by omega⟩
    all_goals first
      | exact trivial
      | omega
      | exact DLe.refl _
      | exact RowLe.refl _ _ _
      | exact DLe.of_eq (by rw [hs])
      | exact ⟨by omega, by omega⟩
      | (simp only [List.length_append, List.length_singleton]; done)
      | (simp only [List.length_append, List.length_singleton]; exact row_snoc rfl (RowLe.refl _ _ _) (jlt2 (DLe.of_eq rfl) (DLe.of_eq rfl)))
      | (simp only [List.length_append, List.length_singleton]; exact row_snoc (by simp) (row_snoc rfl (RowLe.refl _ _ _) (jlt2 (DLe.of_eq rfl) (DLe.of_eq rfl))) (jlt2 (DLe.of_eq rfl) (DLe.of_eq rfl)))
      | exact ⟨by simp only; omega, by assumption⟩
      | exact ⟨(_, _), ⟨by assumption, by assumption, by assumption⟩, LeS.refl _, LeL.refl _, trivial⟩
      | (refine ⟨(_, _), ?_, LeS.refl _, LeL.refl _, trivial⟩
         have := keyIn_low he
         exact ⟨this.1, this.2, by assumption⟩)
      | trace_state
theorem keyIn_ex (m : Nat) {l : List Int} {a : Nat} {lk : List UInt8} {lt : Bool} {hk : List UInt8} {ht : Bool} : (TapeOk l a ∧ emptyR lk lt hk ht = false) → ∃ x : List UInt8 × Nat, ((x.1.length : Int) ≤ 64 ∧ containsR lk lt hk ht x.1 = true ∧ TapeOk l x.2) ∧
    Sx.Spec Tryd.prog GG 21 [.ptr m 0, .agg [.d (.str lk), .d (.bool lt), .d (.str hk), .d (.bool ht)]] [(m, tapeB l a)] (.d (.str x.1)) [(m, tapeB l x.2)] := fun h => by
  obtain ⟨x, hx, hs⟩ := keyIn0 h
  exact ⟨x, hx, hs.at m⟩
/-- a table of at most n rows whose keys a range contains -/
structure RowsQ (lk : List UInt8) (lt : Bool) (hk : List UInt8) (ht : Bool) (n : Int) (rows : List Row) : Prop where
  ok : TabOk rows
  len : (rows.length : Int) ≤ n
  within : ∀ r ∈ rows, containsR lk lt hk ht r.1 = true
theorem RowsQ.nil {lk : List UInt8} {lt : Bool} {hk : List UInt8} {ht : Bool} {n : Int} (h : 0 ≤ n) : RowsQ lk lt hk ht n [] := ⟨tabOk_nil, by simpa using h, by simp⟩
theorem RowsQ.put {lk : List UInt8} {lt : Bool} {hk : List UInt8} {ht : Bool} {n : Int} {rows : List Row} {k v : List UInt8} (h : RowsQ lk lt hk ht n rows) (hc : containsR lk lt hk ht k = true) : RowsQ lk lt hk ht (n + 1) (putF rows k v).1 := by
  have hp := put_ok (k := k) (v := v) h.ok
  have hl := h.len
  refine ⟨hp.1, by omega, fun r hr => ?_⟩
  unfold putF at hr
  split at hr
  · simp at hr
  · split at hr
    · simp at hr
    · rcases ins_mem.1 hr with rfl | hr
      · exact hc
      · exact h.within r (without_ne hr).1
theorem rowsIn0 {l : List Int} {a : Nat} {lk : List UInt8} {lt : Bool} {hk : List UInt8} {ht : Bool} {n : Int} : (TapeOk l a ∧ 0 ≤ n ∧ n ≤ 1000) → ∃ x : List Row × Nat, (RowsQ lk lt hk ht n x.1 ∧ TapeOk l x.2) ∧
    Sx.Spec Tryd.prog GG 8 [.ptr 1000 0, .agg [.d (.str lk), .d (.bool lt), .d (.str hk), .d (.bool ht)], .d (.int .i64 n)] [(1000, tapeB l a)] (.d (encL encRow 2 x.1)) [(1000, tapeB l x.2)] := by
  rintro ⟨h, hn⟩
  have wn : IntKind.i64.wrap (n + 1) = n + 1 := wrap_of (by omega) (by omega)
  refine spec_some (E := EE) (fn := Tryd.f8) _ _ _ false eok (by kernel_rfl) (by kernel_rfl) Tryd.call8 (by kernel_rfl) (fun _ => by kernel_rfl) (fun _ => by kernel_rfl) ?_
  conv => whnf
  repeat' first
    | (refine call_intro (emptyRr_spec _ _ _ _) ?_ (by first | exact .inl rfl | exact .inr ⟨rfl, rfl⟩); (conv => whnf))
    | (refine call_some_if (next_ex _) (fun _ => by first | exact .inl rfl | exact .inr ⟨rfl, rfl⟩) (need_intro ?_ ?_); rintro ⟨v, b⟩ ⟨⟨h1, h2⟩, h3⟩; (conv => whnf))
    | (refine bc_true (by assumption) ?_; (conv => whnf))
    | (refine bc_false (by assumption) ?_; (conv => whnf))
    | (refine bc_intro (fun _ => ?_) (fun _ => ?_) <;> (conv => whnf))
    | (refine need_intro ?_ ?_; (conv => whnf))
    | (refine wk_refl ?_; (conv => whnf))
    | (refine draw_intro (by kernel_rfl) ?_; (conv => whnf))
    | (refine ord_intro (by kernel_rfl) ?_; (conv => whnf))
  · exact ⟨([], _), ⟨RowsQ.nil hn.1, by assumption⟩, les_nil rfl, LeL.refl _, trivial⟩
  · refine loop_auto [0, 4] [4] (fun x : Int × List Row × Nat => [(8, .d (.int .i64 x.1)), (7, .d (encL encRow 2 x.2.1))]) (fun x => [(1000, tapeB l x.2.2)]) (fun x => (0 ≤ x.1 ∧ x.1 ≤ n) ∧ RowsQ lk lt hk ht (n - x.1) x.2.1 ∧ TapeOk l x.2.2) (fun x => x.1.toNat) (v, [], b) ?_ (fun x hx => ?_) ⟨by simp only; rw [wn] at h2; omega, RowsQ.nil (by simp only; rw [wn] at h2; omega), h3⟩
    · conv => whnf
      repeat' first
        | (refine bc_true (by assumption) ?_; (conv => whnf))
        | (refine bc_false (by assumption) ?_; (conv => whnf))
        | (refine bc_intro (fun _ => ?_) (fun _ => ?_) <;> (conv => whnf))
        | (refine need_intro ?_ ?_; (conv => whnf))
        | (refine wk_refl ?_; (conv => whnf))
        | (refine draw_intro (by kernel_rfl) ?_; (conv => whnf))
        | (refine ord_intro (by kernel_rfl) ?_; (conv => whnf))
      all_goals first | exact trivial | exact DLe.nil | exact DLe.refl _
    · obtain ⟨i, o, c⟩ := x
      obtain ⟨hi, ho, hc⟩ := hx
      simp only at hi ho hc
      have hs : 0 < i → IntKind.i64.wrap (i - 1) = i - 1 := fun _ => wrap_of (by omega) (by omega)
      have he : emptyR lk lt hk ht = false := by assumption
      conv => whnf
      repeat' first
        | (refine call_some_if (keyIn_ex _) (fun _ => by first | exact .inl rfl | exact .inr ⟨rfl, rfl⟩) (need_intro ?_ ?_); rintro ⟨k, b⟩ ⟨h1, h2, h3⟩; (conv => whnf))
        | (refine call_some_if (value_ex _) (fun _ => by first | exact .inl rfl | exact .inr ⟨rfl, rfl⟩) (need_intro ?_ ?_); rintro ⟨v, b⟩ ⟨h1, h2⟩; (conv => whnf))
        | (refine call_intro (refPut_spec _ _ _) ?_ (by first | exact .inl rfl | exact .inr ⟨rfl, rfl⟩); (conv => whnf))
        | (refine NextVC.mk (i - 1, (putF o k v).1, b) ?_ ?_ ?_; (conv => whnf))
        | (refine bc_true (by assumption) ?_; (conv => whnf))
        | (refine bc_false (by assumption) ?_; (conv => whnf))
        | (refine bc_intro (fun _ => ?_) (fun _ => ?_) <;> (conv => whnf))
        | (refine need_intro ?_ ?_; (conv => whnf))
        | (refine wk_refl ?_; (conv => whnf))
        | (refine draw_intro (by kernel_rfl) ?_; (conv => whnf))
        | (refine ord_intro (by kernel_rfl) ?_; (conv => whnf))
      all_goals try simp only [decide_eq_true_eq, decide_eq_false_iff_not, beq_iff_eq, beq_eq_false_iff_ne, letterS_len] at *
      all_goals try first
        | assumption
        | exact ⟨by assumption, by omega, by omega⟩
        | exact ⟨by omega, by omega, by omega⟩
        | exact ⟨by omega, by omega⟩
      all_goals first
        | exact trivial
        | omega
        | exact DLe.refl _
        | exact DLe.of_eq (by rw [hs (by omega)])
        | exact ⟨by assumption, by assumption⟩
        | (refine ⟨⟨by omega, by omega⟩, ?_, by assumption⟩
           have := ho.put (k := k) (v := v) (by assumption)
           rw [show n - i + 1 = n - (i - 1) by omega] at this
           exact this)
        | (have e : i = 0 := by omega
           subst e
           rw [Int.sub_zero] at ho
           exact ⟨(_, _), ⟨ho, by assumption⟩, LeS.refl _, LeL.refl _, trivial⟩)
        | trace_state
  · exact ⟨h, by rw [wn]; omega, by rw [wn]; omega⟩
theorem rowsIn_ex (m : Nat) {l : List Int} {a : Nat} {lk : List UInt8} {lt : Bool} {hk : List UInt8} {ht : Bool} {n : Int} : (TapeOk l a ∧ 0 ≤ n ∧ n ≤ 1000) → ∃ x : List Row × Nat, (RowsQ lk lt hk ht n x.1 ∧ TapeOk l x.2) ∧
    Sx.Spec Tryd.prog GG 8 [.ptr m 0, .agg [.d (.str lk), .d (.bool lt), .d (.str hk), .d (.bool ht)], .d (.int .i64 n)] [(m, tapeB l a)] (.d (encL encRow 2 x.1)) [(m, tapeB l x.2)] := fun h => by
  obtain ⟨x, hx, hs⟩ := rowsIn0 h
  exact ⟨x, hx, hs.at m⟩
theorem rows0 {l : List Int} {a : Nat} {n : Int} : (TapeOk l a ∧ 0 ≤ n ∧ n ≤ 1000) → ∃ x : List Row × Nat, ((TabOk x.1 ∧ (x.1.length : Int) ≤ n) ∧ TapeOk l x.2) ∧
    Sx.Spec Tryd.prog GG 6 [.ptr 1000 0, .d (.int .i64 n)] [(1000, tapeB l a)] (.d (encL encRow 2 x.1)) [(1000, tapeB l x.2)] := by
  rintro ⟨h, hn⟩
  refine spec_some (E := EE) (fn := Tryd.f6) _ _ _ false eok (by kernel_rfl) (by kernel_rfl) Tryd.call6 (by kernel_rfl) (fun _ => by kernel_rfl) (fun _ => by kernel_rfl) ?_
  conv => whnf
  repeat' first
    | (refine call_intro (all_spec) ?_ (by first | exact .inl rfl | exact .inr ⟨rfl, rfl⟩); (conv => whnf))
    | (refine call_some_if (rowsIn_ex _) (fun _ => by first | exact .inl rfl | exact .inr ⟨rfl, rfl⟩) (need_intro ?_ ?_); rintro ⟨o, b⟩ ⟨h1, h2⟩; (conv => whnf))
    | (refine bc_true (by assumption) ?_; (conv => whnf))
    | (refine bc_false (by assumption) ?_; (conv => whnf))
    | (refine bc_intro (fun _ => ?_) (fun _ => ?_) <;> (conv => whnf))
    | (refine need_intro ?_ ?_; (conv => whnf))
    | (refine wk_refl ?_; (conv => whnf))
    | (refine draw_intro (by kernel_rfl) ?_; (conv => whnf))
    | (refine ord_intro (by kernel_rfl) ?_; (conv => whnf))
  · exact ⟨(_, _), ⟨⟨h1.ok, h1.len⟩, h2⟩, LeS.refl _, LeL.refl _, trivial⟩
  · exact ⟨h, hn⟩
theorem rows_ex (m : Nat) {l : List Int} {a : Nat} {n : Int} : (TapeOk l a ∧ 0 ≤ n ∧ n ≤ 1000) → ∃ x : List Row × Nat, ((TabOk x.1 ∧ (x.1.length : Int) ≤ n) ∧ TapeOk l x.2) ∧
    Sx.Spec Tryd.prog GG 6 [.ptr m 0, .d (.int .i64 n)] [(m, tapeB l a)] (.d (encL encRow 2 x.1)) [(m, tapeB l x.2)] := fun h => by
  obtain ⟨x, hx, hs⟩ := rows0 h
  exact ⟨x, hx, hs.at m⟩
/-- a new tape -/
theorem new_ex (m : Nat) {l : List Int} (hl : ∀ x ∈ l, -9223372036854775808 ≤ x ∧ x < 9223372036854775808) : ∃ x : List Int × Nat, TapeOk x.1 x.2 ∧
    Sx.Spec Tryd.prog GG 5 [.d (encL encI 1 l)] [] (.ptr m 0) [(m, tapeB x.1 x.2)] := by
  have key : ∃ x : List Int × Nat, TapeOk x.1 x.2 ∧ Sx.Spec Tryd.prog GG 5 [.d (encL encI 1 l)] [] (.ptr 1000 0) [(1000, tapeB x.1 x.2)] := by
    refine spec_some (E := EE) (fn := Tryd.f5) _ _ _ true eok (by kernel_rfl) (by kernel_rfl) Tryd.call5 (by kernel_rfl) (fun _ => by kernel_rfl) (fun _ => by kernel_rfl) ?_
    conv => whnf
    repeat' first
      | (refine bc_true (by assumption) ?_; (conv => whnf))
      | (refine bc_false (by assumption) ?_; (conv => whnf))
      | (refine bc_intro (fun _ => ?_) (fun _ => ?_) <;> (conv => whnf))
      | (refine need_intro ?_ ?_; (conv => whnf))
      | (refine wk_refl ?_; (conv => whnf))
      | (refine draw_intro (by kernel_rfl) ?_; (conv => whnf))
      | (refine ord_intro (by kernel_rfl) ?_; (conv => whnf))
    all_goals simp only [decide_eq_true_eq, decide_eq_false_iff_not] at *
    · refine ⟨(l.take 600, 0), ⟨by simp; omega, by simp, fun x hx => hl x (List.mem_of_mem_take hx)⟩, ?_⟩
      conv => whnf
      repeat' first
        | (refine bc_true (by assumption) ?_; (conv => whnf))
        | (refine bc_false (by assumption) ?_; (conv => whnf))
        | (refine bc_intro (fun _ => ?_) (fun _ => ?_) <;> (conv => whnf))
        | (refine need_intro ?_ ?_; (conv => whnf))
        | (refine wk_refl ?_; (conv => whnf))
        | (refine draw_intro (by kernel_rfl) ?_; (conv => whnf))
        | (refine ord_intro (by kernel_rfl) ?_; (conv => whnf))
      all_goals first
        | exact trivial
        | exact DLe.refl _
        | (refine DLe.rows (by simp; omega) (.of_eq fun i j hi hj => ?_)
           have hi : i < 600 := by simp at hi; omega
           simp [cellOf, List.getD, List.getElem?_take, hi])
    · simp
      omega
    · refine ⟨(l, 0), ⟨by simp only; omega, by simp, hl⟩, ?_⟩
      conv => whnf
      repeat' first
        | (refine bc_true (by assumption) ?_; (conv => whnf))
        | (refine bc_false (by assumption) ?_; (conv => whnf))
        | (refine bc_intro (fun _ => ?_) (fun _ => ?_) <;> (conv => whnf))
        | (refine need_intro ?_ ?_; (conv => whnf))
        | (refine wk_refl ?_; (conv => whnf))
        | (refine draw_intro (by kernel_rfl) ?_; (conv => whnf))
        | (refine ord_intro (by kernel_rfl) ?_; (conv => whnf))
      all_goals first
        | exact trivial
        | exact DLe.refl _
  obtain ⟨x, hx, hs⟩ := key
  exact ⟨x, hx, hs.new1 m⟩
theorem ex_rows {l : List Int} {b n N : Nat} {g : Nat → Nat → D} {o : List (Nat × Blk)} (hT : TapeOk l b) (hn : n ≤ N) (ho : lookO o 1000 = some (tapeB l b)) (h : ∀ i, i < n → ∃ k v, g i 0 = .str k ∧ g i 1 = .str v) :
    ∃ x : List Row × Nat, (x.1.length ≤ N ∧ TapeOk l x.2) ∧ Fin (.d (.list n 2 g)) o (.d (encL encRow 2 x.1)) [(1000, tapeB l x.2)] := by
  obtain ⟨xs, e1, e2⟩ := rows_of h
  refine ⟨(xs, b), ⟨by simp only; omega, hT⟩, e2, ?_⟩
  simp only [postK, ho]
  exact ⟨LeL.refl _, trivial⟩
/-- a list of rows that is no table in most cases -/
theorem oddRows0 {l : List Int} {a : Nat} {rows : List Row} : (TapeOk l a ∧ rows.length ≤ 2000) → ∃ x : List Row × Nat, (x.1.length ≤ rows.length + 1 ∧ TapeOk l x.2) ∧
    Sx.Spec Tryd.prog GG 10 [.ptr 1000 0, .d (encL encRow 2 rows)] [(1000, tapeB l a)] (.d (encL encRow 2 x.1)) [(1000, tapeB l x.2)] := by
  rintro ⟨h, hr⟩
  refine spec_some (E := EE) (fn := Tryd.f10) _ _ _ false eok (by kernel_rfl) (by kernel_rfl) Tryd.call10 (by kernel_rfl) (fun _ => by kernel_rfl) (fun _ => by kernel_rfl) ?_
  conv => whnf
  repeat' first
    | (refine call_some_if (bool_ex _) (fun _ => by first | exact .inl rfl | exact .inr ⟨rfl, rfl⟩) (need_intro ?_ ?_); rintro ⟨v, b⟩ h1; (conv => whnf))
    | (refine call_some_if (next_ex _) (fun _ => by first | exact .inl rfl | exact .inr ⟨rfl, rfl⟩) (need_intro ?_ ?_); rintro ⟨v, b⟩ ⟨⟨h1, h2⟩, h3⟩; (conv => whnf))
    | (refine call_some_if (row_ex _) (fun _ => by first | exact .inl rfl | exact .inr ⟨rfl, rfl⟩) (need_intro ?_ ?_); rintro ⟨k, v, b⟩ ⟨h1, h2, h3⟩; (conv => whnf))
    | (refine bc_true (by assumption) ?_; (conv => whnf))
    | (refine bc_false (by assumption) ?_; (conv => whnf))
    | (refine bc_intro (fun _ => ?_) (fun _ => ?_) <;> (conv => whnf))
    | (refine need_intro ?_ ?_; (conv => whnf))
    | (refine wk_refl ?_; (conv => whnf))
    | (refine draw_intro (by kernel_rfl) ?_; (conv => whnf))
    | (refine ord_intro (by kernel_rfl) ?_; (conv => whnf))
  all_goals try simp only [decide_eq_true_eq, decide_eq_false_iff_not, cellsRow, bytesRow, Int.toNat_natCast] at *
  all_goals try rw [show IntKind.i64.wrap ((rows.length : Int) - 1) = rows.length - 1 from wrap_of (by omega) (by omega)] at *
  all_goals first
    | omega
    | exact ⟨by omega, by omega⟩
    | exact ⟨trivial, by omega, by omega⟩
    | exact ⟨by omega, by omega, by omega⟩
    | exact ⟨by assumption, by omega, by omega⟩
    | assumption
    | (rw [wrap_of (n := v + 1) (by omega) (by omega)]; first | omega | exact ⟨by omega, by omega⟩)
    | (refine ex_rows (by assumption) (by omega) rfl (fun i hi => ?_)
       simp only [tabF, Nat.lt_irrefl, Nat.not_lt_zero, Nat.zero_add, if_false, List.length_cons, List.length_nil, Nat.reduceAdd, Nat.reduceLT, if_true, Nat.sub_zero, List.getD_cons_zero, List.getD_cons_succ, Nat.reduceSub]
       first
         | exact ⟨_, _, rfl, rfl⟩
         | (split <;> first | exact ⟨_, _, rfl, rfl⟩ | (split <;> first | exact ⟨_, _, rfl, rfl⟩ | (split <;> exact ⟨_, _, rfl, rfl⟩))))
    | trace_state
theorem oddRows_ex (m : Nat) {l : List Int} {a : Nat} {rows : List Row} : (TapeOk l a ∧ rows.length ≤ 2000) → ∃ x : List Row × Nat, (x.1.length ≤ rows.length + 1 ∧ TapeOk l x.2) ∧
    Sx.Spec Tryd.prog GG 10 [.ptr m 0, .d (encL encRow 2 rows)] [(m, tapeB l a)] (.d (encL encRow 2 x.1)) [(m, tapeB l x.2)] := fun h => by
  obtain ⟨x, hx, hs⟩ := oddRows0 h
  exact ⟨x, hx, hs.at m⟩
end Go.Proofs.YtfjiffbacallhaaDoor
