/- Contracts of functions that the law reaches: YtngdpchhogfhfaaGreatDoorInter. Written for this claim. -/
import Derived.Test.YtngdpchhogfhfaaGreatDoorBase
import Derived.Test.YtngdpchhogfhfaaGreatDoorSxTab
namespace Go.Proofs.YtngdpchhogfhfaaGreatDoor
open Go Go.Sx Go.ChangeShapes Go.WideShapes Go.ChangeAt Go.RowKit
set_option linter.unusedVariables false
set_option linter.unusedSimpArgs false
set_option maxRecDepth 100000
theorem greater_spec (ak : List UInt8) (a : Bool) (bk : List UInt8) (b : Bool) : Sx.Spec Tryz.prog GG 147 [.agg [.d (.str ak), .d (.bool a)], .agg [.d (.str bk), .d (.bool b)]] [] (.agg [.d (.str (maxB (ak, a) (bk, b)).1), .d (.bool (maxB (ak, a) (bk, b)).2)]) [] := by
  have hn := cmp_neg (ak, a) (bk, b)
  simp only [cmpBB] at hn
  refine spec_intro (E := EE) (fn := Tryz.f147) eok (by kernel_rfl) (by kernel_rfl) Tryz.call147 (by kernel_rfl) (by kernel_rfl) ?_
  conv => whnf
  repeat' first
    | (refine call_intro (comparep_spec _ _ _ _) ?_ (by first | exact .inl rfl | exact .inr ⟨rfl, rfl⟩); (conv => whnf))
    | (refine bc_true (by assumption) ?_; (conv => whnf))
    | (refine bc_false (by assumption) ?_; (conv => whnf))
    | (refine bc_intro (fun _ => ?_) (fun _ => ?_) <;> (conv => whnf))
    | (refine need_intro ?_ ?_; (conv => whnf))
    | (refine wk_refl ?_; (conv => whnf))
    | (refine draw_intro (by kernel_rfl) ?_; (conv => whnf))
    | (refine ord_intro (by kernel_rfl) ?_; (conv => whnf))
  all_goals try simp only [decide_eq_true_eq, decide_eq_false_iff_not] at *
  all_goals first
    | (have e : maxB (ak, a) (bk, b) = (bk, b) := by
         unfold maxB; simp only [cmpBB]; exact if_pos (by omega)
       rw [e]; exact ⟨LeS.refl _, trivial⟩)
    | (have e : maxB (ak, a) (bk, b) = (ak, a) := by
         unfold maxB; simp only [cmpBB]; exact if_neg (by omega)
       rw [e]; exact ⟨LeS.refl _, trivial⟩)
    | trace_state
theorem lesser_spec (ak : List UInt8) (a : Bool) (bk : List UInt8) (b : Bool) : Sx.Spec Tryz.prog GG 148 [.agg [.d (.str ak), .d (.bool a)], .agg [.d (.str bk), .d (.bool b)]] [] (.agg [.d (.str (minB (ak, a) (bk, b)).1), .d (.bool (minB (ak, a) (bk, b)).2)]) [] := by
  have hn := cmp_neg (ak, a) (bk, b)
  simp only [cmpBB] at hn
  refine spec_intro (E := EE) (fn := Tryz.f148) eok (by kernel_rfl) (by kernel_rfl) Tryz.call148 (by kernel_rfl) (by kernel_rfl) ?_
  conv => whnf
  repeat' first
    | (refine call_intro (comparep_spec _ _ _ _) ?_ (by first | exact .inl rfl | exact .inr ⟨rfl, rfl⟩); (conv => whnf))
    | (refine bc_true (by assumption) ?_; (conv => whnf))
    | (refine bc_false (by assumption) ?_; (conv => whnf))
    | (refine bc_intro (fun _ => ?_) (fun _ => ?_) <;> (conv => whnf))
    | (refine need_intro ?_ ?_; (conv => whnf))
    | (refine wk_refl ?_; (conv => whnf))
    | (refine draw_intro (by kernel_rfl) ?_; (conv => whnf))
    | (refine ord_intro (by kernel_rfl) ?_; (conv => whnf))
  all_goals try simp only [decide_eq_true_eq, decide_eq_false_iff_not] at *
  all_goals first
    | (have e : minB (ak, a) (bk, b) = (bk, b) := by
         unfold minB; simp only [cmpBB]; exact if_pos (by omega)
       rw [e]; exact ⟨LeS.refl _, trivial⟩)
    | (have e : minB (ak, a) (bk, b) = (ak, a) := by
         unfold minB; simp only [cmpBB]; exact if_neg (by omega)
       rw [e]; exact ⟨LeS.refl _, trivial⟩)
    | trace_state
theorem greatest_spec (ak : List UInt8) (a : Bool) (bk : List UInt8) (b : Bool) : Sx.Spec Tryz.prog GG 128 [.agg [.d (.str ak), .d (.bool a)], .agg [.d (.str bk), .d (.bool b)]] [] (.agg [.d (.str (maxB (ak, a) (bk, b)).1), .d (.bool (maxB (ak, a) (bk, b)).2)]) [] := by
  have hn := cmp_neg (ak, a) (bk, b)
  simp only [cmpBB] at hn
  refine spec_intro (E := EE) (fn := Tryz.f128) eok (by kernel_rfl) (by kernel_rfl) Tryz.call128 (by kernel_rfl) (by kernel_rfl) ?_
  conv => whnf
  repeat' first
    | (refine call_intro (comparer_spec _ _ _ _) ?_ (by first | exact .inl rfl | exact .inr ⟨rfl, rfl⟩); (conv => whnf))
    | (refine bc_true (by assumption) ?_; (conv => whnf))
    | (refine bc_false (by assumption) ?_; (conv => whnf))
    | (refine bc_intro (fun _ => ?_) (fun _ => ?_) <;> (conv => whnf))
    | (refine need_intro ?_ ?_; (conv => whnf))
    | (refine wk_refl ?_; (conv => whnf))
    | (refine draw_intro (by kernel_rfl) ?_; (conv => whnf))
    | (refine ord_intro (by kernel_rfl) ?_; (conv => whnf))
  all_goals try simp only [decide_eq_true_eq, decide_eq_false_iff_not] at *
  all_goals first
    | (have e : maxB (ak, a) (bk, b) = (bk, b) := by
         unfold maxB; simp only [cmpBB]; exact if_pos (by omega)
       rw [e]; exact ⟨LeS.refl _, trivial⟩)
    | (have e : maxB (ak, a) (bk, b) = (ak, a) := by
         unfold maxB; simp only [cmpBB]; exact if_neg (by omega)
       rw [e]; exact ⟨LeS.refl _, trivial⟩)
    | trace_state
theorem least_spec (ak : List UInt8) (a : Bool) (bk : List UInt8) (b : Bool) : Sx.Spec Tryz.prog GG 129 [.agg [.d (.str ak), .d (.bool a)], .agg [.d (.str bk), .d (.bool b)]] [] (.agg [.d (.str (minB (ak, a) (bk, b)).1), .d (.bool (minB (ak, a) (bk, b)).2)]) [] := by
  have hn := cmp_neg (ak, a) (bk, b)
  simp only [cmpBB] at hn
  refine spec_intro (E := EE) (fn := Tryz.f129) eok (by kernel_rfl) (by kernel_rfl) Tryz.call129 (by kernel_rfl) (by kernel_rfl) ?_
  conv => whnf
  repeat' first
    | (refine call_intro (comparer_spec _ _ _ _) ?_ (by first | exact .inl rfl | exact .inr ⟨rfl, rfl⟩); (conv => whnf))
    | (refine bc_true (by assumption) ?_; (conv => whnf))
    | (refine bc_false (by assumption) ?_; (conv => whnf))
    | (refine bc_intro (fun _ => ?_) (fun _ => ?_) <;> (conv => whnf))
    | (refine need_intro ?_ ?_; (conv => whnf))
    | (refine wk_refl ?_; (conv => whnf))
    | (refine draw_intro (by kernel_rfl) ?_; (conv => whnf))
    | (refine ord_intro (by kernel_rfl) ?_; (conv => whnf))
  all_goals try simp only [decide_eq_true_eq, decide_eq_false_iff_not] at *
  all_goals first
    | (have e : minB (ak, a) (bk, b) = (bk, b) := by
         unfold minB; simp only [cmpBB]; exact if_pos (by omega)
       rw [e]; exact ⟨LeS.refl _, trivial⟩)
    | (have e : minB (ak, a) (bk, b) = (ak, a) := by
         unfold minB; simp only [cmpBB]; exact if_neg (by omega)
       rw [e]; exact ⟨LeS.refl _, trivial⟩)
    | trace_state
abbrev rngL (r : Rng) : List SV := [.d (.str r.1), .d (.bool r.2.1), .d (.str r.2.2.1), .d (.bool r.2.2.2)]
theorem proper_spec (lk : List UInt8) (lt : Bool) (hk : List UInt8) (ht : Bool) : Sx.Spec Tryz.prog GG 127 [.agg [.d (.str lk), .d (.bool lt), .d (.str hk), .d (.bool ht)]] [] (.agg (rngL (if emptyR lk lt hk ht then zeroR else (lk, lt, hk, ht)))) [] := by
  refine spec_intro (E := EE) (fn := Tryz.f127) eok (by kernel_rfl) (by kernel_rfl) Tryz.call127 (by kernel_rfl) (by kernel_rfl) ?_
  conv => whnf
  repeat' first
    | (refine call_intro (emptyRr_spec _ _ _ _) ?_ (by first | exact .inl rfl | exact .inr ⟨rfl, rfl⟩); (conv => whnf))
    | (refine bc_true (by assumption) ?_; (conv => whnf))
    | (refine bc_false (by assumption) ?_; (conv => whnf))
    | (refine bc_intro (fun _ => ?_) (fun _ => ?_) <;> (conv => whnf))
    | (refine need_intro ?_ ?_; (conv => whnf))
    | (refine wk_refl ?_; (conv => whnf))
    | (refine draw_intro (by kernel_rfl) ?_; (conv => whnf))
    | (refine ord_intro (by kernel_rfl) ?_; (conv => whnf))
  all_goals simp only [*, if_true, if_false, Bool.false_eq_true]
  all_goals exact ⟨LeS.refl _, trivial⟩
theorem interp_spec (lk : List UInt8) (lt : Bool) (hk : List UInt8) (ht : Bool) (lk2 : List UInt8) (lt2 : Bool) (hk2 : List UInt8) (ht2 : Bool) : Sx.Spec Tryz.prog GG 135 [.agg [.d (.str lk), .d (.bool lt), .d (.str hk), .d (.bool ht)], .agg [.d (.str lk2), .d (.bool lt2), .d (.str hk2), .d (.bool ht2)]] [] (.agg (rngL (interR (lk, lt, hk, ht) (lk2, lt2, hk2, ht2)))) [] := by
  refine spec_intro (E := EE) (fn := Tryz.f135) eok (by kernel_rfl) (by kernel_rfl) Tryz.call135 (by kernel_rfl) (by kernel_rfl) ?_
  conv => whnf
  repeat' first
    | (refine call_intro (greater_spec _ _ _ _) ?_ (by first | exact .inl rfl | exact .inr ⟨rfl, rfl⟩); (conv => whnf))
    | (refine call_intro (lesser_spec _ _ _ _) ?_ (by first | exact .inl rfl | exact .inr ⟨rfl, rfl⟩); (conv => whnf))
    | (refine call_intro (emptyRp_spec _ _ _ _) ?_ (by first | exact .inl rfl | exact .inr ⟨rfl, rfl⟩); (conv => whnf))
    | (refine call_intro (proper_spec _ _ _ _) ?_ (by first | exact .inl rfl | exact .inr ⟨rfl, rfl⟩); (conv => whnf))
    | (refine bc_true (by assumption) ?_; (conv => whnf))
    | (refine bc_false (by assumption) ?_; (conv => whnf))
    | (refine bc_intro (fun _ => ?_) (fun _ => ?_) <;> (conv => whnf))
    | (refine need_intro ?_ ?_; (conv => whnf))
    | (refine wk_refl ?_; (conv => whnf))
    | (refine draw_intro (by kernel_rfl) ?_; (conv => whnf))
    | (refine ord_intro (by kernel_rfl) ?_; (conv => whnf))
  all_goals first
    | (have e : interR (lk, lt, hk, ht) (lk2, lt2, hk2, ht2) = zeroR := by
         simp only [interR, emptyR', meetR, *, Bool.true_or, Bool.or_true, Bool.false_or, Bool.or_false, if_true]
       rw [e]; exact ⟨LeS.refl _, trivial⟩)
    | (have e : interR (lk, lt, hk, ht) (lk2, lt2, hk2, ht2) = meetR (lk, lt, hk, ht) (lk2, lt2, hk2, ht2) := by
         simp only [interR, emptyR', meetR, *, Bool.or_self, Bool.false_eq_true, if_false]
       rw [e]; exact ⟨LeS.refl _, trivial⟩)
    | (have e : interR (lk, lt, hk, ht) (lk2, lt2, hk2, ht2) = if emptyR' (meetR (lk, lt, hk, ht) (lk2, lt2, hk2, ht2)) then zeroR else meetR (lk, lt, hk, ht) (lk2, lt2, hk2, ht2) := by
         have h1 : emptyR' (lk, lt, hk, ht) = false := by assumption
         have h2 : emptyR' (lk2, lt2, hk2, ht2) = false := by assumption
         unfold interR
         rw [h1, h2]; rfl
       rw [e]; exact ⟨LeS.refl _, trivial⟩)
    | trace_state
theorem interr_spec (lk : List UInt8) (lt : Bool) (hk : List UInt8) (ht : Bool) (lk2 : List UInt8) (lt2 : Bool) (hk2 : List UInt8) (ht2 : Bool) : Sx.Spec Tryz.prog GG 105 [.agg [.d (.str lk), .d (.bool lt), .d (.str hk), .d (.bool ht)], .agg [.d (.str lk2), .d (.bool lt2), .d (.str hk2), .d (.bool ht2)]] [] (.agg (rngL (interR (lk, lt, hk, ht) (lk2, lt2, hk2, ht2)))) [] := by
  refine spec_intro (E := EE) (fn := Tryz.f105) eok (by kernel_rfl) (by kernel_rfl) Tryz.call105 (by kernel_rfl) (by kernel_rfl) ?_
  conv => whnf
  repeat' first
    | (refine call_intro (greatest_spec _ _ _ _) ?_ (by first | exact .inl rfl | exact .inr ⟨rfl, rfl⟩); (conv => whnf))
    | (refine call_intro (least_spec _ _ _ _) ?_ (by first | exact .inl rfl | exact .inr ⟨rfl, rfl⟩); (conv => whnf))
    | (refine call_intro (emptyRr_spec _ _ _ _) ?_ (by first | exact .inl rfl | exact .inr ⟨rfl, rfl⟩); (conv => whnf))
    | (refine call_intro (proper_spec _ _ _ _) ?_ (by first | exact .inl rfl | exact .inr ⟨rfl, rfl⟩); (conv => whnf))
    | (refine bc_true (by assumption) ?_; (conv => whnf))
    | (refine bc_false (by assumption) ?_; (conv => whnf))
    | (refine bc_intro (fun _ => ?_) (fun _ => ?_) <;> (conv => whnf))
    | (refine need_intro ?_ ?_; (conv => whnf))
    | (refine wk_refl ?_; (conv => whnf))
    | (refine draw_intro (by kernel_rfl) ?_; (conv => whnf))
    | (refine ord_intro (by kernel_rfl) ?_; (conv => whnf))
  all_goals first
    | (have e : interR (lk, lt, hk, ht) (lk2, lt2, hk2, ht2) = zeroR := by
         simp only [interR, emptyR', meetR, *, Bool.true_or, Bool.or_true, Bool.false_or, Bool.or_false, if_true]
       rw [e]; exact ⟨LeS.refl _, trivial⟩)
    | (have e : interR (lk, lt, hk, ht) (lk2, lt2, hk2, ht2) = meetR (lk, lt, hk, ht) (lk2, lt2, hk2, ht2) := by
         simp only [interR, emptyR', meetR, *, Bool.or_self, Bool.false_eq_true, if_false]
       rw [e]; exact ⟨LeS.refl _, trivial⟩)
    | (have e : interR (lk, lt, hk, ht) (lk2, lt2, hk2, ht2) = if emptyR' (meetR (lk, lt, hk, ht) (lk2, lt2, hk2, ht2)) then zeroR else meetR (lk, lt, hk, ht) (lk2, lt2, hk2, ht2) := by
         have h1 : emptyR' (lk, lt, hk, ht) = false := by assumption
         have h2 : emptyR' (lk2, lt2, hk2, ht2) = false := by assumption
         unfold interR
         rw [h1, h2]; rfl
       rw [e]; exact ⟨LeS.refl _, trivial⟩)
    | trace_state
theorem numberedp_spec (n : Int) : Sx.Spec Tryz.prog GG 89 [.d (.int .i64 n)] [] (.d (.bool (numOk n))) [] := by
  refine spec_intro (E := EE) (fn := Tryz.f89) eok (by kernel_rfl) (by kernel_rfl) Tryz.call89 (by kernel_rfl) (by kernel_rfl) ?_
  conv => whnf
  repeat' first
    | (refine bc_true (by assumption) ?_; (conv => whnf))
    | (refine bc_false (by assumption) ?_; (conv => whnf))
    | (refine bc_intro (fun _ => ?_) (fun _ => ?_) <;> (conv => whnf))
    | (refine need_intro ?_ ?_; (conv => whnf))
    | (refine wk_refl ?_; (conv => whnf))
    | (refine draw_intro (by kernel_rfl) ?_; (conv => whnf))
    | (refine ord_intro (by kernel_rfl) ?_; (conv => whnf))
  all_goals exact ⟨LeS.of_eq (by first | (simp_all [numOk]; done) | (simp_all [numOk]; omega)), trivial⟩
theorem numberr_spec (n : Int) : Sx.Spec Tryz.prog GG 73 [.d (.int .i64 n)] [] (.d (.bool (numOk n))) [] := by
  refine spec_intro (E := EE) (fn := Tryz.f73) eok (by kernel_rfl) (by kernel_rfl) Tryz.call73 (by kernel_rfl) (by kernel_rfl) ?_
  conv => whnf
  repeat' first
    | (refine bc_true (by assumption) ?_; (conv => whnf))
    | (refine bc_false (by assumption) ?_; (conv => whnf))
    | (refine bc_intro (fun _ => ?_) (fun _ => ?_) <;> (conv => whnf))
    | (refine need_intro ?_ ?_; (conv => whnf))
    | (refine wk_refl ?_; (conv => whnf))
    | (refine draw_intro (by kernel_rfl) ?_; (conv => whnf))
    | (refine ord_intro (by kernel_rfl) ?_; (conv => whnf))
  all_goals exact ⟨LeS.of_eq (by first | (simp_all [numOk]; done) | (simp_all [numOk]; omega)), trivial⟩
theorem serialr_spec (n : Int) : Sx.Spec Tryz.prog GG 106 [.d (.int .i64 n)] [] (.d (.bool (serOk n))) [] := by
  refine spec_intro (E := EE) (fn := Tryz.f106) eok (by kernel_rfl) (by kernel_rfl) Tryz.call106 (by kernel_rfl) (by kernel_rfl) ?_
  conv => whnf
  repeat' first
    | (refine bc_true (by assumption) ?_; (conv => whnf))
    | (refine bc_false (by assumption) ?_; (conv => whnf))
    | (refine bc_intro (fun _ => ?_) (fun _ => ?_) <;> (conv => whnf))
    | (refine need_intro ?_ ?_; (conv => whnf))
    | (refine wk_refl ?_; (conv => whnf))
    | (refine draw_intro (by kernel_rfl) ?_; (conv => whnf))
    | (refine ord_intro (by kernel_rfl) ?_; (conv => whnf))
  all_goals exact ⟨LeS.of_eq (by first | (simp_all [serOk]; done) | (simp_all [serOk]; omega)), trivial⟩
theorem stampOkp_spec (e v : Int) : Sx.Spec Tryz.prog GG 115 [.agg [.d (.int .i64 e), .d (.int .i64 v)]] [] (.d (.bool (stampOk e v))) [] := by
  refine spec_intro (E := EE) (fn := Tryz.f115) eok (by kernel_rfl) (by kernel_rfl) Tryz.call115 (by kernel_rfl) (by kernel_rfl) ?_
  conv => whnf
  repeat' first
    | (refine bc_true (by assumption) ?_; (conv => whnf))
    | (refine bc_false (by assumption) ?_; (conv => whnf))
    | (refine bc_intro (fun _ => ?_) (fun _ => ?_) <;> (conv => whnf))
    | (refine need_intro ?_ ?_; (conv => whnf))
    | (refine wk_refl ?_; (conv => whnf))
    | (refine draw_intro (by kernel_rfl) ?_; (conv => whnf))
    | (refine ord_intro (by kernel_rfl) ?_; (conv => whnf))
  all_goals exact ⟨LeS.of_eq (by first | (simp_all [stampOk]; done) | (simp_all [stampOk]; omega)), trivial⟩
theorem stampOkr_spec (e v : Int) : Sx.Spec Tryz.prog GG 84 [.agg [.d (.int .i64 e), .d (.int .i64 v)]] [] (.d (.bool (stampOk e v))) [] := by
  refine spec_intro (E := EE) (fn := Tryz.f84) eok (by kernel_rfl) (by kernel_rfl) Tryz.call84 (by kernel_rfl) (by kernel_rfl) ?_
  conv => whnf
  repeat' first
    | (refine bc_true (by assumption) ?_; (conv => whnf))
    | (refine bc_false (by assumption) ?_; (conv => whnf))
    | (refine bc_intro (fun _ => ?_) (fun _ => ?_) <;> (conv => whnf))
    | (refine need_intro ?_ ?_; (conv => whnf))
    | (refine wk_refl ?_; (conv => whnf))
    | (refine draw_intro (by kernel_rfl) ?_; (conv => whnf))
    | (refine ord_intro (by kernel_rfl) ?_; (conv => whnf))
  all_goals exact ⟨LeS.of_eq (by first | (simp_all [stampOk]; done) | (simp_all [stampOk]; omega)), trivial⟩
theorem validRowp_spec (k v : List UInt8) : Sx.Spec Tryz.prog GG 146 [.agg [.d (.str k), .d (.str v)]] [] (.d (.bool (rowOk (k, v)))) [] := by
  refine spec_intro (E := EE) (fn := Tryz.f146) eok (by kernel_rfl) (by kernel_rfl) Tryz.call146 (by kernel_rfl) (by kernel_rfl) ?_
  conv => whnf
  repeat' first
    | (refine call_intro (validKeyp_spec _) ?_ (by first | exact .inl rfl | exact .inr ⟨rfl, rfl⟩); (conv => whnf))
    | (refine bc_true (by assumption) ?_; (conv => whnf))
    | (refine bc_false (by assumption) ?_; (conv => whnf))
    | (refine bc_intro (fun _ => ?_) (fun _ => ?_) <;> (conv => whnf))
    | (refine need_intro ?_ ?_; (conv => whnf))
    | (refine wk_refl ?_; (conv => whnf))
    | (refine draw_intro (by kernel_rfl) ?_; (conv => whnf))
    | (refine ord_intro (by kernel_rfl) ?_; (conv => whnf))
  all_goals exact ⟨LeS.of_eq (by first | (simp_all [rowOk]; done) | (simp_all [rowOk]; omega) | (simp_all [rowOk]; intros; omega)), trivial⟩
theorem validTp_spec (rows : List Row) : Sx.Spec Tryz.prog GG 133 [.d (encL encRow 2 rows)] [] (.d (.bool (validT rows))) [] := by
  refine spec_intro (E := EE) (fn := Tryz.f133) eok (by kernel_rfl) (by kernel_rfl) Tryz.call133 (by kernel_rfl) (by kernel_rfl) ?_
  conv => whnf
  repeat' first
    | (refine bc_true (by assumption) ?_; (conv => whnf))
    | (refine bc_false (by assumption) ?_; (conv => whnf))
    | (refine bc_intro (fun _ => ?_) (fun _ => ?_) <;> (conv => whnf))
    | (refine need_intro ?_ ?_; (conv => whnf))
    | (refine wk_refl ?_; (conv => whnf))
    | (refine draw_intro (by kernel_rfl) ?_; (conv => whnf))
    | (refine ord_intro (by kernel_rfl) ?_; (conv => whnf))
  all_goals try simp only [decide_eq_true_eq, decide_eq_false_iff_not] at *
  · refine ⟨LeS.of_eq ?_, trivial⟩
    have : ¬ rows.length ≤ 1024 := by omega
    simp [validT, this]
  · refine loop_auto [0, 8, 9] [] (fun i : Nat => [(10, .d (.int .i64 i))]) (fun i => []) (fun i => i ≤ rows.length ∧ ∀ j, j < i → chkT rows j = true) (fun i => rows.length - i) 0 ?_ (fun i hx => ?_) ⟨Nat.zero_le _, fun j hj => absurd hj (Nat.not_lt_zero j)⟩
    · conv => whnf
      repeat' first
        | (refine bc_true (by assumption) ?_; (conv => whnf))
        | (refine bc_false (by assumption) ?_; (conv => whnf))
        | (refine bc_intro (fun _ => ?_) (fun _ => ?_) <;> (conv => whnf))
        | (refine need_intro ?_ ?_; (conv => whnf))
        | (refine wk_refl ?_; (conv => whnf))
        | (refine draw_intro (by kernel_rfl) ?_; (conv => whnf))
        | (refine ord_intro (by kernel_rfl) ?_; (conv => whnf))
      all_goals first | exact ⟨rfl, rfl⟩ | exact ⟨rfl, rfl, rfl⟩ | exact DLe.refl _ | exact RowLe.refl _ _ _ | exact trivial
    · obtain ⟨hi, hc⟩ := hx
      have hw : 0 < i → (IntKind.i64.wrap ((i : Int) - 1)).toNat = i - 1 := fun h => by rw [wrap_of (by omega) (by omega)]; omega
      have hs : IntKind.i64.wrap ((i : Int) + 1) = ((i + 1 : Nat) : Int) := wrap_succ (n := 1025) (by omega) (by omega)
      have hk : 0 < i → 0 ≤ IntKind.i64.wrap ((i : Int) - 1) ∧ IntKind.i64.wrap ((i : Int) - 1) < rows.length := fun h => by rw [wrap_of (by omega) (by omega)]; omega
      conv => whnf
      repeat' first
        | (refine call_intro (validRowp_spec _ _) ?_ (by first | exact .inl rfl | exact .inr ⟨rfl, rfl⟩); (conv => whnf))
        | (refine NextVC.mk (i + 1) ?_ ?_ ?_; (conv => whnf))
        | (refine bc_true (by assumption) ?_; (conv => whnf))
        | (refine bc_false (by assumption) ?_; (conv => whnf))
        | (refine bc_intro (fun _ => ?_) (fun _ => ?_) <;> (conv => whnf))
        | (refine need_intro ?_ ?_; (conv => whnf))
        | (refine wk_refl ?_; (conv => whnf))
        | (refine draw_intro (by kernel_rfl) ?_; (conv => whnf))
        | (refine ord_intro (by kernel_rfl) ?_; (conv => whnf))
      all_goals try simp only [decide_eq_true_eq, decide_eq_false_iff_not, Bool.not_eq_true', Bool.not_eq_false', Int.toNat_natCast] at *
      all_goals try rw [hw (by omega)] at *
      all_goals first
        | exact trivial
        | omega
        | exact DLe.refl _
        | exact DLe.of_eq (by rw [hs])
        | exact hk (by omega)
        | exact ⟨by omega, by omega⟩
        | (refine ⟨by omega, fun j hj => ?_⟩
           by_cases e : j = i
           · subst e
             have hz : (j : Int) > 0 ∨ j = 0 := by omega
             rcases hz with hz | rfl
             · have : (j == 0) = false := by simp; omega
               simp_all [chkT, rowOk]
             · simp_all [chkT, rowOk]
           · exact hc j (by omega))
        | (refine ⟨LeS.of_eq ?_, trivial⟩
           have e : i = rows.length := by omega
           subst e
           rw [validT_true (by omega) hc])
        | (refine ⟨LeS.of_eq ?_, trivial⟩
           rw [validT_false (i := i) (by omega)]
           have hz : (i : Int) > 0 ∨ i = 0 := by omega
           rcases hz with hz | rfl
           · have : (i == 0) = false := by simp; omega
             first | (simp_all [chkT, rowOk]; done) | (simp_all [chkT, rowOk]; intros; omega)
           · first | (simp_all [chkT, rowOk]; done) | (simp_all [chkT, rowOk]; intros; omega))
        | trace_state
theorem validWp_spec (k v : List UInt8) (d : Bool) : Sx.Spec Tryz.prog GG 117 [.agg [.d (.str k), .d (.str v), .d (.bool d)]] [] (.d (.bool (validW k v d))) [] := by
  refine spec_intro (E := EE) (fn := Tryz.f117) eok (by kernel_rfl) (by kernel_rfl) Tryz.call117 (by kernel_rfl) (by kernel_rfl) ?_
  conv => whnf
  repeat' first
    | (refine call_intro (validKeyp_spec _) ?_ (by first | exact .inl rfl | exact .inr ⟨rfl, rfl⟩); (conv => whnf))
    | (refine bc_true (by assumption) ?_; (conv => whnf))
    | (refine bc_false (by assumption) ?_; (conv => whnf))
    | (refine bc_intro (fun _ => ?_) (fun _ => ?_) <;> (conv => whnf))
    | (refine need_intro ?_ ?_; (conv => whnf))
    | (refine wk_refl ?_; (conv => whnf))
    | (refine draw_intro (by kernel_rfl) ?_; (conv => whnf))
    | (refine ord_intro (by kernel_rfl) ?_; (conv => whnf))
  all_goals exact ⟨LeS.of_eq (by first | (simp_all [validW]; done) | (simp_all [validW]; omega) | (simp_all [validW]; intros; omega)), trivial⟩
theorem validWr_spec (k v : List UInt8) (d : Bool) : Sx.Spec Tryz.prog GG 100 [.agg [.d (.str k), .d (.str v), .d (.bool d)]] [] (.d (.bool (validW k v d))) [] := by
  refine spec_intro (E := EE) (fn := Tryz.f100) eok (by kernel_rfl) (by kernel_rfl) Tryz.call100 (by kernel_rfl) (by kernel_rfl) ?_
  conv => whnf
  repeat' first
    | (refine call_intro (validKeyr_spec _) ?_ (by first | exact .inl rfl | exact .inr ⟨rfl, rfl⟩); (conv => whnf))
    | (refine bc_true (by assumption) ?_; (conv => whnf))
    | (refine bc_false (by assumption) ?_; (conv => whnf))
    | (refine bc_intro (fun _ => ?_) (fun _ => ?_) <;> (conv => whnf))
    | (refine need_intro ?_ ?_; (conv => whnf))
    | (refine wk_refl ?_; (conv => whnf))
    | (refine draw_intro (by kernel_rfl) ?_; (conv => whnf))
    | (refine ord_intro (by kernel_rfl) ?_; (conv => whnf))
  all_goals exact ⟨LeS.of_eq (by first | (simp_all [validW]; done) | (simp_all [validW]; omega) | (simp_all [validW]; intros; omega)), trivial⟩
theorem withinp_spec (lk : List UInt8) (lt : Bool) (hk : List UInt8) (ht : Bool) (rows : List Row) : rows.length ≤ 8796093022208 → Sx.Spec Tryz.prog GG 116 [.agg [.d (.str lk), .d (.bool lt), .d (.str hk), .d (.bool ht)], .d (encL encRow 2 rows)] [] (.d (.bool (withinF (lk, lt, hk, ht) rows))) [] := by
  intro hlen
  have hw := within_len (r := (lk, lt, hk, ht)) (rows := rows)
  simp only at hw
  refine spec_intro (E := EE) (fn := Tryz.f116) eok (by kernel_rfl) (by kernel_rfl) Tryz.call116 (by kernel_rfl) (by kernel_rfl) ?_
  conv => whnf
  repeat' first
    | (refine call_intro (validTp_spec _) ?_ (by first | exact .inl rfl | exact .inr ⟨rfl, rfl⟩); (conv => whnf))
    | (refine call_if (slicep_spec _ _ _ _ _) (by first | exact .inl rfl | exact .inr ⟨rfl, rfl⟩) (need_intro ?_ ?_); (conv => whnf))
    | (refine bc_true (by assumption) ?_; (conv => whnf))
    | (refine bc_false (by assumption) ?_; (conv => whnf))
    | (refine bc_intro (fun _ => ?_) (fun _ => ?_) <;> (conv => whnf))
    | (refine need_intro ?_ ?_; (conv => whnf))
    | (refine wk_refl ?_; (conv => whnf))
    | (refine draw_intro (by kernel_rfl) ?_; (conv => whnf))
    | (refine ord_intro (by kernel_rfl) ?_; (conv => whnf))
  all_goals first
    | omega
    | (have hv := validT_len (rows := rows) (by assumption)
       omega)
    | (have e : withinF (lk, lt, hk, ht) rows = false := by simp only [withinF, *, Bool.false_and]
       rw [e]; exact ⟨LeS.refl _, trivial⟩)
    | (refine ⟨LeS.of_eq ?_, trivial⟩
       simp only [withinF, hw]
       have hv : validT rows = true := by assumption
       rw [hv, Bool.true_and]
       congr 2
       rw [Bool.eq_iff_iff, beq_iff_eq, decide_eq_true_eq]
       omega)
    | trace_state
theorem withinr_spec (lk : List UInt8) (lt : Bool) (hk : List UInt8) (ht : Bool) (rows : List Row) : rows.length ≤ 8796093022208 → Sx.Spec Tryz.prog GG 86 [.d (encL encRow 2 rows), .agg [.d (.str lk), .d (.bool lt), .d (.str hk), .d (.bool ht)]] [] (.d (.bool (inAll (lk, lt, hk, ht) rows))) [] := by
  intro hlen
  refine spec_intro (E := EE) (fn := Tryz.f86) eok (by kernel_rfl) (by kernel_rfl) Tryz.call86 (by kernel_rfl) (by kernel_rfl) ?_
  conv => whnf
  repeat' first
    | (refine bc_true (by assumption) ?_; (conv => whnf))
    | (refine bc_false (by assumption) ?_; (conv => whnf))
    | (refine bc_intro (fun _ => ?_) (fun _ => ?_) <;> (conv => whnf))
    | (refine need_intro ?_ ?_; (conv => whnf))
    | (refine wk_refl ?_; (conv => whnf))
    | (refine draw_intro (by kernel_rfl) ?_; (conv => whnf))
    | (refine ord_intro (by kernel_rfl) ?_; (conv => whnf))
  refine loop_auto [3, 7, 8] [3] (fun i : Nat => [(9, .d (.int .i64 i))]) (fun i => []) (fun i => i ≤ rows.length ∧ ∀ j, j < i → hasR (lk, lt, hk, ht) (rows.getD j default).1 = true) (fun i => rows.length - i) 0 ?_ (fun i hx => ?_) ⟨Nat.zero_le _, fun j hj => absurd hj (Nat.not_lt_zero j)⟩
  · conv => whnf
    repeat' first
      | (refine bc_true (by assumption) ?_; (conv => whnf))
      | (refine bc_false (by assumption) ?_; (conv => whnf))
      | (refine bc_intro (fun _ => ?_) (fun _ => ?_) <;> (conv => whnf))
      | (refine need_intro ?_ ?_; (conv => whnf))
      | (refine wk_refl ?_; (conv => whnf))
      | (refine draw_intro (by kernel_rfl) ?_; (conv => whnf))
      | (refine ord_intro (by kernel_rfl) ?_; (conv => whnf))
    all_goals first | exact ⟨rfl, rfl⟩ | exact ⟨rfl, rfl, rfl⟩ | exact DLe.refl _ | exact RowLe.refl _ _ _ | exact trivial
  · obtain ⟨hi, hc⟩ := hx
    have hs : IntKind.i64.wrap ((i : Int) + 1) = ((i + 1 : Nat) : Int) := wrap_succ (n := 8796093022209) (by omega) (by omega)
    conv => whnf
    repeat' first
      | (refine call_intro (containsRr_spec _ _ _ _ _) ?_ (by first | exact .inl rfl | exact .inr ⟨rfl, rfl⟩); (conv => whnf))
      | (refine NextVC.mk (i + 1) ?_ ?_ ?_; (conv => whnf))
      | (refine bc_true (by assumption) ?_; (conv => whnf))
      | (refine bc_false (by assumption) ?_; (conv => whnf))
      | (refine bc_intro (fun _ => ?_) (fun _ => ?_) <;> (conv => whnf))
      | (refine need_intro ?_ ?_; (conv => whnf))
      | (refine wk_refl ?_; (conv => whnf))
      | (refine draw_intro (by kernel_rfl) ?_; (conv => whnf))
      | (refine ord_intro (by kernel_rfl) ?_; (conv => whnf))
    all_goals try simp only [decide_eq_true_eq, decide_eq_false_iff_not, Int.toNat_natCast, Bool.not_eq_true', Bool.not_eq_false'] at *
    all_goals first
      | exact trivial
      | omega
      | exact DLe.refl _
      | exact DLe.of_eq (by rw [hs])
      | exact ⟨by omega, by omega⟩
      | (refine ⟨by omega, fun j hj => ?_⟩
         by_cases e : j = i
         · subst e; assumption
         · exact hc j (by omega))
      | (unfold inAll; rw [all_false (l := rows) (i := i) (p := fun x => hasR (lk, lt, hk, ht) x.1) (by omega) (by assumption)]; exact ⟨LeS.refl _, trivial⟩)
      | (unfold inAll; rw [all_true (l := rows) (p := fun x => hasR (lk, lt, hk, ht) x.1) (fun j hj => hc j (by omega))]; exact ⟨LeS.refl _, trivial⟩)
      | trace_state
theorem validPartp_spec (p : PartT) : p.rows.length ≤ 8796093022208 → Sx.Spec Tryz.prog GG 134 [.agg (partL p)] [] (.d (.bool (validPart p))) [] := by
  intro hlen
  refine spec_intro (E := EE) (fn := Tryz.f134) eok (by kernel_rfl) (by kernel_rfl) Tryz.call134 (by kernel_rfl) (by kernel_rfl) ?_
  conv => whnf
  repeat' first
    | (refine call_intro (numberedp_spec _) ?_ (by first | exact .inl rfl | exact .inr ⟨rfl, rfl⟩); (conv => whnf))
    | (refine call_intro (emptyRp_spec _ _ _ _) ?_ (by first | exact .inl rfl | exact .inr ⟨rfl, rfl⟩); (conv => whnf))
    | (refine call_intro (stampOkp_spec _ _) ?_ (by first | exact .inl rfl | exact .inr ⟨rfl, rfl⟩); (conv => whnf))
    | (refine call_if (withinp_spec _ _ _ _ _) (by first | exact .inl rfl | exact .inr ⟨rfl, rfl⟩) (need_intro ?_ ?_); (conv => whnf))
    | (refine bc_true (by assumption) ?_; (conv => whnf))
    | (refine bc_false (by assumption) ?_; (conv => whnf))
    | (refine bc_intro (fun _ => ?_) (fun _ => ?_) <;> (conv => whnf))
    | (refine need_intro ?_ ?_; (conv => whnf))
    | (refine wk_refl ?_; (conv => whnf))
    | (refine draw_intro (by kernel_rfl) ?_; (conv => whnf))
    | (refine ord_intro (by kernel_rfl) ?_; (conv => whnf))
  all_goals first
    | omega
    | (refine ⟨LeS.of_eq ?_, trivial⟩
       first
         | (simp_all [validPart, serOk, emptyR', PartT.rng, withinF]; done)
         | (simp_all [validPart, serOk, emptyR', PartT.rng, withinF]; omega)
         | (simp_all [validPart, serOk, emptyR', PartT.rng, withinF]; intros; omega))
    | trace_state
theorem outsidep_spec (lk : List UInt8) (lt : Bool) (hk : List UInt8) (ht : Bool) (p : PartT) : p.rows.length ≤ 8796093022208 → Sx.Spec Tryz.prog GG 118 [.agg [.d (.str lk), .d (.bool lt), .d (.str hk), .d (.bool ht)], .agg (partL p)] [] (.d (.bool (outsideF (lk, lt, hk, ht) p))) [] := by
  intro hlen
  refine spec_intro (E := EE) (fn := Tryz.f118) eok (by kernel_rfl) (by kernel_rfl) Tryz.call118 (by kernel_rfl) (by kernel_rfl) ?_
  conv => whnf
  repeat' first
    | (refine call_if (validPartp_spec p) (by first | exact .inl rfl | exact .inr ⟨rfl, rfl⟩) (need_intro ?_ ?_); (conv => whnf))
    | (refine call_intro (interp_spec _ _ _ _ _ _ _ _) ?_ (by first | exact .inl rfl | exact .inr ⟨rfl, rfl⟩); (conv => whnf))
    | (refine call_intro (emptyRp_spec _ _ _ _) ?_ (by first | exact .inl rfl | exact .inr ⟨rfl, rfl⟩); (conv => whnf))
    | (refine bc_true (by assumption) ?_; (conv => whnf))
    | (refine bc_false (by assumption) ?_; (conv => whnf))
    | (refine bc_intro (fun _ => ?_) (fun _ => ?_) <;> (conv => whnf))
    | (refine need_intro ?_ ?_; (conv => whnf))
    | (refine wk_refl ?_; (conv => whnf))
    | (refine draw_intro (by kernel_rfl) ?_; (conv => whnf))
    | (refine ord_intro (by kernel_rfl) ?_; (conv => whnf))
  all_goals first
    | omega
    | (refine ⟨LeS.of_eq ?_, trivial⟩
       have hcm := interR_comm p.rng (lk, lt, hk, ht)
       simp_all [outsideF, emptyR', PartT.rng]
       done)
    | trace_state
theorem validPartr_spec (p : PartT) : p.rows.length ≤ 8796093022208 → Sx.Spec Tryz.prog GG 126 [.agg (partL p)] [] (.d (.bool (validPart p))) [] := by
  intro hlen
  refine spec_intro (E := EE) (fn := Tryz.f126) eok (by kernel_rfl) (by kernel_rfl) Tryz.call126 (by kernel_rfl) (by kernel_rfl) ?_
  conv => whnf
  repeat' first
    | (refine call_intro (numberr_spec _) ?_ (by first | exact .inl rfl | exact .inr ⟨rfl, rfl⟩); (conv => whnf))
    | (refine call_intro (serialr_spec _) ?_ (by first | exact .inl rfl | exact .inr ⟨rfl, rfl⟩); (conv => whnf))
    | (refine call_intro (emptyRr_spec _ _ _ _) ?_ (by first | exact .inl rfl | exact .inr ⟨rfl, rfl⟩); (conv => whnf))
    | (refine call_intro (stampOkr_spec _ _) ?_ (by first | exact .inl rfl | exact .inr ⟨rfl, rfl⟩); (conv => whnf))
    | (refine call_if (withinr_spec _ _ _ _ _) (by first | exact .inl rfl | exact .inr ⟨rfl, rfl⟩) (need_intro ?_ ?_); (conv => whnf))
    | (refine call_intro (validTr_spec _) ?_ (by first | exact .inl rfl | exact .inr ⟨rfl, rfl⟩); (conv => whnf))
    | (refine bc_true (by assumption) ?_; (conv => whnf))
    | (refine bc_false (by assumption) ?_; (conv => whnf))
    | (refine bc_intro (fun _ => ?_) (fun _ => ?_) <;> (conv => whnf))
    | (refine need_intro ?_ ?_; (conv => whnf))
    | (refine wk_refl ?_; (conv => whnf))
    | (refine draw_intro (by kernel_rfl) ?_; (conv => whnf))
    | (refine ord_intro (by kernel_rfl) ?_; (conv => whnf))
  all_goals first
    | omega
    | (refine ⟨LeS.of_eq ?_, trivial⟩
       first
         | (simp_all [validPart, serOk, emptyR', PartT.rng, withinF]; done)
         | (simp_all [validPart, serOk, emptyR', PartT.rng, withinF]; omega)
         | (simp_all [validPart, serOk, emptyR', PartT.rng, withinF]; intros; omega))
    | trace_state
theorem outsider_spec (lk : List UInt8) (lt : Bool) (hk : List UInt8) (ht : Bool) (p : PartT) : p.rows.length ≤ 8796093022208 → Sx.Spec Tryz.prog GG 104 [.agg (partL p), .agg [.d (.str lk), .d (.bool lt), .d (.str hk), .d (.bool ht)]] [] (.d (.bool (outsideF (lk, lt, hk, ht) p))) [] := by
  intro hlen
  refine spec_intro (E := EE) (fn := Tryz.f104) eok (by kernel_rfl) (by kernel_rfl) Tryz.call104 (by kernel_rfl) (by kernel_rfl) ?_
  conv => whnf
  repeat' first
    | (refine call_if (validPartr_spec p) (by first | exact .inl rfl | exact .inr ⟨rfl, rfl⟩) (need_intro ?_ ?_); (conv => whnf))
    | (refine call_intro (interr_spec _ _ _ _ _ _ _ _) ?_ (by first | exact .inl rfl | exact .inr ⟨rfl, rfl⟩); (conv => whnf))
    | (refine call_intro (emptyRr_spec _ _ _ _) ?_ (by first | exact .inl rfl | exact .inr ⟨rfl, rfl⟩); (conv => whnf))
    | (refine bc_true (by assumption) ?_; (conv => whnf))
    | (refine bc_false (by assumption) ?_; (conv => whnf))
    | (refine bc_intro (fun _ => ?_) (fun _ => ?_) <;> (conv => whnf))
    | (refine need_intro ?_ ?_; (conv => whnf))
    | (refine wk_refl ?_; (conv => whnf))
    | (refine draw_intro (by kernel_rfl) ?_; (conv => whnf))
    | (refine ord_intro (by kernel_rfl) ?_; (conv => whnf))
  all_goals first
    | omega
    | (refine ⟨LeS.of_eq ?_, trivial⟩
       have hcm := interR_comm p.rng (lk, lt, hk, ht)
       simp_all [outsideF, emptyR', PartT.rng]
       done)
    | trace_state
end Go.Proofs.YtngdpchhogfhfaaGreatDoor
