/- Contracts of functions that the law reaches: YtohenbaodklohaaDoorInter. Written for this claim. -/
import Derived.Test.YtohenbaodklohaaDoorBase
import Derived.Test.YtohenbaodklohaaDoorSxTab
namespace Go.Proofs.YtohenbaodklohaaDoor
open Go Go.Sx Go.ChangeShapes Go.WideShapes Go.ChangeAt Go.RowKit
set_option linter.unusedVariables false
set_option linter.unusedSimpArgs false
set_option maxRecDepth 100000

/-! the least and the greatest bound; what two ranges have in common -/
theorem greatest_spec (ak : List UInt8) (a : Bool) (bk : List UInt8) (b : Bool) : Sx.Spec Tryd.prog GG 96 [.agg [.d (.str ak), .d (.bool a)], .agg [.d (.str bk), .d (.bool b)]] [] (.agg [.d (.str (maxB (ak, a) (bk, b)).1), .d (.bool (maxB (ak, a) (bk, b)).2)]) [] := by
  have hn := cmp_neg (ak, a) (bk, b)
  simp only [cmpBB] at hn
  refine spec_intro (E := EE) (fn := Tryd.f96) eok (by kernel_rfl) (by kernel_rfl) Tryd.call96 (by kernel_rfl) (by kernel_rfl) ?_
  conv => whnf
  repeat' first
    | (refine call_intro (comparer_spec _ _ _ _) ?_ (by first | exact .inl rfl | exact .inr ⟨rfl, rfl⟩); (conv => whnf))
    | (refine bc_true (by assumption) ?_; (conv => whnf))
    | (refine bc_false (by assumption) ?_; (conv => whnf))
    | (refine bc_intro (fun _ => ?_) (fun _ => ?_) <;> (conv => whnf))
    | (refine need_intro ?_ ?_; (conv => whnf))
    | (refine wk_refl ?_; (conv => whnf))
    | (refine draw_intro (by kernel_rfl) ?_; (conv => whnf))
    | (refine ord_intro (by kernel_rfl) ?_; (conv => whnf))
  all_goals try simp only [decide_eq_true_eq, decide_eq_false_iff_not] at *
  all_goals first
    | (have e : maxB (ak, a) (bk, b) = (bk, b) := by
         unfold maxB; simp only [cmpBB]; exact if_pos (by omega)
       rw [e]; exact ⟨LeS.refl _, trivial⟩)
    | (have e : maxB (ak, a) (bk, b) = (ak, a) := by
         unfold maxB; simp only [cmpBB]; exact if_neg (by omega)
       rw [e]; exact ⟨LeS.refl _, trivial⟩)
    | trace_state
theorem least_spec (ak : List UInt8) (a : Bool) (bk : List UInt8) (b : Bool) : Sx.Spec Tryd.prog GG 97 [.agg [.d (.str ak), .d (.bool a)], .agg [.d (.str bk), .d (.bool b)]] [] (.agg [.d (.str (minB (ak, a) (bk, b)).1), .d (.bool (minB (ak, a) (bk, b)).2)]) [] := by
  have hn := cmp_neg (ak, a) (bk, b)
  simp only [cmpBB] at hn
  refine spec_intro (E := EE) (fn := Tryd.f97) eok (by kernel_rfl) (by kernel_rfl) Tryd.call97 (by kernel_rfl) (by kernel_rfl) ?_
  conv => whnf
  repeat' first
    | (refine call_intro (comparer_spec _ _ _ _) ?_ (by first | exact .inl rfl | exact .inr ⟨rfl, rfl⟩); (conv => whnf))
    | (refine bc_true (by assumption) ?_; (conv => whnf))
    | (refine bc_false (by assumption) ?_; (conv => whnf))
    | (refine bc_intro (fun _ => ?_) (fun _ => ?_) <;> (conv => whnf))
    | (refine need_intro ?_ ?_; (conv => whnf))
    | (refine wk_refl ?_; (conv => whnf))
    | (refine draw_intro (by kernel_rfl) ?_; (conv => whnf))
    | (refine ord_intro (by kernel_rfl) ?_; (conv => whnf))
  all_goals try simp only [decide_eq_true_eq, decide_eq_false_iff_not] at *
  all_goals first
    | (have e : minB (ak, a) (bk, b) = (bk, b) := by
         unfold minB; simp only [cmpBB]; exact if_pos (by omega)
       rw [e]; exact ⟨LeS.refl _, trivial⟩)
    | (have e : minB (ak, a) (bk, b) = (ak, a) := by
         unfold minB; simp only [cmpBB]; exact if_neg (by omega)
       rw [e]; exact ⟨LeS.refl _, trivial⟩)
    | trace_state
abbrev rngL (r : Rng) : List SV := [.d (.str r.1), .d (.bool r.2.1), .d (.str r.2.2.1), .d (.bool r.2.2.2)]
theorem proper_spec (lk : List UInt8) (lt : Bool) (hk : List UInt8) (ht : Bool) : Sx.Spec Tryd.prog GG 95 [.agg [.d (.str lk), .d (.bool lt), .d (.str hk), .d (.bool ht)]] [] (.agg (rngL (if emptyR lk lt hk ht then zeroR else (lk, lt, hk, ht)))) [] := by
  refine spec_intro (E := EE) (fn := Tryd.f95) eok (by kernel_rfl) (by kernel_rfl) Tryd.call95 (by kernel_rfl) (by kernel_rfl) ?_
  conv => whnf
  repeat' first
    | (refine call_intro (emptyRr_spec _ _ _ _) ?_ (by first | exact .inl rfl | exact .inr ⟨rfl, rfl⟩); (conv => whnf))
    | (refine bc_true (by assumption) ?_; (conv => whnf))
    | (refine bc_false (by assumption) ?_; (conv => whnf))
    | (refine bc_intro (fun _ => ?_) (fun _ => ?_) <;> (conv => whnf))
    | (refine need_intro ?_ ?_; (conv => whnf))
    | (refine wk_refl ?_; (conv => whnf))
    | (refine draw_intro (by kernel_rfl) ?_; (conv => whnf))
    | (refine ord_intro (by kernel_rfl) ?_; (conv => whnf))
  all_goals simp only [*, if_true, if_false, Bool.false_eq_true]
  all_goals exact ⟨LeS.refl _, trivial⟩
theorem interr_spec (lk : List UInt8) (lt : Bool) (hk : List UInt8) (ht : Bool) (lk2 : List UInt8) (lt2 : Bool) (hk2 : List UInt8) (ht2 : Bool) : Sx.Spec Tryd.prog GG 85 [.agg [.d (.str lk), .d (.bool lt), .d (.str hk), .d (.bool ht)], .agg [.d (.str lk2), .d (.bool lt2), .d (.str hk2), .d (.bool ht2)]] [] (.agg (rngL (interR (lk, lt, hk, ht) (lk2, lt2, hk2, ht2)))) [] := by
  refine spec_intro (E := EE) (fn := Tryd.f85) eok (by kernel_rfl) (by kernel_rfl) Tryd.call85 (by kernel_rfl) (by kernel_rfl) ?_
  conv => whnf
  repeat' first
    | (refine call_intro (greatest_spec _ _ _ _) ?_ (by first | exact .inl rfl | exact .inr ⟨rfl, rfl⟩); (conv => whnf))
    | (refine call_intro (least_spec _ _ _ _) ?_ (by first | exact .inl rfl | exact .inr ⟨rfl, rfl⟩); (conv => whnf))
    | (refine call_intro (emptyRr_spec _ _ _ _) ?_ (by first | exact .inl rfl | exact .inr ⟨rfl, rfl⟩); (conv => whnf))
    | (refine call_intro (proper_spec _ _ _ _) ?_ (by first | exact .inl rfl | exact .inr ⟨rfl, rfl⟩); (conv => whnf))
    | (refine bc_true (by assumption) ?_; (conv => whnf))
    | (refine bc_false (by assumption) ?_; (conv => whnf))
    | (refine bc_intro (fun _ => ?_) (fun _ => ?_) <;> (conv => whnf))
    | (refine need_intro ?_ ?_; (conv => whnf))
    | (refine wk_refl ?_; (conv => whnf))
    | (refine draw_intro (by kernel_rfl) ?_; (conv => whnf))
    | (refine ord_intro (by kernel_rfl) ?_; (conv => whnf))
  all_goals first
    | (have e : interR (lk, lt, hk, ht) (lk2, lt2, hk2, ht2) = zeroR := by
         simp only [interR, emptyR', meetR, *, Bool.true_or, Bool.or_true, Bool.false_or, Bool.or_false, if_true]
       rw [e]; exact ⟨LeS.refl _, trivial⟩)
    | (have e : interR (lk, lt, hk, ht) (lk2, lt2, hk2, ht2) = meetR (lk, lt, hk, ht) (lk2, lt2, hk2, ht2) := by
         simp only [interR, emptyR', meetR, *, Bool.or_self, Bool.false_eq_true, if_false]
       rw [e]; exact ⟨LeS.refl _, trivial⟩)
    | (have e : interR (lk, lt, hk, ht) (lk2, lt2, hk2, ht2) = if emptyR' (meetR (lk, lt, hk, ht) (lk2, lt2, hk2, ht2)) then zeroR else meetR (lk, lt, hk, ht) (lk2, lt2, hk2, ht2) := by
         have h1 : emptyR' (lk, lt, hk, ht) = false := by assumption
         have h2 : emptyR' (lk2, lt2, hk2, ht2) = false := by assumption
         unfold interR
         rw [h1, h2]; rfl
       rw [e]; exact ⟨LeS.refl _, trivial⟩)
    | trace_state

/-! numbers, stamps -/
theorem numberr_spec (n : Int) : Sx.Spec Tryd.prog GG 46 [.d (.int .i64 n)] [] (.d (.bool (numOk n))) [] := by
  refine spec_intro (E := EE) (fn := Tryd.f46) eok (by kernel_rfl) (by kernel_rfl) Tryd.call46 (by kernel_rfl) (by kernel_rfl) ?_
  conv => whnf
  repeat' first
    | (refine bc_true (by assumption) ?_; (conv => whnf))
    | (refine bc_false (by assumption) ?_; (conv => whnf))
    | (refine bc_intro (fun _ => ?_) (fun _ => ?_) <;> (conv => whnf))
    | (refine need_intro ?_ ?_; (conv => whnf))
    | (refine wk_refl ?_; (conv => whnf))
    | (refine draw_intro (by kernel_rfl) ?_; (conv => whnf))
    | (refine ord_intro (by kernel_rfl) ?_; (conv => whnf))
  all_goals exact ⟨LeS.of_eq (by first | (simp_all [numOk]; done) | (simp_all [numOk]; omega)), trivial⟩
theorem serialr_spec (n : Int) : Sx.Spec Tryd.prog GG 86 [.d (.int .i64 n)] [] (.d (.bool (serOk n))) [] := by
  refine spec_intro (E := EE) (fn := Tryd.f86) eok (by kernel_rfl) (by kernel_rfl) Tryd.call86 (by kernel_rfl) (by kernel_rfl) ?_
  conv => whnf
  repeat' first
    | (refine bc_true (by assumption) ?_; (conv => whnf))
    | (refine bc_false (by assumption) ?_; (conv => whnf))
    | (refine bc_intro (fun _ => ?_) (fun _ => ?_) <;> (conv => whnf))
    | (refine need_intro ?_ ?_; (conv => whnf))
    | (refine wk_refl ?_; (conv => whnf))
    | (refine draw_intro (by kernel_rfl) ?_; (conv => whnf))
    | (refine ord_intro (by kernel_rfl) ?_; (conv => whnf))
  all_goals exact ⟨LeS.of_eq (by first | (simp_all [serOk]; done) | (simp_all [serOk]; omega)), trivial⟩
theorem stampOkr_spec (e v : Int) : Sx.Spec Tryd.prog GG 58 [.agg [.d (.int .i64 e), .d (.int .i64 v)]] [] (.d (.bool (stampOk e v))) [] := by
  refine spec_intro (E := EE) (fn := Tryd.f58) eok (by kernel_rfl) (by kernel_rfl) Tryd.call58 (by kernel_rfl) (by kernel_rfl) ?_
  conv => whnf
  repeat' first
    | (refine bc_true (by assumption) ?_; (conv => whnf))
    | (refine bc_false (by assumption) ?_; (conv => whnf))
    | (refine bc_intro (fun _ => ?_) (fun _ => ?_) <;> (conv => whnf))
    | (refine need_intro ?_ ?_; (conv => whnf))
    | (refine wk_refl ?_; (conv => whnf))
    | (refine draw_intro (by kernel_rfl) ?_; (conv => whnf))
    | (refine ord_intro (by kernel_rfl) ?_; (conv => whnf))
  all_goals exact ⟨LeS.of_eq (by first | (simp_all [stampOk]; done) | (simp_all [stampOk]; omega)), trivial⟩
/-! tables of a range -/
theorem validWr_spec (k v : List UInt8) (d : Bool) : Sx.Spec Tryd.prog GG 64 [.agg [.d (.str k), .d (.str v), .d (.bool d)]] [] (.d (.bool (validW k v d))) [] := by
  refine spec_intro (E := EE) (fn := Tryd.f64) eok (by kernel_rfl) (by kernel_rfl) Tryd.call64 (by kernel_rfl) (by kernel_rfl) ?_
  conv => whnf
  repeat' first
    | (refine call_intro (validKeyr_spec _) ?_ (by first | exact .inl rfl | exact .inr ⟨rfl, rfl⟩); (conv => whnf))
    | (refine bc_true (by assumption) ?_; (conv => whnf))
    | (refine bc_false (by assumption) ?_; (conv => whnf))
    | (refine bc_intro (fun _ => ?_) (fun _ => ?_) <;> (conv => whnf))
    | (refine need_intro ?_ ?_; (conv => whnf))
    | (refine wk_refl ?_; (conv => whnf))
    | (refine draw_intro (by kernel_rfl) ?_; (conv => whnf))
    | (refine ord_intro (by kernel_rfl) ?_; (conv => whnf))
  all_goals exact ⟨LeS.of_eq (by first | (simp_all [validW]; done) | (simp_all [validW]; omega) | (simp_all [validW]; intros; omega)), trivial⟩
theorem withinr_spec (lk : List UInt8) (lt : Bool) (hk : List UInt8) (ht : Bool) (rows : List Row) : rows.length ≤ 8796093022208 → Sx.Spec Tryd.prog GG 60 [.d (encL encRow 2 rows), .agg [.d (.str lk), .d (.bool lt), .d (.str hk), .d (.bool ht)]] [] (.d (.bool (inAll (lk, lt, hk, ht) rows))) [] := by
  intro hlen
  refine spec_intro (E := EE) (fn := Tryd.f60) eok (by kernel_rfl) (by kernel_rfl) Tryd.call60 (by kernel_rfl) (by kernel_rfl) ?_
  conv => whnf
  repeat' first
    | (refine bc_true (by assumption) ?_; (conv => whnf))
    | (refine bc_false (by assumption) ?_; (conv => whnf))
    | (refine bc_intro (fun _ => ?_) (fun _ => ?_) <;> (conv => whnf))
    | (refine need_intro ?_ ?_; (conv => whnf))
    | (refine wk_refl ?_; (conv => whnf))
    | (refine draw_intro (by kernel_rfl) ?_; (conv => whnf))
    | (refine ord_intro (by kernel_rfl) ?_; (conv => whnf))
  refine loop_auto [3, 7, 8] [3] (fun i : Nat => [(9, .d (.int .i64 i))]) (fun i => []) (fun i => i ≤ rows.length ∧ ∀ j, j < i → hasR (lk, lt, hk, ht) (rows.getD j default).1 = true) (fun i => rows.length - i) 0 ?_ (fun i hx => ?_) ⟨Nat.zero_le _, fun j hj => absurd hj (Nat.not_lt_zero j)⟩
  · conv => whnf
    repeat' first
      | (refine bc_true (by assumption) ?_; (conv => whnf))
      | (refine bc_false (by assumption) ?_; (conv => whnf))
      | (refine bc_intro (fun _ => ?_) (fun _ => ?_) <;> (conv => whnf))
      | (refine need_intro ?_ ?_; (conv => whnf))
      | (refine wk_refl ?_; (conv => whnf))
      | (refine draw_intro (by kernel_rfl) ?_; (conv => whnf))
      | (refine ord_intro (by kernel_rfl) ?_; (conv => whnf))
    all_goals first | exact ⟨rfl, rfl⟩ | exact ⟨rfl, rfl, rfl⟩ | exact DLe.refl _ | exact RowLe.refl _ _ _ | exact trivial
  · obtain ⟨hi, hc⟩ := hx
    have hs : IntKind.i64.wrap ((i : Int) + 1) = ((i + 1 : Nat) : Int) := wrap_succ (n := 8796093022209) (by omega) (by omega)
    conv => whnf
    repeat' first
      | (refine call_intro (containsRr_spec _ _ _ _ _) ?_ (by first | exact .inl rfl | exact .inr ⟨rfl, rfl⟩); (conv => whnf))
      | (refine NextVC.mk (i + 1) ?_ ?_ ?_; (conv => whnf))
      | (refine bc_true (by assumption) ?_; (conv => whnf))
      | (refine bc_false (by assumption) ?_; (conv => whnf))
      | (refine bc_intro (fun _ => ?_) (fun _ => ?_) <;> (conv => whnf))
      | (refine need_intro ?_ ?_; (conv => whnf))
      | (refine wk_refl ?_; (conv => whnf))
      | (refine draw_intro (by kernel_rfl) ?_; (conv => whnf))
      | (refine ord_intro (by kernel_rfl) ?_; (conv => whnf))
    all_goals try simp only [decide_eq_true_eq, decide_eq_false_iff_not, Int.toNat_natCast, Bool.not_eq_true', Bool.not_eq_false'] at *
    all_goals first
      | exact trivial
      | omega
      | exact DLe.refl _
      | exact DLe.of_eq (by rw [hs])
      | exact ⟨by omega, by omega⟩
      | (refine ⟨by omega, fun j hj => ?_⟩
         by_cases e : j = i
         · subst e; assumption
         · exact hc j (by omega))
      | (unfold inAll; rw [all_false (l := rows) (i := i) (p := fun x => hasR (lk, lt, hk, ht) x.1) (by omega) (by assumption)]; exact ⟨LeS.refl _, trivial⟩)
      | (unfold inAll; rw [all_true (l := rows) (p := fun x => hasR (lk, lt, hk, ht) x.1) (fun j hj => hc j (by omega))]; exact ⟨LeS.refl _, trivial⟩)
      | trace_state

/-! parts and copies that are well-formed -/
theorem validPartr_spec (p : PartT) : p.rows.length ≤ 8796093022208 → Sx.Spec Tryd.prog GG 94 [.agg (partL p)] [] (.d (.bool (validPart p))) [] := by
  intro hlen
  refine spec_intro (E := EE) (fn := Tryd.f94) eok (by kernel_rfl) (by kernel_rfl) Tryd.call94 (by kernel_rfl) (by kernel_rfl) ?_
  conv => whnf
  repeat' first
    | (refine call_intro (numberr_spec _) ?_ (by first | exact .inl rfl | exact .inr ⟨rfl, rfl⟩); (conv => whnf))
    | (refine call_intro (serialr_spec _) ?_ (by first | exact .inl rfl | exact .inr ⟨rfl, rfl⟩); (conv => whnf))
    | (refine call_intro (emptyRr_spec _ _ _ _) ?_ (by first | exact .inl rfl | exact .inr ⟨rfl, rfl⟩); (conv => whnf))
    | (refine call_intro (stampOkr_spec _ _) ?_ (by first | exact .inl rfl | exact .inr ⟨rfl, rfl⟩); (conv => whnf))
    | (refine call_if (withinr_spec _ _ _ _ _) (by first | exact .inl rfl | exact .inr ⟨rfl, rfl⟩) (need_intro ?_ ?_); (conv => whnf))
    | (refine call_intro (validTr_spec _) ?_ (by first | exact .inl rfl | exact .inr ⟨rfl, rfl⟩); (conv => whnf))
    | (refine bc_true (by assumption) ?_; (conv => whnf))
    | (refine bc_false (by assumption) ?_; (conv => whnf))
    | (refine bc_intro (fun _ => ?_) (fun _ => ?_) <;> (conv => whnf))
    | (refine need_intro ?_ ?_; (conv => whnf))
    | (refine wk_refl ?_; (conv => whnf))
    | (refine draw_intro (by kernel_rfl) ?_; (conv => whnf))
    | (refine ord_intro (by kernel_rfl) ?_; (conv => whnf))
  all_goals first
    | omega
    | (refine ⟨LeS.of_eq ?_, trivial⟩
       first
         | (simp_all [validPart, serOk, emptyR', PartT.rng, withinF]; done)
         | (simp_all [validPart, serOk, emptyR', PartT.rng, withinF]; omega)
         | (simp_all [validPart, serOk, emptyR', PartT.rng, withinF]; intros; omega))
    | trace_state
theorem outsider_spec (lk : List UInt8) (lt : Bool) (hk : List UInt8) (ht : Bool) (p : PartT) : p.rows.length ≤ 8796093022208 → Sx.Spec Tryd.prog GG 84 [.agg (partL p), .agg [.d (.str lk), .d (.bool lt), .d (.str hk), .d (.bool ht)]] [] (.d (.bool (outsideF (lk, lt, hk, ht) p))) [] := by
  intro hlen
  refine spec_intro (E := EE) (fn := Tryd.f84) eok (by kernel_rfl) (by kernel_rfl) Tryd.call84 (by kernel_rfl) (by kernel_rfl) ?_
  conv => whnf
  repeat' first
    | (refine call_if (validPartr_spec p) (by first | exact .inl rfl | exact .inr ⟨rfl, rfl⟩) (need_intro ?_ ?_); (conv => whnf))
    | (refine call_intro (interr_spec _ _ _ _ _ _ _ _) ?_ (by first | exact .inl rfl | exact .inr ⟨rfl, rfl⟩); (conv => whnf))
    | (refine call_intro (emptyRr_spec _ _ _ _) ?_ (by first | exact .inl rfl | exact .inr ⟨rfl, rfl⟩); (conv => whnf))
    | (refine bc_true (by assumption) ?_; (conv => whnf))
    | (refine bc_false (by assumption) ?_; (conv => whnf))
    | (refine bc_intro (fun _ => ?_) (fun _ => ?_) <;> (conv => whnf))
    | (refine need_intro ?_ ?_; (conv => whnf))
    | (refine wk_refl ?_; (conv => whnf))
    | (refine draw_intro (by kernel_rfl) ?_; (conv => whnf))
    | (refine ord_intro (by kernel_rfl) ?_; (conv => whnf))
  all_goals first
    | omega
    | (refine ⟨LeS.of_eq ?_, trivial⟩
       have hcm := interR_comm p.rng (lk, lt, hk, ht)
       simp_all [outsideF, emptyR', PartT.rng]
       done)
    | trace_state
end Go.Proofs.YtohenbaodklohaaDoor
