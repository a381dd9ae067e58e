/- Contracts of functions that the law reaches: YtigmgeglnbjfeaaDoorK2. Written for this claim. -/
import Derived.Test.YtigmgeglnbjfeaaDoorKBase
import Derived.Test.YtigmgeglnbjfeaaDoorSxCmp
namespace Go.Proofs.YtigmgeglnbjfeaaDoor
open Go Go.Sx Go.ChangeShapes Go.WideShapes Go.ChangeAt Go.RowKit
set_option linter.unusedVariables false
set_option linter.unusedSimpArgs false
set_option maxRecDepth 100000
abbrev colL (c : Col) : SV := .agg [.d (.int .i64 c.1), .d (.bool c.2)]
abbrev fldL (f : Fld) : SV := .agg [.d (.int .i64 f.1), .d (.int .i64 f.2.1), .d (.str f.2.2)]
theorem validSp_spec (s : List Col) : s.length ≤ 1000 → Sx.Spec Tryd.prog GG 18 [.d (encL encCol 2 s)] [] (.d (.bool (validS s))) [] := by
  intro hl
  refine spec_intro (E := EE) (fn := Tryd.f18) eok (by kernel_rfl) (by kernel_rfl) Tryd.call18 (by kernel_rfl) (by kernel_rfl) ?_
  conv => whnf
  repeat' first
    | (refine bc_true (by assumption) ?_; (conv => whnf))
    | (refine bc_false (by assumption) ?_; (conv => whnf))
    | (refine need_intro ?_ ?_; (conv => whnf))
    | (refine wk_refl ?_; (conv => whnf))
    | (refine draw_intro (by kernel_rfl) ?_; (conv => whnf))
    | (refine ord_intro (by kernel_rfl) ?_; (conv => whnf))
  refine loop_auto [0, 5, 6] [] (fun i : Nat => [(7, .d (.int .i64 i))]) (fun i => []) (fun i => i ≤ s.length ∧ ∀ j, j < i → Sx.kindOk (s.getD j default) = true) (fun i => s.length - i) 0 ?_ (fun i hi => ?_) ⟨by omega, fun j hj => absurd hj (by omega)⟩
  · conv => whnf
    repeat' first
      | (refine bc_true (by assumption) ?_; (conv => whnf))
      | (refine bc_false (by assumption) ?_; (conv => whnf))
      | (refine bc_intro (fun _ => ?_) (fun _ => ?_) <;> (conv => whnf))
      | (refine need_intro ?_ ?_; (conv => whnf))
      | (refine wk_refl ?_; (conv => whnf))
      | (refine draw_intro (by kernel_rfl) ?_; (conv => whnf))
      | (refine ord_intro (by kernel_rfl) ?_; (conv => whnf))
    all_goals first | exact trivial | exact DLe.refl _ | trace_state
  · obtain ⟨hi, hz⟩ := hi
    have hs : IntKind.i64.wrap ((i : Int) + 1) = ((i + 1 : Nat) : Int) := wrap_succ (n := 2000) (by omega) (by omega)
    conv => whnf
    repeat' first
      | (refine NextVC.mk (i + 1) ?_ ?_ ?_; (conv => whnf))
      | (refine bc_true (by assumption) ?_; (conv => whnf))
      | (refine bc_false (by assumption) ?_; (conv => whnf))
      | (refine bc_intro (fun _ => ?_) (fun _ => ?_) <;> (conv => whnf))
      | (refine need_intro ?_ ?_; (conv => whnf))
      | (refine wk_refl ?_; (conv => whnf))
      | (refine draw_intro (by kernel_rfl) ?_; (conv => whnf))
      | (refine ord_intro (by kernel_rfl) ?_; (conv => whnf))
    all_goals try simp only [true_and, and_true, decide_eq_true_eq, decide_eq_false_iff_not, beq_iff_eq, bne_iff_ne, beq_eq_false_iff_ne, bne_eq_false_iff_eq, ne_eq, Decidable.not_not, Bool.not_eq_true', Bool.not_eq_false', Int.toNat_natCast] at *
    all_goals first
      | exact trivial
      | omega
      | exact DLe.refl _
      | exact DLe.of_eq (by rw [hs])
      | exact ⟨by omega, by omega⟩
      | (refine ⟨by omega, fun j hj => ?_⟩
         by_cases e : j = i
         · subst e; simp_all [Sx.kindOk]; done
         · exact hz j (by omega))
      | (refine ⟨LeS.of_eq ?_, trivial⟩
         have e : s.all Sx.kindOk = true := all_getD (fun j hj => hz j (by omega))
         have h1 : 1 ≤ s.length := by omega
         simp [validS, e, h1] <;> omega)
      | (refine ⟨LeS.of_eq ?_, trivial⟩
         have h1 : s.length = 0 := by omega
         simp [validS, h1]; done)
      | (refine ⟨LeS.of_eq ?_, trivial⟩
         have e : ¬ s.all Sx.kindOk = true := fun h => by
           have := kind_getD h (j := i) (by omega)
           simp only [Sx.kindOk, Bool.or_eq_true, beq_iff_eq] at this
           omega
         simp [validS, e]; done)
      | trace_state
theorem validSr_spec (s : List Col) : s.length ≤ 1000 → Sx.Spec Tryd.prog GG 19 [.d (encL encCol 2 s)] [] (.d (.bool (validS s))) [] := by
  intro hl
  refine spec_intro (E := EE) (fn := Tryd.f19) eok (by kernel_rfl) (by kernel_rfl) Tryd.call19 (by kernel_rfl) (by kernel_rfl) ?_
  conv => whnf
  repeat' first
    | (refine bc_true (by assumption) ?_; (conv => whnf))
    | (refine bc_false (by assumption) ?_; (conv => whnf))
    | (refine bc_intro (fun _ => ?_) (fun _ => ?_) <;> (conv => whnf))
    | (refine need_intro ?_ ?_; (conv => whnf))
    | (refine wk_refl ?_; (conv => whnf))
    | (refine draw_intro (by kernel_rfl) ?_; (conv => whnf))
    | (refine ord_intro (by kernel_rfl) ?_; (conv => whnf))
  all_goals try simp only [true_and, and_true, decide_eq_true_eq, decide_eq_false_iff_not, beq_iff_eq, bne_iff_ne, beq_eq_false_iff_ne, bne_eq_false_iff_eq, ne_eq, Decidable.not_not, Bool.not_eq_true', Bool.not_eq_false', Int.toNat_natCast] at *
  all_goals try (refine ⟨LeS.of_eq ?_, trivial⟩; simp [validS] <;> omega)
  refine loop_auto [0] [] (fun i : Nat => [(3, .d (.int .i64 i))]) (fun i => []) (fun i => i ≤ s.length ∧ ∀ j, j < i → Sx.kindOk (s.getD j default) = true) (fun i => s.length - i) 0 ?_ (fun i hi => ?_) ⟨by omega, fun j hj => absurd hj (by omega)⟩
  · conv => whnf
    repeat' first
      | (refine bc_true (by assumption) ?_; (conv => whnf))
      | (refine bc_false (by assumption) ?_; (conv => whnf))
      | (refine bc_intro (fun _ => ?_) (fun _ => ?_) <;> (conv => whnf))
      | (refine need_intro ?_ ?_; (conv => whnf))
      | (refine wk_refl ?_; (conv => whnf))
      | (refine draw_intro (by kernel_rfl) ?_; (conv => whnf))
      | (refine ord_intro (by kernel_rfl) ?_; (conv => whnf))
    all_goals first | exact trivial | exact DLe.refl _ | trace_state
  · obtain ⟨hi, hz⟩ := hi
    have hs : IntKind.i64.wrap ((i : Int) + 1) = ((i + 1 : Nat) : Int) := wrap_succ (n := 2000) (by omega) (by omega)
    conv => whnf
    repeat' first
      | (refine NextVC.mk (i + 1) ?_ ?_ ?_; (conv => whnf))
      | (refine bc_true (by assumption) ?_; (conv => whnf))
      | (refine bc_false (by assumption) ?_; (conv => whnf))
      | (refine bc_intro (fun _ => ?_) (fun _ => ?_) <;> (conv => whnf))
      | (refine need_intro ?_ ?_; (conv => whnf))
      | (refine wk_refl ?_; (conv => whnf))
      | (refine draw_intro (by kernel_rfl) ?_; (conv => whnf))
      | (refine ord_intro (by kernel_rfl) ?_; (conv => whnf))
    all_goals try simp only [true_and, and_true, decide_eq_true_eq, decide_eq_false_iff_not, beq_iff_eq, bne_iff_ne, beq_eq_false_iff_ne, bne_eq_false_iff_eq, ne_eq, Decidable.not_not, Bool.not_eq_true', Bool.not_eq_false', Int.toNat_natCast] at *
    all_goals first
      | exact trivial
      | omega
      | exact DLe.refl _
      | exact DLe.of_eq (by rw [hs])
      | exact ⟨by omega, by omega⟩
      | (refine ⟨by omega, fun j hj => ?_⟩
         by_cases e : j = i
         · subst e; simp_all [Sx.kindOk]; done
         · exact hz j (by omega))
      | (refine ⟨LeS.of_eq ?_, trivial⟩
         have e : s.all Sx.kindOk = true := all_getD (fun j hj => hz j (by omega))
         have h1 : 1 ≤ s.length := by omega
         simp [validS, e, h1] <;> omega)
      | (refine ⟨LeS.of_eq ?_, trivial⟩
         have h1 : s.length = 0 := by omega
         simp [validS, h1]; done)
      | (refine ⟨LeS.of_eq ?_, trivial⟩
         have e : ¬ s.all Sx.kindOk = true := fun h => by
           have := kind_getD h (j := i) (by omega)
           simp only [Sx.kindOk, Bool.or_eq_true, beq_iff_eq] at this
           omega
         simp [validS, e]; done)
      | trace_state
theorem fits_text {ck fk fi : Int} {cd : Bool} {ft : List UInt8} (h5 : (fk == 0 && (fi == 0 && ft == [])) = false) (h2 : fk = ck) (h6 : ¬ fk = 1) (h7 : fi = 0) : fitsF (ck, cd) (fk, fi, ft) = decide ((ft.length : Int) ≤ 16) := by
  have h3 : (fk == ck) = true := by rw [h2]; simp
  have h4 : (fi == 0) = true := by rw [h7]; rfl
  have e : decide ((ft.length : Int) ≤ 16) = decide (ft.length ≤ 16) := decide_eq_decide.2 (by omega)
  show ((fk == 0 && (fi == 0 && ft == [])) || (fk == ck && (if fk = 1 then ft == [] else (fi == 0 && decide (ft.length ≤ 16))))) = _
  rw [h5, h3, h4, if_neg h6, e]
  rfl
theorem min1 (n : Int) : (if 1 < n then 1 else n) = min n 1 := by split <;> omega
theorem cmp_wrap {f g : Fld} : IntKind.i64.wrap (0 - cmpF f g) = -(cmpF f g) := by
  have hr := cmpF_rng f g
  rw [wrap_of (by omega) (by omega)]; omega
theorem cmp_a {fk fi gk gi : Int} {ft gt : List UInt8} (h : cmpI (if 1 < fk then 1 else fk) (if 1 < gk then 1 else gk) = 0) : (if ¬ cmpI fi gi = 0 then cmpI fi gi else cmpT ft gt) = cmpF (fk, fi, ft) (gk, gi, gt) := by
  rw [min1, min1] at h
  simp only [cmpF, h, ne_eq, not_true_eq_false, if_false]
theorem cmp_b {fk fi gk gi : Int} {ft gt : List UInt8} (h : ¬ cmpI (if 1 < fk then 1 else fk) (if 1 < gk then 1 else gk) = 0) : cmpI (if 1 < fk then 1 else fk) (if 1 < gk then 1 else gk) = cmpF (fk, fi, ft) (gk, gi, gt) := by
  rw [min1, min1] at h ⊢
  simp only [cmpF, h, ne_eq, not_false_eq_true, if_true]
theorem fitsFp_spec (ck : Int) (cd : Bool) (fk fi : Int) (ft : List UInt8) : Sx.Spec Tryd.prog GG 30 [.agg [.d (.int .i64 ck), .d (.bool cd)], .agg [.d (.int .i64 fk), .d (.int .i64 fi), .d (.str ft)]] [] (.d (.bool (fitsF (ck, cd) (fk, fi, ft)))) [] := by
  refine spec_intro (E := EE) (fn := Tryd.f30) eok (by kernel_rfl) (by kernel_rfl) Tryd.call30 (by kernel_rfl) (by kernel_rfl) ?_
  conv => whnf
  repeat' first
    | (refine bc_true (by assumption) ?_; (conv => whnf))
    | (refine bc_false (by assumption) ?_; (conv => whnf))
    | (refine bc_intro (fun _ => ?_) (fun _ => ?_) <;> (conv => whnf))
    | (refine need_intro ?_ ?_; (conv => whnf))
    | (refine wk_refl ?_; (conv => whnf))
    | (refine draw_intro (by kernel_rfl) ?_; (conv => whnf))
    | (refine ord_intro (by kernel_rfl) ?_; (conv => whnf))
  all_goals try simp only [true_and, and_true, decide_eq_true_eq, decide_eq_false_iff_not, beq_iff_eq, bne_iff_ne, beq_eq_false_iff_ne, bne_eq_false_iff_eq, ne_eq, Decidable.not_not, Bool.not_eq_true', Bool.not_eq_false', Int.toNat_natCast] at *
  all_goals first
    | exact trivial
    | (refine ⟨LeS.of_eq ?_, trivial⟩; simp_all [fitsF]; done)
    | exact ⟨LeS.of_eq (by rw [fits_text (by assumption) (by assumption) (by assumption) (by assumption)]), trivial⟩
    | trace_state
theorem fitsFr_spec (ck : Int) (cd : Bool) (fk fi : Int) (ft : List UInt8) : Sx.Spec Tryd.prog GG 31 [.agg [.d (.int .i64 ck), .d (.bool cd)], .agg [.d (.int .i64 fk), .d (.int .i64 fi), .d (.str ft)]] [] (.d (.bool (fitsF (ck, cd) (fk, fi, ft)))) [] := by
  refine spec_intro (E := EE) (fn := Tryd.f31) eok (by kernel_rfl) (by kernel_rfl) Tryd.call31 (by kernel_rfl) (by kernel_rfl) ?_
  conv => whnf
  repeat' first
    | (refine bc_true (by assumption) ?_; (conv => whnf))
    | (refine bc_false (by assumption) ?_; (conv => whnf))
    | (refine bc_intro (fun _ => ?_) (fun _ => ?_) <;> (conv => whnf))
    | (refine need_intro ?_ ?_; (conv => whnf))
    | (refine wk_refl ?_; (conv => whnf))
    | (refine draw_intro (by kernel_rfl) ?_; (conv => whnf))
    | (refine ord_intro (by kernel_rfl) ?_; (conv => whnf))
  all_goals try simp only [true_and, and_true, decide_eq_true_eq, decide_eq_false_iff_not, beq_iff_eq, bne_iff_ne, beq_eq_false_iff_ne, bne_eq_false_iff_eq, ne_eq, Decidable.not_not, Bool.not_eq_true', Bool.not_eq_false', Int.toNat_natCast] at *
  all_goals first
    | exact trivial
    | (refine ⟨LeS.of_eq ?_, trivial⟩; simp_all [fitsF]; done)
    | exact ⟨LeS.of_eq (by rw [fits_text (by assumption) (by assumption) (by assumption) (by assumption)]), trivial⟩
    | trace_state
theorem cmpFldp_spec (ck : Int) (cd : Bool) (fk fi : Int) (ft : List UInt8) (gk gi : Int) (gt : List UInt8) : Sx.Spec Tryd.prog GG 32 [.agg [.d (.int .i64 ck), .d (.bool cd)], .agg [.d (.int .i64 fk), .d (.int .i64 fi), .d (.str ft)], .agg [.d (.int .i64 gk), .d (.int .i64 gi), .d (.str gt)]] [] (.d (.int .i64 (cmpC (ck, cd) (fk, fi, ft) (gk, gi, gt)))) [] := by
  refine spec_intro (E := EE) (fn := Tryd.f32) eok (by kernel_rfl) (by kernel_rfl) Tryd.call32 (by kernel_rfl) (by kernel_rfl) ?_
  conv => whnf
  repeat' first
    | (refine call_intro (cmpInt3_spec _ _) ?_ (by first | exact .inl rfl | exact .inr ⟨rfl, rfl⟩); (conv => whnf))
    | (refine call_intro (cmpInt6_spec _ _) ?_ (by first | exact .inl rfl | exact .inr ⟨rfl, rfl⟩); (conv => whnf))
    | (refine call_intro (strCompare_spec _ _) ?_ (by first | exact .inl rfl | exact .inr ⟨rfl, rfl⟩); (conv => whnf))
    | (refine call_intro (or_spec (cmpI fi gi) (cmpT ft gt) (.all (by repeat' first | exact trivial | exact rfl | apply And.intro))) ?_ (by first | exact .inl rfl | exact .inr ⟨rfl, rfl⟩); (conv => whnf))
    | (refine bc_true (by assumption) ?_; (conv => whnf))
    | (refine bc_false (by assumption) ?_; (conv => whnf))
    | (refine bc_intro (fun _ => ?_) (fun _ => ?_) <;> (conv => whnf))
    | (refine need_intro ?_ ?_; (conv => whnf))
    | (refine wk_refl ?_; (conv => whnf))
    | (refine draw_intro (by kernel_rfl) ?_; (conv => whnf))
    | (refine ord_intro (by kernel_rfl) ?_; (conv => whnf))
  all_goals try simp only [true_and, and_true, decide_eq_true_eq, decide_eq_false_iff_not, beq_iff_eq, bne_iff_ne, beq_eq_false_iff_ne, bne_eq_false_iff_eq, ne_eq, Decidable.not_not, Bool.not_eq_true', Bool.not_eq_false', Int.toNat_natCast] at *
  all_goals first
    | (rw [cmp_a (by assumption), cmp_wrap]; exact ⟨LeS.of_eq (by simp only [cmpC, *, if_true]), trivial⟩)
    | (rw [cmp_b (fi := fi) (gi := gi) (ft := ft) (gt := gt) (by assumption), cmp_wrap]; exact ⟨LeS.of_eq (by simp only [cmpC, *, if_true]), trivial⟩)
    | (rw [cmp_a (by assumption)]; exact ⟨LeS.of_eq (by simp only [cmpC, *, Bool.false_eq_true, if_false]), trivial⟩)
    | (rw [cmp_b (fi := fi) (gi := gi) (ft := ft) (gt := gt) (by assumption)]; exact ⟨LeS.of_eq (by simp only [cmpC, *, Bool.false_eq_true, if_false]), trivial⟩)
    | trace_state
set_option maxHeartbeats 400000 in
theorem lessFr_spec (fk fi : Int) (ft : List UInt8) (gk gi : Int) (gt : List UInt8) : Sx.Spec Tryd.prog GG 34 [.agg [.d (.int .i64 fk), .d (.int .i64 fi), .d (.str ft)], .agg [.d (.int .i64 gk), .d (.int .i64 gi), .d (.str gt)]] [] (.d (.bool (lessF (fk, fi, ft) (gk, gi, gt)))) [] := by
  refine spec_intro (E := EE) (fn := Tryd.f34) eok (by kernel_rfl) (by kernel_rfl) Tryd.call34 (by kernel_rfl) (by kernel_rfl) ?_
  conv => whnf
  repeat' first
    | (refine bc_true (by assumption) ?_; (conv => whnf))
    | (refine bc_false (by assumption) ?_; (conv => whnf))
    | (refine bc_intro (fun _ => ?_) (fun _ => ?_) <;> (conv => whnf))
    | (refine need_intro ?_ ?_; (conv => whnf))
    | (refine wk_refl ?_; (conv => whnf))
    | (refine draw_intro (by kernel_rfl) ?_; (conv => whnf))
    | (refine ord_intro (by kernel_rfl) ?_; (conv => whnf))
  all_goals try simp only [true_and, and_true, decide_eq_true_eq, decide_eq_false_iff_not, beq_iff_eq, bne_iff_ne, beq_eq_false_iff_ne, bne_eq_false_iff_eq, ne_eq, Decidable.not_not, Bool.not_eq_true', Bool.not_eq_false', Int.toNat_natCast] at *
  all_goals first
    | exact trivial
    | (refine ⟨LeS.of_eq ?_, trivial⟩; simp_all [lessF]; done)
    | (refine ⟨LeS.of_eq ?_, trivial⟩; simp only [lessF]; simp [*]; done)
    | trace_state
end Go.Proofs.YtigmgeglnbjfeaaDoor
