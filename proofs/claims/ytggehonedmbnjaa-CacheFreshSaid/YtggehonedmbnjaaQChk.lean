/- Contracts of functions that the law reaches: YtggehonedmbnjaaQChk. Written for this claim. -/
import Derived.Test.YtggehonedmbnjaaQBase
namespace Go.Proofs.Ytggehonedmbnjaa
open Go Go.Sx Go.ChangeShapes Go.WideShapes Go.ChangeAt Go.RowKit
set_option linter.unusedVariables false
set_option linter.unusedSimpArgs false
set_option maxRecDepth 100000
/-! checks -/
theorem chk_none {l : List LseT} (h : ¬ l.length ≤ 64) : checkL l = false := by simp [checkL, h]
theorem chk_true {l : List LseT} (hl : l.length ≤ 64) (h : ∀ i, i < l.length → okL l i = true) : checkL l = true := by
  simp only [checkL, Bool.and_eq_true, decide_eq_true_eq]
  exact ⟨hl, allR_true h⟩
theorem chk_false {l : List LseT} {i : Nat} (hi : i < l.length) (h : okL l i = false) : checkL l = false := by
  simp only [checkL, allR_false hi h, Bool.and_false]
theorem clr_at {h f : List Int} {i : Nat} (hi : i < h.length) : clearL (h.drop i) f = (!(f.contains (h.getD i default)) && clearL (h.drop (i + 1)) f) := by
  rw [drop_cons' hi, clearL, List.all_cons]; rfl
theorem clr_done {h f : List Int} {i : Nat} (hi : h.length ≤ i) : clearL (h.drop i) f = true := by
  rw [List.drop_eq_nil_of_le hi]; rfl
theorem val_bad {x : LseT} (h : (!(decide ((x.key.length : Int) ≤ 64) && fitsV x.val x.has)) = true ∨ (!ascN x.hold) = true ∨ (!ascN x.fly) = true ∨ clearL x.hold x.fly = false ∨ restL x = false) : validL x = false := by
  cases hv : validL x with
  | false => rfl
  | true =>
    simp only [validL, Bool.and_eq_true] at hv
    obtain ⟨h1, h2, h3, h4, h5, h6⟩ := hv
    simp [h1, h2, h3, h4, h5, h6] at h
theorem val_ok {x : LseT} (h1 : (!(decide ((x.key.length : Int) ≤ 64) && fitsV x.val x.has)) = false) (h2 : (!ascN x.hold) = false) (h3 : (!ascN x.fly) = false) (h4 : clearL x.hold x.fly = true) : validL x = restL x := by
  simp only [Bool.not_eq_false', Bool.and_eq_true] at h1 h2 h3
  simp only [validL, h1.1, h1.2, h2, h3, h4, Bool.true_and]
theorem okL_eq {l : List LseT} {i : Nat} : okL l i = (validL (l.getD i default) && (i == 0 || Op.bytesLess (l.getD (i - 1) default).key (l.getD i default).key)) := rfl
theorem rest_no {x : LseT} (hw : x.wait = false) (h : (!(x.nxt.1 == [] && (x.nxt.2.1 == [] && x.nxt.2.2 == false))) = true) : restL x = false := by
  have ef : ∀ b : Bool, (b == false) = !b := by decide
  simp only [ef, Bool.not_eq_true'] at h
  simp only [restL, hw, Bool.false_eq_true, if_false, h, Bool.false_and]
theorem ok_bad {l : List LseT} {i : Nat} (h : ¬ ((l.getD i default).key.length : Int) ≤ 64 ∨ (0 < i ∧ Op.bytesLess (l.getD (i - 1) default).key (l.getD i default).key = false) ∨ fitsV (l.getD i default).val (l.getD i default).has = false ∨ ascN (l.getD i default).hold = false ∨ ascN (l.getD i default).fly = false ∨ clearL (l.getD i default).hold (l.getD i default).fly = false ∨ restL (l.getD i default) = false) : okL l i = false := by
  cases hv : okL l i with
  | false => rfl
  | true =>
    rw [okL_eq] at hv
    simp only [validL, Bool.and_eq_true, Bool.or_eq_true, beq_iff_eq, decide_eq_true_eq] at hv
    obtain ⟨⟨h1, h2, h3, h4, h5, h6⟩, h7⟩ := hv
    rcases h with h | ⟨h, h8⟩ | h | h | h | h | h
    · exact absurd h1 h
    · rcases h7 with h7 | h7
      · omega
      · rw [h7] at h8; cases h8
    · rw [h2] at h; cases h
    · rw [h3] at h; cases h
    · rw [h4] at h; cases h
    · rw [h5] at h; cases h
    · rw [h6] at h; cases h
theorem ok_good {l : List LseT} {i : Nat} (h1 : ((l.getD i default).key.length : Int) ≤ 64) (h2 : fitsV (l.getD i default).val (l.getD i default).has = true) (h3 : ascN (l.getD i default).hold = true) (h4 : ascN (l.getD i default).fly = true)
    (h5 : clearL (l.getD i default).hold (l.getD i default).fly = true) (h6 : restL (l.getD i default) = true) (h7 : i = 0 ∨ Op.bytesLess (l.getD (i - 1) default).key (l.getD i default).key = true) : okL l i = true := by
  rw [okL_eq]
  simp only [validL, Bool.and_eq_true, Bool.or_eq_true, beq_iff_eq, decide_eq_true_eq]
  exact ⟨⟨h1, h2, h3, h4, h5, h6⟩, h7⟩
set_option maxHeartbeats 4000000 in
theorem checkp_spec (l : List LseT) : LsB l → Sx.Spec Try.prog GG 20 [.d (encL encLse 9 l)] [] (.d (.bool (checkL l))) [] := by
  intro h
  have hl := h.len
  refine spec_intro (E := EE) (fn := Try.f20) eok (by kernel_rfl) (by kernel_rfl) Try.call20 (by kernel_rfl) (by kernel_rfl) ?_
  conv => whnf
  repeat' first
    | (refine bc_true (by assumption) ?_; (conv => whnf))
    | (refine bc_false (by assumption) ?_; (conv => whnf))
    | (refine bc_intro (fun _ => ?_) (fun _ => ?_) <;> (conv => whnf))
    | (refine need_intro ?_ ?_; (conv => whnf))
    | (refine wk_refl ?_; (conv => whnf))
    | (refine draw_intro (by kernel_rfl) ?_; (conv => whnf))
    | (refine ord_intro (by kernel_rfl) ?_; (conv => whnf))
  all_goals try simp only [decide_eq_true_eq, decide_eq_false_iff_not] at *
  all_goals try (rw [chk_none (by omega)]; exact ⟨LeS.refl _, trivial⟩)
  refine loop_auto [0, 10, 11] [] (fun i : Nat => [(12, .d (.int .i64 i))]) (fun i => []) (fun i => i ≤ l.length ∧ ∀ j, j < i → okL l j = true) (fun i => l.length - i) 0 ?_ (fun i hi => ?_) ⟨by omega, fun j hj => absurd hj (Nat.not_lt_zero j)⟩
  · conv => whnf
    repeat' first
      | (refine bc_true (by assumption) ?_; (conv => whnf))
      | (refine bc_false (by assumption) ?_; (conv => whnf))
      | (refine bc_intro (fun _ => ?_) (fun _ => ?_) <;> (conv => whnf))
      | (refine need_intro ?_ ?_; (conv => whnf))
      | (refine wk_refl ?_; (conv => whnf))
      | (refine draw_intro (by kernel_rfl) ?_; (conv => whnf))
      | (refine ord_intro (by kernel_rfl) ?_; (conv => whnf))
    all_goals first | exact trivial | exact DLe.refl _ | exact DLe.nil | exact RowLe.refl _ _ _ | exact ⟨rfl, rfl⟩ | exact ⟨rfl, rfl, rfl⟩ | trace_state
  · obtain ⟨hi, hc⟩ := hi
    have hs : IntKind.i64.wrap ((i : Int) + 1) = ((i + 1 : Nat) : Int) := wrap_succ (n := 4294967297) (by omega) (by omega)
    have hw : 0 < i → IntKind.i64.wrap ((i : Int) - 1) = ((i - 1 : Nat) : Int) := fun h => by rw [wrap_of (by omega) (by omega)]; omega
    have hb := h.at i
    have hcl := okL_eq (l := l) (i := i)
    have hww : IntKind.i64.wrap (((l.getD i default).hold.length : Int) + ((l.getD i default).fly.length : Int)) = ((l.getD i default).hold.length : Int) + (l.getD i default).fly.length := wrap_of (by omega) (by omega)
    conv => whnf
    repeat' first
      | (refine call_intro (validKeyp_spec _) ?_ (by first | exact .inl rfl | exact .inr ⟨rfl, rfl⟩); (conv => whnf))
      | (refine call_intro (fitsp_spec _ _) ?_ (by first | exact .inl rfl | exact .inr ⟨rfl, rfl⟩); (conv => whnf))
      | (refine call_if (ascendp_spec _) (by first | exact .inl rfl | exact .inr ⟨rfl, rfl⟩) (need_intro ?_ ?_); (conv => whnf))
      | (refine bc_true (by assumption) ?_; (conv => whnf))
      | (refine bc_false (by assumption) ?_; (conv => whnf))
      | (refine bc_intro (fun _ => ?_) (fun _ => ?_) <;> (conv => whnf))
      | (refine need_intro ?_ ?_; (conv => whnf))
      | (refine wk_refl ?_; (conv => whnf))
      | (refine draw_intro (by kernel_rfl) ?_; (conv => whnf))
      | (refine ord_intro (by kernel_rfl) ?_; (conv => whnf))
    all_goals try rw [hw (by simp only [decide_eq_true_eq] at *; omega)] at *
    all_goals simp only [decide_eq_true_eq, decide_eq_false_iff_not, Int.toNat_natCast, bl_leq, Bool.not_not, Bool.not_eq_true', Bool.not_eq_false'] at *
    all_goals try first
      | omega
      | exact ⟨by omega, by omega⟩
      | (rw [chk_false (i := i) (by omega) (ok_bad (.inl (by omega)))]; exact ⟨LeS.refl _, trivial⟩)
      | (rw [chk_false (i := i) (by omega) (ok_bad (.inr (.inl ⟨by omega, by assumption⟩)))]; exact ⟨LeS.refl _, trivial⟩)
      | (rw [chk_false (i := i) (by omega) (ok_bad (.inr (.inr (.inl (by assumption)))))]; exact ⟨LeS.refl _, trivial⟩)
      | (rw [chk_false (i := i) (by omega) (ok_bad (.inr (.inr (.inr (.inl (by assumption))))))]; exact ⟨LeS.refl _, trivial⟩)
      | (rw [chk_false (i := i) (by omega) (ok_bad (.inr (.inr (.inr (.inr (.inl (by assumption)))))))]; exact ⟨LeS.refl _, trivial⟩)
      | (rw [chk_true (by omega) (fun j hj => hc j (by omega))]; exact ⟨LeS.refl _, trivial⟩)
    all_goals
      have hgo : clearL (l.getD i default).hold (l.getD i default).fly = true → restL (l.getD i default) = true → okL l i = true := fun a b => ok_good (by omega) (by assumption) (by assumption) (by assumption) a b (by first | exact .inl (by omega) | exact .inr (by assumption))
      refine loop_auto [0, 3, 4, 10, 11, 12, 57, 58] [4] (fun k : Nat × Unit => [(59, .d (.int .i64 k.1))]) (fun k => []) (fun k => k.1 ≤ (l.getD i default).hold.length ∧ clearL (l.getD i default).hold (l.getD i default).fly = clearL ((l.getD i default).hold.drop k.1) (l.getD i default).fly) (fun k => (l.getD i default).hold.length - k.1) (0, ()) ?_ (fun k hk => ?_) ⟨by simp, rfl⟩
      · conv => whnf
        repeat' first
          | (refine bc_true (by assumption) ?_; (conv => whnf))
          | (refine bc_false (by assumption) ?_; (conv => whnf))
          | (refine bc_intro (fun _ => ?_) (fun _ => ?_) <;> (conv => whnf))
          | (refine need_intro ?_ ?_; (conv => whnf))
          | (refine wk_refl ?_; (conv => whnf))
          | (refine draw_intro (by kernel_rfl) ?_; (conv => whnf))
          | (refine ord_intro (by kernel_rfl) ?_; (conv => whnf))
        all_goals first | exact trivial | exact DLe.refl _ | exact DLe.nil | exact RowLe.refl _ _ _ | exact ⟨rfl, rfl⟩ | exact ⟨rfl, rfl, rfl⟩ | trace_state
      · obtain ⟨k, _⟩ := k
        obtain ⟨hk, hkc⟩ := hk
        simp only at hk hkc
        have hks : IntKind.i64.wrap ((k : Int) + 1) = ((k + 1 : Nat) : Int) := wrap_succ (n := 4294967297) (by omega) (by omega)
        conv => whnf
        repeat' first
          | (refine call_if (hasp_spec _ _) (by first | exact .inl rfl | exact .inr ⟨rfl, rfl⟩) (need_intro ?_ ?_); (conv => whnf))
          | (refine call_intro (validWp_spec _ _ _) ?_ (by first | exact .inl rfl | exact .inr ⟨rfl, rfl⟩); (conv => whnf))
          | (refine NextVC.mk (k + 1, ()) ?_ ?_ ?_; (conv => whnf))
          | (refine NextVC.mk (i + 1) ?_ ?_ ?_; (conv => whnf))
          | (refine bc_true (by assumption) ?_; (conv => whnf))
          | (refine bc_false (by assumption) ?_; (conv => whnf))
          | (refine bc_intro (fun _ => ?_) (fun _ => ?_) <;> (conv => whnf))
          | (refine need_intro ?_ ?_; (conv => whnf))
          | (refine wk_refl ?_; (conv => whnf))
          | (refine draw_intro (by kernel_rfl) ?_; (conv => whnf))
          | (refine ord_intro (by kernel_rfl) ?_; (conv => whnf))
        all_goals try rw [hww] at *
        all_goals try simp only [decide_eq_true_eq, decide_eq_false_iff_not, Int.toNat_natCast] at *
        all_goals first
          | exact trivial
          | omega
          | exact DLe.refl _
          | exact DLe.of_eq (by rw [hs])
          | exact DLe.of_eq (by rw [hks])
          | exact ⟨by omega, by omega⟩
          | (refine ⟨by omega, ?_⟩
             rw [hkc, clr_at (by omega)]
             simp only [‹List.contains _ _ = false›, Bool.not_false, Bool.true_and]; done)
          | (rw [chk_false (i := i) (by omega) (ok_bad (.inr (.inr (.inr (.inr (.inr (.inl (by rw [hkc, clr_at (by omega)]; simp only [‹List.contains _ _ = true›, Bool.not_true, Bool.false_and])))))))) ]; exact ⟨LeS.refl _, trivial⟩)
          | (have hcl2 : clearL (l.getD i default).hold (l.getD i default).fly = true := by rw [hkc, clr_done (by omega)]
             first
               | (have hr : restL (l.getD i default) = false := by first | (simp_all [restL]; done) | (simp_all [restL]; omega) | exact rest_no (by assumption) (by assumption)
                  rw [chk_false (i := i) (by omega) (ok_bad (.inr (.inr (.inr (.inr (.inr (.inr hr)))))))]; exact ⟨LeS.refl _, trivial⟩)
               | (have hr : restL (l.getD i default) = true := by first | (simp_all [restL]; done) | (simp_all [restL]; omega)
                  refine ⟨by omega, fun j hj => ?_⟩
                  by_cases e : j = i
                  · subst e; exact hgo hcl2 hr
                  · exact hc j (by omega)))
          | trace_state
end Go.Proofs.Ytggehonedmbnjaa
