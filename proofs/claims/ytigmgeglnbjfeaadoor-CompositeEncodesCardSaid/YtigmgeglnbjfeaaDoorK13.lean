/- Contracts of functions that the law reaches: YtigmgeglnbjfeaaDoorK13. Written for this claim. -/
import Derived.Test.YtigmgeglnbjfeaaDoorK12
import Derived.Test.YtigmgeglnbjfeaaDoorSxCmp
namespace Go.Proofs.YtigmgeglnbjfeaaDoor
open Go Go.Sx Go.ChangeShapes Go.WideShapes Go.ChangeAt Go.RowKit
set_option linter.unusedVariables false
set_option linter.unusedSimpArgs false
set_option maxRecDepth 100000
theorem cellsC : Tryd.prog.cellsOf 33 = 2 := by kernel_rfl
theorem bytesC : Tryd.prog.bytesOf 33 = 16 := by kernel_rfl
structure SchB (s : List Col) : Prop where
  len : 1 ≤ s.length ∧ s.length ≤ 4
  kind : s.all Sx.kindOk = true
theorem SchB.valid {s : List Col} (h : SchB s) : validS s = true := by
  have h1 := h.len
  simp only [validS, h.kind, Bool.and_true, Bool.and_eq_true, decide_eq_true_eq]; omega
def kindsB (n : Nat) (s : List Col) : Prop := s.length = n ∧ s.all Sx.kindOk = true
theorem kindsB.snoc {n : Nat} {s : List Col} {c : Col} (h : kindsB n s) (hc : c.1 = 1 ∨ c.1 = 2) : kindsB (n + 1) (s ++ [c]) :=
  ⟨by simp [h.1], by
    rw [List.all_append, h.2]
    rcases hc with hc | hc <;> simp [Sx.kindOk, hc]⟩
theorem schema0 {l : List Int} {a : Nat} : TapeOk l a → ∃ x : List Col × Nat, (SchB x.1 ∧ TapeOk l x.2) ∧ Sx.Spec Tryd.prog GG 5 [.ptr 1000 0] [(1000, tapeB l a)] (.d (encL encCol 2 x.1)) [(1000, tapeB l x.2)] := by
  intro h
  refine spec_some (E := EE) (fn := Tryd.f5) _ _ _ false eok (by kernel_rfl) (by kernel_rfl) Tryd.call5 (by kernel_rfl) (fun _ => by kernel_rfl) (fun _ => by kernel_rfl) ?_
  conv => whnf
  repeat' first
    | (refine call_some_if (next_ex _) (fun _ => by first | exact .inl rfl | exact .inr ⟨rfl, rfl⟩) (need_intro ?_ ?_); rintro ⟨v, b⟩ ⟨⟨h1, h2⟩, h3⟩; (conv => whnf))
    | (refine call_some_if (bool_ex _) (fun _ => by first | exact .inl rfl | exact .inr ⟨rfl, rfl⟩) (need_intro ?_ ?_); rintro ⟨w, b⟩ h3; (conv => whnf))
    | (refine bc_true (by assumption) ?_; (conv => whnf))
    | (refine bc_false (by assumption) ?_; (conv => whnf))
    | (refine bc_intro (fun _ => ?_) (fun _ => ?_) <;> (conv => whnf))
    | (refine need_intro ?_ ?_; (conv => whnf))
    | (refine wk_refl ?_; (conv => whnf))
    | (refine draw_intro (by kernel_rfl) ?_; (conv => whnf))
    | (refine ord_intro (by kernel_rfl) ?_; (conv => whnf))
  all_goals try simp only [decide_eq_true_eq, decide_eq_false_iff_not, beq_iff_eq, beq_eq_false_iff_ne, letterS_len] at *
  all_goals try first
    | assumption
    | exact ⟨by assumption, by omega, by omega⟩
    | exact ⟨by omega, by omega, by omega⟩
    | exact ⟨by omega, by omega⟩
  · simp only at h1 h2 h3
    have hw : IntKind.i64.wrap (1 + v) = 1 + v := wrap_of (by omega) (by omega)
    rw [hw]
    refine loop_auto [0] [] (fun x : List Col × Nat => [(4, .d (.int .i64 (1 + v - x.1.length))), (3, .osl 500 2 0 x.1.length)]) (fun x => [(500, .row 33 2 x.1.length (cellOf encCol x.1)), (1000, tapeB l x.2)])
      (fun x => ((x.1.length : Int) ≤ 1 + v ∧ x.1.all Sx.kindOk = true) ∧ TapeOk l x.2) (fun x => 5 - x.1.length) ([], b) ?_ (fun x hx => ?_) ⟨⟨by simp; omega, rfl⟩, h3⟩
    · conv => whnf
      repeat' first
        | (refine bc_true (by assumption) ?_; (conv => whnf))
        | (refine bc_false (by assumption) ?_; (conv => whnf))
        | (refine bc_intro (fun _ => ?_) (fun _ => ?_) <;> (conv => whnf))
        | (refine need_intro ?_ ?_; (conv => whnf))
        | (refine wk_refl ?_; (conv => whnf))
        | (refine draw_intro (by kernel_rfl) ?_; (conv => whnf))
        | (refine ord_intro (by kernel_rfl) ?_; (conv => whnf))
      all_goals first | exact trivial | exact DLe.refl _ | exact DLe.nil | exact RowLe.refl _ _ _ | exact ⟨rfl, rfl⟩ | exact ⟨rfl, rfl, rfl⟩ | exact DLe.of_eq (by simp) | trace_state
    · obtain ⟨s, c⟩ := x
      obtain ⟨⟨k1, k2⟩, k3⟩ := hx
      simp only at k1 k2 k3
      simp only
      conv => whnf
      repeat' first
        | (refine call_some_if (next_ex _) (fun _ => by first | exact .inl rfl | exact .inr ⟨rfl, rfl⟩) (need_intro ?_ ?_); rintro ⟨u, b1⟩ ⟨⟨g1, g2⟩, g3⟩; (conv => whnf))
        | (refine call_some_if (bool_ex _) (fun _ => by first | exact .inl rfl | exact .inr ⟨rfl, rfl⟩) (need_intro ?_ ?_); rintro ⟨w, b2⟩ g4; (conv => whnf))
        | (refine NextVC.mk (s ++ [(1 + u, w)], b2) ?_ ?_ ?_; (conv => whnf))
        | (refine bc_true (by assumption) ?_; (conv => whnf))
        | (refine bc_false (by assumption) ?_; (conv => whnf))
        | (refine bc_intro (fun _ => ?_) (fun _ => ?_) <;> (conv => whnf))
        | (refine need_intro ?_ ?_; (conv => whnf))
        | (refine wk_refl ?_; (conv => whnf))
        | (refine draw_intro (by kernel_rfl) ?_; (conv => whnf))
        | (refine ord_intro (by kernel_rfl) ?_; (conv => whnf))
      all_goals try simp only [decide_eq_true_eq, decide_eq_false_iff_not] at *
      all_goals try have hwu : IntKind.i64.wrap (1 + u) = 1 + u := wrap_of (by omega) (by omega)
      all_goals try have hwd : IntKind.i64.wrap (1 + v - s.length - 1) = 1 + v - ((s ++ [(1 + u, w)]).length : Int) := by rw [wrap_of (by omega) (by omega)]; simp; omega
      all_goals first
        | exact trivial
        | omega
        | exact DLe.refl _
        | exact ⟨k3, by omega, by omega⟩
        | exact ⟨by assumption, by omega, by omega⟩
        | exact ⟨trivial, cellsC, by simp⟩
        | exact ⟨cellsC, trivial, by simp⟩
        | exact ⟨trivial, by rw [bytesC]; omega, by omega⟩
        | exact DLe.of_eq (by rw [hwd])
        | exact ⟨rfl, by rw [bytesC]; omega, by omega⟩
        | (simp only [List.length_append, List.length_singleton]; omega)
        | (rw [hwu, List.length_append]; exact row_snoc rfl (RowLe.refl _ _ _) (jlt2 (DLe.refl _) (DLe.refl _)))
        | exact ⟨⟨by simp only [List.length_append, List.length_singleton]; omega, (kindsB.snoc (n := s.length) ⟨rfl, k2⟩ (by simp only; omega)).2⟩, g4⟩
        | exact ⟨(s, c), ⟨⟨by simp only; omega, k2⟩, k3⟩, les_own rfl, LeL.refl _, trivial⟩
        | trace_state
  all_goals exact ⟨h, by omega, by omega⟩
theorem schema_ex (m : Nat) {l : List Int} {a : Nat} : TapeOk l a → ∃ x : List Col × Nat, (SchB x.1 ∧ TapeOk l x.2) ∧ Sx.Spec Tryd.prog GG 5 [.ptr m 0] [(m, tapeB l a)] (.d (encL encCol 2 x.1)) [(m, tapeB l x.2)] := fun h => by
  obtain ⟨x, hx, hs⟩ := schema0 h
  exact ⟨x, hx, hs.at m⟩
theorem i64_wrapC {n : Int} : I64 (IntKind.i64.wrap n) := by
  obtain ⟨q, e, h1, h2⟩ := wrap_mod n
  exact ⟨h1, h2⟩
/-! fields -/
def FitB (c : Col) (f : Fld) : Prop := fitsF c f = true ∧ FldB f
theorem fit_text {t : List UInt8} {d : Bool} (ht : t.length ≤ 2) : FitB (2, d) (2, 0, t) := by
  refine ⟨?_, by simp [FldB]⟩
  simp only [fitsF, beq_self_eq_true, Bool.true_and]
  rw [if_neg (by decide)]
  have : decide (t.length ≤ 16) = true := decide_eq_true (by omega)
  rw [this]
  simp
theorem field0 {l : List Int} {a : Nat} {ck : Int} {cd : Bool} : (TapeOk l a ∧ Sx.kindOk (ck, cd) = true) → ∃ x : Fld × Nat, (FitB (ck, cd) x.1 ∧ TapeOk l x.2) ∧ Sx.Spec Tryd.prog GG 12 [.ptr 1000 0, .agg [.d (.int .i64 ck), .d (.bool cd)]] [(1000, tapeB l a)] (.agg [.d (.int .i64 x.1.1), .d (.int .i64 x.1.2.1), .d (.str x.1.2.2)]) [(1000, tapeB l x.2)] := by
  rintro ⟨h, hk⟩
  have hk2 : ck = 1 ∨ ck = 2 := by simpa [Sx.kindOk] using hk
  refine spec_some (E := EE) (fn := Tryd.f12) _ _ _ false eok (by kernel_rfl) (by kernel_rfl) Tryd.call12 (by kernel_rfl) (fun _ => by kernel_rfl) (fun _ => by kernel_rfl) ?_
  conv => whnf
  repeat' first
    | (refine call_some_if (bool_ex _) (fun _ => by first | exact .inl rfl | exact .inr ⟨rfl, rfl⟩) (need_intro ?_ ?_); rintro ⟨w, b⟩ h3; (conv => whnf))
    | (refine call_some_if (next_ex _) (fun _ => by first | exact .inl rfl | exact .inr ⟨rfl, rfl⟩) (need_intro ?_ ?_); rintro ⟨v, b⟩ ⟨⟨h1, h2⟩, h3⟩; (conv => whnf))
    | (refine call_some_if (pickQ_ex _ I64) (fun _ => by first | exact .inl rfl | exact .inr ⟨rfl, rfl⟩) (need_intro ?_ ?_); rintro ⟨v, b⟩ ⟨h1, h2⟩; (conv => whnf))
    | (refine bc_true (by assumption) ?_; (conv => whnf))
    | (refine bc_false (by assumption) ?_; (conv => whnf))
    | (refine bc_intro (fun _ => ?_) (fun _ => ?_) <;> (conv => whnf))
    | (refine need_intro ?_ ?_; (conv => whnf))
    | (refine wk_refl ?_; (conv => whnf))
    | (refine draw_intro (by kernel_rfl) ?_; (conv => whnf))
    | (refine ord_intro (by kernel_rfl) ?_; (conv => whnf))
  all_goals try simp only [decide_eq_true_eq, decide_eq_false_iff_not, beq_iff_eq, beq_eq_false_iff_ne, ne_eq] at *
  all_goals first
    | exact ⟨by assumption, by omega, by omega⟩
    | exact ⟨by omega, by omega⟩
    | assumption
    | exact ⟨(nullF, _), ⟨⟨rfl, by simp [FldB, nullF]⟩, by assumption⟩, LeS.refl _, LeL.refl _, trivial⟩
    | (subst ck
       exact ⟨((1, v, []), b), ⟨⟨by simp [fitsF], h1⟩, h2⟩, LeS.refl _, LeL.refl _, trivial⟩)
    | (have hk3 : ck = 2 := by omega
       subst hk3
       refine ⟨((2, 0, textS _), b), ⟨?_, h3⟩, LeS.refl _, LeL.refl _, trivial⟩
       exact fit_text (textS_len _))
    | (refine ⟨by assumption, ⟨by omega, by omega⟩, ?_⟩
       repeat' first
         | exact trivial
         | (refine ⟨_, rfl, ?_⟩
            first
              | exact i64_wrapC
              | (unfold I64; omega))
         | apply And.intro
       done)
    | trace_state
theorem field_ex (m : Nat) {l : List Int} {a : Nat} {ck : Int} {cd : Bool} : (TapeOk l a ∧ Sx.kindOk (ck, cd) = true) → ∃ x : Fld × Nat, (FitB (ck, cd) x.1 ∧ TapeOk l x.2) ∧ Sx.Spec Tryd.prog GG 12 [.ptr m 0, .agg [.d (.int .i64 ck), .d (.bool cd)]] [(m, tapeB l a)] (.agg [.d (.int .i64 x.1.1), .d (.int .i64 x.1.2.1), .d (.str x.1.2.2)]) [(m, tapeB l x.2)] := fun h => by
  obtain ⟨x, hx, hs⟩ := field0 h
  exact ⟨x, hx, hs.at m⟩
/-- fields of the first columns -/
structure FitsB (s : List Col) (l : List Fld) : Prop where
  fit : ∀ j, j < l.length → fitsF (s.getD j default) (l.getD j default) = true
  num : ∀ f ∈ l, FldB f
theorem FitsB.snoc {s : List Col} {l : List Fld} {f : Fld} (h : FitsB s l) (hf : FitB (s.getD l.length default) f) : FitsB s (l ++ [f]) where
  fit := by
    intro j hj
    simp only [List.length_append, List.length_singleton] at hj
    by_cases e : j < l.length
    · rw [getD_append_left e]; exact h.fit j e
    · have : j = l.length := by omega
      subst this
      rw [getD_append_right (by omega)]
      simpa using hf.1
  num := by
    intro g hg
    rcases List.mem_append.1 hg with hg | hg
    · exact h.num g hg
    · rw [List.mem_singleton.1 hg]; exact hf.2
theorem FitsB.fits {s : List Col} {l : List Fld} (h : FitsB s l) (hv : validS s = true) (hl : l.length ≤ s.length) : fitsL s l = true := fitsL_true hv hl h.fit
theorem fields0 {l : List Int} {a : Nat} {s : List Col} {n : Int} : (TapeOk l a ∧ SchB s ∧ 0 ≤ n ∧ n ≤ s.length) → ∃ x : List Fld × Nat, (((x.1.length : Int) = n ∧ FitsB s x.1) ∧ TapeOk l x.2) ∧ Sx.Spec Tryd.prog GG 6 [.ptr 1000 0, .d (encL encCol 2 s), .d (.int .i64 n)] [(1000, tapeB l a)] (.d (encL encFld 3 x.1)) [(1000, tapeB l x.2)] := by
  rintro ⟨h, hs, hn⟩
  have hsl := hs.len
  refine spec_some (E := EE) (fn := Tryd.f6) _ _ _ false eok (by kernel_rfl) (by kernel_rfl) Tryd.call6 (by kernel_rfl) (fun _ => by kernel_rfl) (fun _ => by kernel_rfl) ?_
  conv => whnf
  repeat' first
    | (refine bc_true (by assumption) ?_; (conv => whnf))
    | (refine bc_false (by assumption) ?_; (conv => whnf))
    | (refine bc_intro (fun _ => ?_) (fun _ => ?_) <;> (conv => whnf))
    | (refine need_intro ?_ ?_; (conv => whnf))
    | (refine wk_refl ?_; (conv => whnf))
    | (refine draw_intro (by kernel_rfl) ?_; (conv => whnf))
    | (refine ord_intro (by kernel_rfl) ?_; (conv => whnf))
  refine loop_auto [0, 1, 2] [] (fun x : List Fld × Nat => [(8, .d (.int .i64 x.1.length)), (7, .osl 500 3 0 x.1.length)]) (fun x => [(500, .row 40 3 x.1.length (cellOf encFld x.1)), (1000, tapeB l x.2)])
    (fun x => ((x.1.length : Int) ≤ n ∧ FitsB s x.1) ∧ TapeOk l x.2) (fun x => s.length - x.1.length) ([], a) ?_ (fun x hx => ?_) ⟨⟨by simp; omega, ⟨by simp, by simp⟩⟩, h⟩
  · conv => whnf
    repeat' first
      | (refine bc_true (by assumption) ?_; (conv => whnf))
      | (refine bc_false (by assumption) ?_; (conv => whnf))
      | (refine bc_intro (fun _ => ?_) (fun _ => ?_) <;> (conv => whnf))
      | (refine need_intro ?_ ?_; (conv => whnf))
      | (refine wk_refl ?_; (conv => whnf))
      | (refine draw_intro (by kernel_rfl) ?_; (conv => whnf))
      | (refine ord_intro (by kernel_rfl) ?_; (conv => whnf))
    all_goals first | exact trivial | exact DLe.refl _ | exact DLe.nil | exact RowLe.refl _ _ _ | exact ⟨rfl, rfl⟩ | exact ⟨rfl, rfl, rfl⟩ | exact DLe.of_eq (by simp) | trace_state
  · obtain ⟨fs, c⟩ := x
    obtain ⟨⟨k1, k2⟩, k3⟩ := hx
    simp only at k1 k2 k3
    simp only
    have hw : IntKind.i64.wrap ((fs.length : Int) + 1) = ((fs.length + 1 : Nat) : Int) := wrap_succ (n := 2000) (by omega) (by omega)
    conv => whnf
    repeat' first
      | (refine call_some_if (field_ex _) (fun _ => by first | exact .inl rfl | exact .inr ⟨rfl, rfl⟩) (need_intro ?_ ?_); rintro ⟨f, b1⟩ ⟨g1, g2⟩; (conv => whnf))
      | (refine NextVC.mk (fs ++ [f], b1) ?_ ?_ ?_; (conv => whnf))
      | (refine bc_true (by assumption) ?_; (conv => whnf))
      | (refine bc_false (by assumption) ?_; (conv => whnf))
      | (refine bc_intro (fun _ => ?_) (fun _ => ?_) <;> (conv => whnf))
      | (refine need_intro ?_ ?_; (conv => whnf))
      | (refine wk_refl ?_; (conv => whnf))
      | (refine draw_intro (by kernel_rfl) ?_; (conv => whnf))
      | (refine ord_intro (by kernel_rfl) ?_; (conv => whnf))
    all_goals try simp only [decide_eq_true_eq, decide_eq_false_iff_not, Int.toNat_natCast] at *
    all_goals first
      | exact trivial
      | omega
      | exact DLe.refl _
      | exact ⟨k3, kind_getD hs.kind (by omega)⟩
      | exact ⟨by omega, by omega⟩
      | exact ⟨trivial, cellsF, by simp⟩
      | exact ⟨cellsF, trivial, by simp⟩
      | exact ⟨trivial, by rw [bytesF]; omega, by omega⟩
      | exact DLe.of_eq (by rw [hw, List.length_append, List.length_singleton])
      | (simp only [List.length_append, List.length_singleton]; omega)
      | (rw [List.length_append]; exact row_snoc rfl (RowLe.refl _ _ _) (jl3 (DLe.refl _) (DLe.refl _) (DLe.refl _)))
      | exact ⟨⟨by simp only [List.length_append, List.length_singleton]; omega, k2.snoc g1⟩, g2⟩
      | exact ⟨(fs, c), ⟨⟨by simp only; omega, k2⟩, k3⟩, les_own rfl, LeL.refl _, trivial⟩
      | trace_state
theorem fields_ex (m : Nat) {l : List Int} {a : Nat} {s : List Col} {n : Int} : (TapeOk l a ∧ SchB s ∧ 0 ≤ n ∧ n ≤ s.length) → ∃ x : List Fld × Nat, (((x.1.length : Int) = n ∧ FitsB s x.1) ∧ TapeOk l x.2) ∧ Sx.Spec Tryd.prog GG 6 [.ptr m 0, .d (encL encCol 2 s), .d (.int .i64 n)] [(m, tapeB l a)] (.d (encL encFld 3 x.1)) [(m, tapeB l x.2)] := fun h => by
  obtain ⟨x, hx, hs⟩ := fields0 h
  exact ⟨x, hx, hs.at m⟩
end Go.Proofs.YtigmgeglnbjfeaaDoor
