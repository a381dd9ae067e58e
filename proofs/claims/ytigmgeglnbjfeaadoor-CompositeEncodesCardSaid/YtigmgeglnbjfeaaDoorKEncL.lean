/- Contracts of functions that the law reaches: YtigmgeglnbjfeaaDoorKEncL. Written for this claim. -/
import Derived.Test.YtigmgeglnbjfeaaDoorKLay
import Derived.Test.YtigmgeglnbjfeaaDoorK15
import Derived.Test.YtigmgeglnbjfeaaDoorSxCmp
namespace Go.Proofs.YtigmgeglnbjfeaaDoor
open Go Go.Sx Go.ChangeShapes Go.WideShapes Go.ChangeAt Go.WideMaps Go.WideElems Go.RowKit
set_option linter.unusedVariables false
set_option linter.unusedSimpArgs false
set_option maxRecDepth 100000
theorem set_kind {s : List Col} {n : Nat} {w : Int} (hn : n = s.length) (h1 : 1 ≤ s.length) : RowLe n 2 (fun i' j' => if i' = 0 then if j' < [D.int .i64 w].length then [D.int .i64 w].getD j' default else cellOf encCol s i' j' else cellOf encCol s i' j') (cellOf encCol (s.set 0 (w, (s.getD 0 default).2))) := by
  refine .of_eq fun i j hi hj => ?_
  by_cases e : i = 0
  · subst e
    have e2 : (s.set 0 (w, (s.getD 0 default).2)).getD 0 default = (w, (s.getD 0 default).2) := by simp [List.getD, show 0 < s.length by omega]
    simp only [eq_self, if_true, cellOf, e2, encCol]
    match j, hj with
    | 0, _ => rfl
    | 1, _ => rfl
  · have e2 : (s.set 0 (w, (s.getD 0 default).2)).getD i default = s.getD i default := by simp [List.getD, List.getElem?_set_ne (Ne.symm e)]
    simp only [if_neg e, cellOf, e2]
set_option maxHeartbeats 8000000 in
theorem compositeEncodes_law (l : List Int) (sc : List Col) (fa fb : List Fld) (hl : ∀ x ∈ l, -9223372036854775808 ≤ x ∧ x < 9223372036854775808) (hF : ∀ f ∈ fa, FldB f) : Sx.Spec Tryd.prog GG 3 [.d (encL encI 1 l), .d (encL encCol 2 sc), .d (encL encFld 3 fa), .d (encL encFld 3 fb)] [] (.d (.bool true)) [] := by
  refine spec_intro (E := EE) (fn := Tryd.f3) eok (by kernel_rfl) (by kernel_rfl) Tryd.call3 (by kernel_rfl) (by kernel_rfl) ?_
  conv => whnf
  repeat' first
    | (refine call_some (new_ex 2000 hl) (fun _ => by first | exact .inl rfl | exact .inr ⟨rfl, rfl⟩) ?_; rintro ⟨tl, ta⟩ hT; (conv => whnf))
    | (refine bc_true (by assumption) ?_; (conv => whnf))
    | (refine bc_false (by assumption) ?_; (conv => whnf))
    | (refine need_intro ?_ ?_; (conv => whnf))
    | (refine wk_refl ?_; (conv => whnf))
    | (refine draw_intro (by kernel_rfl) ?_; (conv => whnf))
    | (refine ord_intro (by kernel_rfl) ?_; (conv => whnf))
  refine loop_auto [1, 2, 3, 9] [] (fun x : Nat × Nat => [(10, .d (.int .i64 x.1))]) (fun x => [(2000, tapeB tl x.2)]) (fun x => x.1 ≤ 5 ∧ TapeOk tl x.2) (fun x => 5 - x.1) (0, ta) ?_ (fun x hx => ?_) ⟨by simp, hT⟩
  · conv => whnf
    repeat' first
      | (refine bc_true (by assumption) ?_; (conv => whnf))
      | (refine bc_false (by assumption) ?_; (conv => whnf))
      | (refine bc_intro (fun _ => ?_) (fun _ => ?_) <;> (conv => whnf))
      | (refine need_intro ?_ ?_; (conv => whnf))
      | (refine wk_refl ?_; (conv => whnf))
      | (refine draw_intro (by kernel_rfl) ?_; (conv => whnf))
      | (refine ord_intro (by kernel_rfl) ?_; (conv => whnf))
    all_goals first | exact trivial | exact DLe.refl _ | exact DLe.nil | exact RowLe.refl _ _ _ | exact ⟨rfl, rfl⟩ | exact ⟨rfl, rfl, rfl⟩ | trace_state
  obtain ⟨i, b⟩ := x
  obtain ⟨hi, hb⟩ := hx
  simp only at hi hb
  have hsi : IntKind.i64.wrap ((i : Int) + 1) = ((i + 1 : Nat) : Int) := wrap_succ (n := 100) (by omega) (by omega)
  conv => whnf
  repeat' first
    | (refine bc_true (by assumption) ?_; (conv => whnf))
    | (refine bc_false (by assumption) ?_; (conv => whnf))
    | (refine need_intro ?_ ?_; (conv => whnf))
    | (refine wk_refl ?_; (conv => whnf))
    | (refine draw_intro (by kernel_rfl) ?_; (conv => whnf))
    | (refine ord_intro (by kernel_rfl) ?_; (conv => whnf))
  refine bc_intro (fun h1 => ?_) (fun h1 => ?_)
  · conv => whnf
    repeat' first
      | (refine call_some_if (schemaO_ex 2000 3000 (by decide)) (fun _ => by first | exact .inl rfl | exact .inr ⟨rfl, rfl⟩) (need_intro ?_ ?_); rintro ⟨s, b⟩ ⟨g1, g2⟩; (conv => whnf))
      | (refine call_some_if (next_ex _) (fun _ => by first | exact .inl rfl | exact .inr ⟨rfl, rfl⟩) (need_intro ?_ ?_); rintro ⟨n, b⟩ ⟨⟨n1, n2⟩, g3⟩; (conv => whnf))
      | (refine call_some_if (fieldsO_ex 2000 3000 (by decide)) (fun _ => by first | exact .inl rfl | exact .inr ⟨rfl, rfl⟩) (need_intro ?_ ?_); rintro ⟨fs, b⟩ ⟨⟨g4, g5⟩, g6⟩; (conv => whnf))
      | (refine bc_true (by assumption) ?_; (conv => whnf))
      | (refine bc_false (by assumption) ?_; (conv => whnf))
      | (refine need_intro ?_ ?_; (conv => whnf))
      | (refine wk_refl ?_; (conv => whnf))
      | (refine draw_intro (by kernel_rfl) ?_; (conv => whnf))
      | (refine ord_intro (by kernel_rfl) ?_; (conv => whnf))
    rotate_left
    all_goals try dsimp only at *
    all_goals try first
      | assumption
      | exact ⟨by assumption, g1, by omega, by omega⟩
      | (have hsl := g1.len
         rw [wrap_of (by omega) (by omega)]
         exact ⟨by assumption, by omega, by omega⟩)
      | (have hsl := g1.len
         rw [wrap_of (by omega) (by omega)] at n2
         exact ⟨by assumption, g1, by omega, by omega⟩)
    rename_i fs1 b1 e6 e4 e5
    have hsl := g1.len
    rw [wrap_of (by omega) (by omega)] at n2
    have hfl1 : fs1.length ≤ s.length := by omega
    have hfl : fs.length ≤ s.length := by omega
    have hfits := e5.fits g1.valid hfl1
    have htx : ∀ f ∈ fs1, FldB f ∧ f.2.2.length ≤ 1000 := fun f hf => by
      obtain ⟨j, hj, rfl⟩ := List.getElem_of_mem hf
      obtain ⟨_, _, h3⟩ := fits_get hfits hj
      have e : fs1.getD j default = fs1[j] := by simp [List.getD, hj]
      rw [e] at h3
      exact ⟨e5.num _ hf, by omega⟩
    refine join_auto [1, 2, 3, 9, 10, 11, 13] [3000] (fun y : List Fld × Nat => [(12, .d (encL encFld 3 y.1))]) (fun y => [(2000, tapeB tl y.2)]) (fun y => (y.1.length ≤ 11 ∧ ∀ f ∈ y.1, FldB f) ∧ TapeOk tl y.2) (fun _ => ?_) (fun _ => ?_) ?_
    · conv => whnf
      repeat' first
        | (refine call_some_if (spoil_ex 2000 fs1) (fun _ => by first | exact .inl rfl | exact .inr ⟨rfl, rfl⟩) (need_intro ?_ ?_); rintro ⟨ys, b⟩ ⟨hys, h6⟩; (conv => whnf))
        | (refine JoinVC.mk (ys, b) ?_ ?_; (conv => whnf))
        | (refine bc_true (by assumption) ?_; (conv => whnf))
        | (refine bc_false (by assumption) ?_; (conv => whnf))
        | (refine need_intro ?_ ?_; (conv => whnf))
        | (refine wk_refl ?_; (conv => whnf))
        | (refine draw_intro (by kernel_rfl) ?_; (conv => whnf))
        | (refine ord_intro (by kernel_rfl) ?_; (conv => whnf))
      all_goals first
        | exact trivial
        | exact DLe.refl _
        | exact RowLe.refl _ _ _
        | exact ⟨rfl, rfl, rfl⟩
        | exact ⟨by assumption, by omega, htx⟩
        | exact ⟨hys, h6⟩
        | trace_state
    · conv => whnf
      repeat' first
        | (refine JoinVC.mk (fs1, b) ?_ ?_; (conv => whnf))
        | (refine bc_true (by assumption) ?_; (conv => whnf))
        | (refine bc_false (by assumption) ?_; (conv => whnf))
        | (refine need_intro ?_ ?_; (conv => whnf))
        | (refine wk_refl ?_; (conv => whnf))
        | (refine draw_intro (by kernel_rfl) ?_; (conv => whnf))
        | (refine ord_intro (by kernel_rfl) ?_; (conv => whnf))
      all_goals first
        | exact trivial
        | exact DLe.refl _
        | exact RowLe.refl _ _ _
        | exact ⟨rfl, rfl, rfl⟩
        | exact ⟨⟨by simp only; omega, e5.num⟩, by assumption⟩
        | trace_state
    rintro ⟨ys, b⟩ ⟨⟨hy1, hy2⟩, hb3⟩
    dsimp only at hy1 hy2 hb3
    conv => whnf
    repeat' first
      | (refine call_some_if (bool_ex _) (fun _ => by first | exact .inl rfl | exact .inr ⟨rfl, rfl⟩) (need_intro ?_ ?_); rintro ⟨v, b⟩ h6; (conv => whnf))
      | (refine bc_true (by assumption) ?_; (conv => whnf))
      | (refine bc_false (by assumption) ?_; (conv => whnf))
      | (refine need_intro ?_ ?_; (conv => whnf))
      | (refine wk_refl ?_; (conv => whnf))
      | (refine draw_intro (by kernel_rfl) ?_; (conv => whnf))
      | (refine ord_intro (by kernel_rfl) ?_; (conv => whnf))
    rotate_left
    · exact ⟨hb3, by omega, by omega⟩
    dsimp only at h6
    refine join_auto [1, 2, 3, 9, 10, 11, 12, 13] [] (fun z : List Col × Nat => []) (fun z => [(3000, .row 33 2 s.length (cellOf encCol z.1)), (2000, tapeB tl z.2)]) (fun z => z.1.length = s.length ∧ TapeOk tl z.2) (fun _ => ?_) (fun _ => ?_) ?_
    · conv => whnf
      repeat' first
        | (refine call_some_if (next_ex _) (fun _ => by first | exact .inl rfl | exact .inr ⟨rfl, rfl⟩) (need_intro ?_ ?_); rintro ⟨w, b⟩ ⟨⟨w1, w2⟩, h7⟩; (conv => whnf))
        | (refine JoinVC.mk (s.set 0 (IntKind.i64.wrap (w - 1), (s.getD 0 default).2), b) ?_ ?_; (conv => whnf))
        | (refine bc_true (by assumption) ?_; (conv => whnf))
        | (refine bc_false (by assumption) ?_; (conv => whnf))
        | (refine need_intro ?_ ?_; (conv => whnf))
        | (refine wk_refl ?_; (conv => whnf))
        | (refine draw_intro (by kernel_rfl) ?_; (conv => whnf))
        | (refine ord_intro (by kernel_rfl) ?_; (conv => whnf))
      all_goals try dsimp only at *
      all_goals try simp only [Nat.zero_add, Int.toNat_zero] at *
      all_goals first
        | exact trivial
        | exact DLe.refl _
        | exact RowLe.refl _ _ _
        | exact ⟨rfl, rfl, rfl⟩
        | exact ⟨by assumption, by omega, by omega⟩
        | exact ⟨by omega, by omega⟩
        | exact ⟨trivial, trivial, trivial⟩
        | exact ⟨by rw [List.length_set], by assumption⟩
        | exact set_kind rfl (by omega)
        | omega
        | trace_state
    · conv => whnf
      repeat' first
        | (refine JoinVC.mk (s, b) ?_ ?_; (conv => whnf))
        | (refine bc_true (by assumption) ?_; (conv => whnf))
        | (refine bc_false (by assumption) ?_; (conv => whnf))
        | (refine need_intro ?_ ?_; (conv => whnf))
        | (refine wk_refl ?_; (conv => whnf))
        | (refine draw_intro (by kernel_rfl) ?_; (conv => whnf))
        | (refine ord_intro (by kernel_rfl) ?_; (conv => whnf))
      all_goals first
        | exact trivial
        | exact DLe.refl _
        | exact RowLe.refl _ _ _
        | exact ⟨rfl, rfl, rfl⟩
        | exact ⟨rfl, by assumption⟩
        | trace_state
    rintro ⟨s2, b⟩ ⟨hs2, hb4⟩
    dsimp only at hs2 hb4
    conv => whnf
    repeat' first
      | (refine call_if (same2_at s2 ys fs) (by first | exact .inl rfl | exact .inr ⟨rfl, rfl⟩) (need_intro ?_ ?_); (conv => whnf))
      | (refine call_if (same2_at s2 fs ys) (by first | exact .inl rfl | exact .inr ⟨rfl, rfl⟩) (need_intro ?_ ?_); (conv => whnf))
      | (refine NextVC.mk (i + 1, b) ?_ ?_ ?_; (conv => whnf))
      | (refine bc_true (by assumption) ?_; (conv => whnf))
      | (refine bc_false (by assumption) ?_; (conv => whnf))
      | (refine bc_intro (fun _ => ?_) (fun _ => ?_) <;> (conv => whnf))
      | (refine need_intro ?_ ?_; (conv => whnf))
      | (refine wk_refl ?_; (conv => whnf))
      | (refine draw_intro (by kernel_rfl) ?_; (conv => whnf))
      | (refine ord_intro (by kernel_rfl) ?_; (conv => whnf))
    all_goals try dsimp only at *
    all_goals try simp only [decide_eq_true_eq, decide_eq_false_iff_not] at *
    all_goals first
      | exact trivial
      | exact DLe.refl _
      | exact DLe.of_eq (by rw [hsi])
      | exact ⟨by omega, by assumption⟩
      | exact ⟨⟨hs2.symm, row_zero⟩, by omega, by omega, by omega, hy2⟩
      | exact ⟨⟨hs2.symm, row_zero⟩, by omega, by omega, by omega, g5.num⟩
      | omega
      | (exfalso; simp at *; done)
      | trace_state
  · conv => whnf
    repeat' first
      | (refine call_if (same2_spec sc fa fb) (by first | exact .inl rfl | exact .inr ⟨rfl, rfl⟩) (need_intro ?_ ?_); (conv => whnf))
      | (refine call_intro (sane_spec) ?_ (by first | exact .inl rfl | exact .inr ⟨rfl, rfl⟩); (conv => whnf))
      | (refine bc_true (by assumption) ?_; (conv => whnf))
      | (refine bc_false (by assumption) ?_; (conv => whnf))
      | (refine bc_intro (fun _ => ?_) (fun _ => ?_) <;> (conv => whnf))
      | (refine need_intro ?_ ?_; (conv => whnf))
      | (refine wk_refl ?_; (conv => whnf))
      | (refine draw_intro (by kernel_rfl) ?_; (conv => whnf))
      | (refine ord_intro (by kernel_rfl) ?_; (conv => whnf))
    all_goals try simp only [decide_eq_true_eq, decide_eq_false_iff_not] at *
    all_goals first
      | exact ⟨LeS.refl _, trivial⟩
      | exact ⟨by omega, by omega, by omega, hF⟩
      | (exfalso; simp at *; done)
      | trace_state
theorem compositeEncodes_all (dss : List (List D)) (h : All2 (wfT Tryd.prog reachBytes 12) [22, 23, 24, 24] dss) : Sx.Spec Tryd.prog GG 3 (svs Tryd.prog [22, 23, 24, 24] dss) [] (.d (.bool true)) [] := by
  obtain ⟨x, y, z, w, rfl, hx, hy, hz, hw⟩ := inv4 h
  obtain ⟨l, h1, h2, h3⟩ := ints_arg hx
  obtain ⟨sc, q1, q2, q3⟩ := cols_arg hy
  obtain ⟨fa, r1, r2, r3, r4⟩ := flds_arg hz
  obtain ⟨fb, t1, t2, t3, t4⟩ := flds_arg hw
  obtain ⟨_, _, rfl, _⟩ := hx
  obtain ⟨_, _, rfl, _⟩ := hy
  obtain ⟨_, _, rfl, _⟩ := hz
  obtain ⟨_, _, rfl, _⟩ := hw
  exact (compositeEncodes_law l sc fa fb h1 r2).arg (leL_app h2 (leL_app q2 (leL_app r3 (leL_app t3 LeL.nil))))
end Go.Proofs.YtigmgeglnbjfeaaDoor
