/- Contracts of functions that the law reaches: YtigmgeglnbjfeaaDoorK15. Written for this claim. -/
import Derived.Test.YtigmgeglnbjfeaaDoorK14
import Derived.Test.YtigmgeglnbjfeaaDoorSxCmp
namespace Go.Proofs.YtigmgeglnbjfeaaDoor
open Go Go.Sx Go.ChangeShapes Go.WideShapes Go.ChangeAt Go.RowKit
set_option linter.unusedVariables false
set_option linter.unusedSimpArgs false
set_option maxRecDepth 100000
/-! own schemas -/
theorem schemaO0 {l : List Int} {a : Nat} : TapeOk l a → ∃ x : List Col × Nat, (SchB x.1 ∧ TapeOk l x.2) ∧ Sx.Spec Tryd.prog GG 5 [.ptr 1000 0] [(1000, tapeB l a)] (.osl 2000 2 0 x.1.length) [(1000, tapeB l x.2), (2000, .row 33 2 x.1.length (cellOf encCol x.1))] := by
  intro h
  refine spec_some (E := EE) (fn := Tryd.f5) _ _ _ true eok (by kernel_rfl) (by kernel_rfl) Tryd.call5 (by kernel_rfl) (fun _ => by kernel_rfl) (fun _ => by kernel_rfl) ?_
  conv => whnf
  repeat' first
    | (refine call_some_if (next_ex _) (fun _ => by first | exact .inl rfl | exact .inr ⟨rfl, rfl⟩) (need_intro ?_ ?_); rintro ⟨v, b⟩ ⟨⟨h1, h2⟩, h3⟩; (conv => whnf))
    | (refine call_some_if (bool_ex _) (fun _ => by first | exact .inl rfl | exact .inr ⟨rfl, rfl⟩) (need_intro ?_ ?_); rintro ⟨w, b⟩ h3; (conv => whnf))
    | (refine bc_true (by assumption) ?_; (conv => whnf))
    | (refine bc_false (by assumption) ?_; (conv => whnf))
    | (refine bc_intro (fun _ => ?_) (fun _ => ?_) <;> (conv => whnf))
    | (refine need_intro ?_ ?_; (conv => whnf))
    | (refine wk_refl ?_; (conv => whnf))
    | (refine draw_intro (by kernel_rfl) ?_; (conv => whnf))
    | (refine ord_intro (by kernel_rfl) ?_; (conv => whnf))
  all_goals try simp only [decide_eq_true_eq, decide_eq_false_iff_not, beq_iff_eq, beq_eq_false_iff_ne, letterS_len] at *
  all_goals try first
    | assumption
    | exact ⟨by assumption, by omega, by omega⟩
    | exact ⟨by omega, by omega, by omega⟩
    | exact ⟨by omega, by omega⟩
  · simp only at h1 h2 h3
    have hw : IntKind.i64.wrap (1 + v) = 1 + v := wrap_of (by omega) (by omega)
    rw [hw]
    refine loop_auto [0] [] (fun x : List Col × Nat => [(4, .d (.int .i64 (1 + v - x.1.length))), (3, .osl 500 2 0 x.1.length)]) (fun x => [(500, .row 33 2 x.1.length (cellOf encCol x.1)), (1000, tapeB l x.2)])
      (fun x => ((x.1.length : Int) ≤ 1 + v ∧ x.1.all Sx.kindOk = true) ∧ TapeOk l x.2) (fun x => 5 - x.1.length) ([], b) ?_ (fun x hx => ?_) ⟨⟨by simp; omega, rfl⟩, h3⟩
    · conv => whnf
      repeat' first
        | (refine bc_true (by assumption) ?_; (conv => whnf))
        | (refine bc_false (by assumption) ?_; (conv => whnf))
        | (refine bc_intro (fun _ => ?_) (fun _ => ?_) <;> (conv => whnf))
        | (refine need_intro ?_ ?_; (conv => whnf))
        | (refine wk_refl ?_; (conv => whnf))
        | (refine draw_intro (by kernel_rfl) ?_; (conv => whnf))
        | (refine ord_intro (by kernel_rfl) ?_; (conv => whnf))
      all_goals first | exact trivial | exact DLe.refl _ | exact DLe.nil | exact RowLe.refl _ _ _ | exact ⟨rfl, rfl⟩ | exact ⟨rfl, rfl, rfl⟩ | exact DLe.of_eq (by simp) | trace_state
    · obtain ⟨s, c⟩ := x
      obtain ⟨⟨k1, k2⟩, k3⟩ := hx
      simp only at k1 k2 k3
      simp only
      conv => whnf
      repeat' first
        | (refine call_some_if (next_ex _) (fun _ => by first | exact .inl rfl | exact .inr ⟨rfl, rfl⟩) (need_intro ?_ ?_); rintro ⟨u, b1⟩ ⟨⟨g1, g2⟩, g3⟩; (conv => whnf))
        | (refine call_some_if (bool_ex _) (fun _ => by first | exact .inl rfl | exact .inr ⟨rfl, rfl⟩) (need_intro ?_ ?_); rintro ⟨w, b2⟩ g4; (conv => whnf))
        | (refine NextVC.mk (s ++ [(1 + u, w)], b2) ?_ ?_ ?_; (conv => whnf))
        | (refine bc_true (by assumption) ?_; (conv => whnf))
        | (refine bc_false (by assumption) ?_; (conv => whnf))
        | (refine bc_intro (fun _ => ?_) (fun _ => ?_) <;> (conv => whnf))
        | (refine need_intro ?_ ?_; (conv => whnf))
        | (refine wk_refl ?_; (conv => whnf))
        | (refine draw_intro (by kernel_rfl) ?_; (conv => whnf))
        | (refine ord_intro (by kernel_rfl) ?_; (conv => whnf))
      all_goals try simp only [decide_eq_true_eq, decide_eq_false_iff_not] at *
      all_goals try have hwu : IntKind.i64.wrap (1 + u) = 1 + u := wrap_of (by omega) (by omega)
      all_goals try have hwd : IntKind.i64.wrap (1 + v - s.length - 1) = 1 + v - ((s ++ [(1 + u, w)]).length : Int) := by rw [wrap_of (by omega) (by omega)]; simp; omega
      all_goals first
        | exact trivial
        | omega
        | exact DLe.refl _
        | exact ⟨k3, by omega, by omega⟩
        | exact ⟨by assumption, by omega, by omega⟩
        | exact ⟨trivial, cellsC, by simp⟩
        | exact ⟨cellsC, trivial, by simp⟩
        | exact ⟨trivial, by rw [bytesC]; omega, by omega⟩
        | exact DLe.of_eq (by rw [hwd])
        | exact ⟨rfl, by rw [bytesC]; omega, by omega⟩
        | (simp only [List.length_append, List.length_singleton]; omega)
        | (rw [hwu, List.length_append]; exact row_snoc rfl (RowLe.refl _ _ _) (jlt2 (DLe.refl _) (DLe.refl _)))
        | exact ⟨⟨by simp only [List.length_append, List.length_singleton]; omega, (kindsB.snoc (n := s.length) ⟨rfl, k2⟩ (by simp only; omega)).2⟩, g4⟩
        | (refine ⟨(s, c), ⟨⟨by simp only; omega, k2⟩, k3⟩, ?_⟩
           conv => whnf
           repeat' first
             | (refine bc_true (by assumption) ?_; (conv => whnf))
             | (refine bc_false (by assumption) ?_; (conv => whnf))
             | (refine bc_intro (fun _ => ?_) (fun _ => ?_) <;> (conv => whnf))
             | (refine need_intro ?_ ?_; (conv => whnf))
             | (refine wk_refl ?_; (conv => whnf))
             | (refine draw_intro (by kernel_rfl) ?_; (conv => whnf))
             | (refine ord_intro (by kernel_rfl) ?_; (conv => whnf))
           all_goals first
             | exact trivial
             | exact DLe.refl _
             | exact RowLe.refl _ _ _
             | exact ⟨rfl, rfl⟩
             | exact ⟨rfl, rfl, rfl⟩
             | trace_state)
        | trace_state
  all_goals exact ⟨h, by omega, by omega⟩
theorem schemaO_ex (m k : Nat) (hmk : m ≠ k) {l : List Int} {a : Nat} : TapeOk l a → ∃ x : List Col × Nat, (SchB x.1 ∧ TapeOk l x.2) ∧ Sx.Spec Tryd.prog GG 5 [.ptr m 0] [(m, tapeB l a)] (.osl k 2 0 x.1.length) [(m, tapeB l x.2), (k, .row 33 2 x.1.length (cellOf encCol x.1))] := fun h => by
  obtain ⟨x, hx, hs⟩ := schemaO0 h
  exact ⟨x, hx, hs.at1 m k (by decide) hmk⟩
theorem at2 {P : Program} {G : Nat → Option (Nat × (Nat → D))} {f : FuncId} {args : List SV} {n k : Nat} {b b' c c' : Blk} {res : SV} (h : Sx.Spec P G f args [(n, b), (k, c)] res [(n, b'), (k, c')]) (m j : Nat) (hne : n ≠ k) (hmj : m ≠ j) :
    Sx.Spec P G f (renL (fun i => if i = n then m else j) args) [(m, renB (fun i => if i = n then m else j) b), (j, renB (fun i => if i = n then m else j) c)] (renS (fun i => if i = n then m else j) res) [(m, renB (fun i => if i = n then m else j) b'), (j, renB (fun i => if i = n then m else j) c')] := by
  have := h.ren (fun i => if i = n then m else j) (by
    intro x y hx hy e
    simp only [keysP, List.map_cons, List.map_nil, List.mem_cons, List.not_mem_nil, or_false] at hx hy
    rcases hx with rfl | rfl <;> rcases hy with rfl | rfl <;> simp_all [Ne.symm])
  simpa only [renP, if_true, if_neg (Ne.symm hne)] using this
/-! fields of an own schema -/
theorem fieldsO0 {l : List Int} {a : Nat} {s : List Col} {n : Int} : (TapeOk l a ∧ SchB s ∧ 0 ≤ n ∧ n ≤ s.length) → ∃ x : List Fld × Nat, (((x.1.length : Int) = n ∧ FitsB s x.1) ∧ TapeOk l x.2) ∧ Sx.Spec Tryd.prog GG 6 [.ptr 1000 0, .osl 2000 2 0 s.length, .d (.int .i64 n)] [(1000, tapeB l a), (2000, .row 33 2 s.length (cellOf encCol s))] (.d (encL encFld 3 x.1)) [(1000, tapeB l x.2), (2000, .row 33 2 s.length (cellOf encCol s))] := by
  rintro ⟨h, hs, hn⟩
  have hsl := hs.len
  refine spec_some (E := EE) (fn := Tryd.f6) _ _ _ true eok (by kernel_rfl) (by kernel_rfl) Tryd.call6 (by kernel_rfl) (fun _ => by kernel_rfl) (fun _ => by kernel_rfl) ?_
  conv => whnf
  repeat' first
    | (refine bc_true (by assumption) ?_; (conv => whnf))
    | (refine bc_false (by assumption) ?_; (conv => whnf))
    | (refine bc_intro (fun _ => ?_) (fun _ => ?_) <;> (conv => whnf))
    | (refine need_intro ?_ ?_; (conv => whnf))
    | (refine wk_refl ?_; (conv => whnf))
    | (refine draw_intro (by kernel_rfl) ?_; (conv => whnf))
    | (refine ord_intro (by kernel_rfl) ?_; (conv => whnf))
  refine loop_auto [0, 1, 2] [2000] (fun x : List Fld × Nat => [(8, .d (.int .i64 x.1.length)), (7, .osl 500 3 0 x.1.length)]) (fun x => [(500, .row 40 3 x.1.length (cellOf encFld x.1)), (1000, tapeB l x.2)])
    (fun x => ((x.1.length : Int) ≤ n ∧ FitsB s x.1) ∧ TapeOk l x.2) (fun x => s.length - x.1.length) ([], a) ?_ (fun x hx => ?_) ⟨⟨by simp; omega, ⟨by simp, by simp⟩⟩, h⟩
  · conv => whnf
    repeat' first
      | (refine bc_true (by assumption) ?_; (conv => whnf))
      | (refine bc_false (by assumption) ?_; (conv => whnf))
      | (refine bc_intro (fun _ => ?_) (fun _ => ?_) <;> (conv => whnf))
      | (refine need_intro ?_ ?_; (conv => whnf))
      | (refine wk_refl ?_; (conv => whnf))
      | (refine draw_intro (by kernel_rfl) ?_; (conv => whnf))
      | (refine ord_intro (by kernel_rfl) ?_; (conv => whnf))
    all_goals first | exact trivial | exact DLe.refl _ | exact DLe.nil | exact RowLe.refl _ _ _ | exact ⟨rfl, rfl⟩ | exact ⟨rfl, rfl, rfl⟩ | exact DLe.of_eq (by simp) | trace_state
  · obtain ⟨fs, c⟩ := x
    obtain ⟨⟨k1, k2⟩, k3⟩ := hx
    simp only at k1 k2 k3
    simp only
    have hw : IntKind.i64.wrap ((fs.length : Int) + 1) = ((fs.length + 1 : Nat) : Int) := wrap_succ (n := 2000) (by omega) (by omega)
    conv => whnf
    repeat' first
      | (refine call_some_if (field_ex _) (fun _ => by first | exact .inl rfl | exact .inr ⟨rfl, rfl⟩) (need_intro ?_ ?_); rintro ⟨f, b1⟩ ⟨g1, g2⟩; (conv => whnf))
      | (refine NextVC.mk (fs ++ [f], b1) ?_ ?_ ?_; (conv => whnf))
      | (refine bc_true (by assumption) ?_; (conv => whnf))
      | (refine bc_false (by assumption) ?_; (conv => whnf))
      | (refine bc_intro (fun _ => ?_) (fun _ => ?_) <;> (conv => whnf))
      | (refine need_intro ?_ ?_; (conv => whnf))
      | (refine wk_refl ?_; (conv => whnf))
      | (refine draw_intro (by kernel_rfl) ?_; (conv => whnf))
      | (refine ord_intro (by kernel_rfl) ?_; (conv => whnf))
    all_goals try simp only [decide_eq_true_eq, decide_eq_false_iff_not, Int.toNat_natCast, Nat.zero_add] at *
    all_goals first
      | exact trivial
      | omega
      | exact DLe.refl _
      | exact RowLe.refl _ _ _
      | exact ⟨k3, kind_getD hs.kind (by omega)⟩
      | exact ⟨by omega, by omega⟩
      | exact ⟨by omega, by omega, by omega⟩
      | exact ⟨rfl, rfl, rfl⟩
      | exact ⟨trivial, cellsF, by simp⟩
      | exact ⟨cellsF, trivial, by simp⟩
      | exact ⟨trivial, by rw [bytesF]; omega, by omega⟩
      | exact DLe.of_eq (by rw [hw, List.length_append, List.length_singleton])
      | (simp only [List.length_append, List.length_singleton]; omega)
      | (rw [List.length_append]; exact row_snoc rfl (RowLe.refl _ _ _) (jl3 (DLe.refl _) (DLe.refl _) (DLe.refl _)))
      | exact ⟨⟨by simp only [List.length_append, List.length_singleton]; omega, k2.snoc g1⟩, g2⟩
      | exact ⟨trivial, trivial, trivial⟩
      | (refine ⟨(fs, c), ⟨⟨by simp only; omega, k2⟩, k3⟩, ?_⟩
         conv => whnf
         repeat' first
           | (refine bc_true (by assumption) ?_; (conv => whnf))
           | (refine bc_false (by assumption) ?_; (conv => whnf))
           | (refine bc_intro (fun _ => ?_) (fun _ => ?_) <;> (conv => whnf))
           | (refine need_intro ?_ ?_; (conv => whnf))
           | (refine wk_refl ?_; (conv => whnf))
           | (refine draw_intro (by kernel_rfl) ?_; (conv => whnf))
           | (refine ord_intro (by kernel_rfl) ?_; (conv => whnf))
         all_goals first
           | exact trivial
           | exact DLe.refl _
           | exact RowLe.refl _ _ _
           | exact ⟨rfl, rfl, rfl⟩
           | exact DLe.rows rfl row_zero
           | trace_state)
      | trace_state
theorem fieldsO_ex (m k : Nat) (hmk : m ≠ k) {l : List Int} {a : Nat} {s : List Col} {n : Int} : (TapeOk l a ∧ SchB s ∧ 0 ≤ n ∧ n ≤ s.length) → ∃ x : List Fld × Nat, (((x.1.length : Int) = n ∧ FitsB s x.1) ∧ TapeOk l x.2) ∧ Sx.Spec Tryd.prog GG 6 [.ptr m 0, .osl k 2 0 s.length, .d (.int .i64 n)] [(m, tapeB l a), (k, .row 33 2 s.length (cellOf encCol s))] (.d (encL encFld 3 x.1)) [(m, tapeB l x.2), (k, .row 33 2 s.length (cellOf encCol s))] := fun h => by
  obtain ⟨x, hx, hs⟩ := fieldsO0 h
  exact ⟨x, hx, at2 hs m k (by decide) hmk⟩
/-! one field changed -/
theorem wraps64 (n : Int) : -9223372036854775808 ≤ IntKind.i64.wrap n ∧ IntKind.i64.wrap n < 9223372036854775808 := i64_wrapC
theorem spoil_key (n : Nat) (g : Nat → Nat → D) (F : Nat → Fld) (hn : n ≤ 11) (hF : ∀ i, i < n → FldB (F i)) (hg : ∀ i, i < n → g i 0 = .int .i64 (F i).1 ∧ g i 1 = .int .i64 (F i).2.1 ∧ g i 2 = .str (F i).2.2) : ∃ ys : List Fld, (ys.length ≤ 11 ∧ ∀ f ∈ ys, FldB f) ∧ DLe (.list n 3 g) (encL encFld 3 ys) := by
  refine ⟨(List.range n).map F, ⟨by simpa using hn, fun f hf => ?_⟩, DLe.rows (by simp) (.of_eq fun i j hi hj => ?_)⟩
  · obtain ⟨i, hi, rfl⟩ := List.mem_map.1 hf
    exact hF i (List.mem_range.1 hi)
  · have hi : i < n := by simpa using hi
    obtain ⟨h0, h1, h2⟩ := hg i hi
    have e : ((List.range n).map F).getD i default = F i := by simp [List.getD, hi]
    simp only [cellOf, e, encFld]
    match j, hj with
    | 0, _ => exact h0
    | 1, _ => exact h1
    | 2, _ => exact h2
set_option maxHeartbeats 4000000 in
theorem spoil0 {l : List Int} {a : Nat} (xs : List Fld) : (TapeOk l a ∧ xs.length ≤ 10 ∧ ∀ f ∈ xs, FldB f ∧ f.2.2.length ≤ 1000) → ∃ x : List Fld × Nat, ((x.1.length ≤ 11 ∧ ∀ f ∈ x.1, FldB f) ∧ TapeOk l x.2) ∧ Sx.Spec Tryd.prog GG 8 [.ptr 1000 0, .d (encL encFld 3 xs)] [(1000, tapeB l a)] (.d (encL encFld 3 x.1)) [(1000, tapeB l x.2)] := by
  rintro ⟨h, hl, hb⟩
  have hgb2 : ∀ i, FldB (xs.getD i default) ∧ (xs.getD i default).2.2.length ≤ 1000 := fun i => by
    rcases Nat.lt_or_ge i xs.length with hi | hi
    · have : xs.getD i default ∈ xs := by simp [List.getD, hi]
      exact hb _ this
    · have e : xs.getD i default = default := by simp [List.getD, hi]
      rw [e]; simp [FldB, default]
  have hgb := fun i => (hgb2 i).1
  have hgt := fun i => (hgb2 i).2
  refine spec_some (E := EL) (fn := Tryd.f8) _ _ _ false eokL (by kernel_rfl) (by kernel_rfl) Tryd.call8 (by kernel_rfl) (fun _ => by kernel_rfl) (fun _ => by kernel_rfl) ?_
  conv => whnf
  repeat' first
    | (refine call_some_if (next_ex _ (n := ((0 + xs.length : Nat) : Int))) (fun _ => by first | exact .inl rfl | exact .inr ⟨rfl, rfl⟩) (need_intro ?_ ?_); rintro ⟨u, b⟩ ⟨⟨u1, u2⟩, h3⟩; (conv => whnf))
    | (refine call_some_if (next_ex _ (n := 4)) (fun _ => by first | exact .inl rfl | exact .inr ⟨rfl, rfl⟩) (need_intro ?_ ?_); rintro ⟨c, b⟩ ⟨⟨c1, c2⟩, h3⟩; (conv => whnf))
    | (refine call_some_if (next_ex _ (n := 5)) (fun _ => by first | exact .inl rfl | exact .inr ⟨rfl, rfl⟩) (need_intro ?_ ?_); rintro ⟨w, b⟩ ⟨⟨w1, w2⟩, h3⟩; (conv => whnf))
    | (refine bc_true (by assumption) ?_; (conv => whnf))
    | (refine bc_false (by assumption) ?_; (conv => whnf))
    | (refine bc_intro (fun _ => ?_) (fun _ => ?_) <;> (conv => whnf))
    | (refine need_intro ?_ ?_; (conv => whnf))
    | (refine wk_refl ?_; (conv => whnf))
    | (refine draw_intro (by kernel_rfl) ?_; (conv => whnf))
    | (refine ord_intro (by kernel_rfl) ?_; (conv => whnf))
  all_goals try dsimp only at *
  all_goals try simp only [Nat.zero_add, Nat.sub_zero, Int.toNat_natCast, beq_iff_eq, beq_eq_false_iff_ne, ne_eq, cellsF, bytesF, Nat.not_lt_zero, if_false] at *
  all_goals try first
    | exact trivial
    | omega
    | exact ⟨by assumption, by omega, by omega⟩
    | exact ⟨by omega, by omega⟩
    | exact ⟨by omega, by omega, by omega⟩
    | exact ⟨trivial, by omega, by omega⟩
  all_goals first
    | (have hgtu := hgt u.toNat; simp only [List.length_cons, List.length_nil]; omega)
    | (refine (spoil_key _ _ (fun i => if i = u.toNat then (IntKind.i64.wrap (w - 1), (xs.getD u.toNat default).2.1, (xs.getD u.toNat default).2.2) else xs.getD i default) ?_ ?_ ?_).elim fun ys hys => ⟨(ys, b), ⟨hys.1, h3⟩, LeS.d hys.2, LeL.refl _, trivial⟩
       · omega
       · intro i hi
         split
         · exact (hgb u.toNat)
         · exact hgb i
       · intro i hi; by_cases e : i = u.toNat
         · subst e; simp only [eq_self, if_true]; exact ⟨rfl, rfl, rfl⟩
         · simp only [if_neg e]; exact ⟨rfl, rfl, rfl⟩)
    | (refine (spoil_key _ _ (fun i => if i = u.toNat then ((xs.getD u.toNat default).1, IntKind.i64.wrap ((xs.getD u.toNat default).2.1 + 1), (xs.getD u.toNat default).2.2) else xs.getD i default) ?_ ?_ ?_).elim fun ys hys => ⟨(ys, b), ⟨hys.1, h3⟩, LeS.d hys.2, LeL.refl _, trivial⟩
       · omega
       · intro i hi
         split
         · exact wraps64 _
         · exact hgb i
       · intro i hi; by_cases e : i = u.toNat
         · subst e; simp only [eq_self, if_true]; exact ⟨rfl, rfl, rfl⟩
         · simp only [if_neg e]; exact ⟨rfl, rfl, rfl⟩)
    | (refine (spoil_key _ _ (fun i => if i = u.toNat then ((xs.getD u.toNat default).1, (xs.getD u.toNat default).2.1, (xs.getD u.toNat default).2.2 ++ [48, 49, 50, 51, 52, 53, 54, 55, 56, 57, 97, 98, 99, 100, 101, 102]) else xs.getD i default) ?_ ?_ ?_).elim fun ys hys => ⟨(ys, b), ⟨hys.1, h3⟩, LeS.d hys.2, LeL.refl _, trivial⟩
       · omega
       · intro i hi
         split
         · exact (hgb u.toNat)
         · exact hgb i
       · intro i hi; by_cases e : i = u.toNat
         · subst e; simp only [eq_self, if_true]; exact ⟨rfl, rfl, rfl⟩
         · simp only [if_neg e]; exact ⟨rfl, rfl, rfl⟩)
    | (refine (spoil_key _ _ (fun i => if i < xs.length then xs.getD i default else xs.getD u.toNat default) ?_ ?_ ?_).elim fun ys hys => ⟨(ys, b), ⟨hys.1, h3⟩, LeS.d hys.2, LeL.refl _, trivial⟩
       · omega
       · intro i hi
         split
         · exact hgb i
         · exact hgb u.toNat
       · intro i hi; by_cases e : i < xs.length
         · simp only [if_pos e]; exact ⟨rfl, rfl, rfl⟩
         · have e2 : i = xs.length := by omega
           subst e2
           simp only [if_neg e, Nat.sub_self]; exact ⟨rfl, rfl, rfl⟩)
    | (refine (spoil_key _ _ (fun i => if i < xs.length then xs.getD i default else (IntKind.i64.wrap (c - 1), 1, [120])) ?_ ?_ ?_).elim fun ys hys => ⟨(ys, b), ⟨hys.1, h3⟩, LeS.d hys.2, LeL.refl _, trivial⟩
       · omega
       · intro i hi
         split
         · exact hgb i
         · simp only [FldB]; omega
       · intro i hi; by_cases e : i < xs.length
         · simp only [if_pos e]; exact ⟨rfl, rfl, rfl⟩
         · have e2 : i = xs.length := by omega
           subst e2
           simp only [if_neg e, Nat.sub_self]; exact ⟨rfl, rfl, rfl⟩)
    | trace_state
theorem spoil_ex (m : Nat) {l : List Int} {a : Nat} (xs : List Fld) : (TapeOk l a ∧ xs.length ≤ 10 ∧ ∀ f ∈ xs, FldB f ∧ f.2.2.length ≤ 1000) → ∃ x : List Fld × Nat, ((x.1.length ≤ 11 ∧ ∀ f ∈ x.1, FldB f) ∧ TapeOk l x.2) ∧ Sx.Spec Tryd.prog GG 8 [.ptr m 0, .d (encL encFld 3 xs)] [(m, tapeB l a)] (.d (encL encFld 3 x.1)) [(m, tapeB l x.2)] := fun h => by
  obtain ⟨x, hx, hs⟩ := spoil0 xs h
  exact ⟨x, hx, hs.at m⟩
/-! all functions agree -/
set_option maxHeartbeats 4000000 in
theorem same2_spec (s : List Col) (a b : List Fld) : (s.length ≤ 1000 ∧ a.length ≤ 1000 ∧ b.length ≤ 1000 ∧ ∀ f ∈ a, FldB f) → Sx.Spec Tryd.prog GG 10 [.d (encL encCol 2 s), .d (encL encFld 3 a), .d (encL encFld 3 b)] [] (.d (.bool true)) [] := by
  rintro ⟨hs, ha, hb, hF⟩
  refine spec_intro (E := EE) (fn := Tryd.f10) eok (by kernel_rfl) (by kernel_rfl) Tryd.call10 (by kernel_rfl) (by kernel_rfl) ?_
  conv => whnf
  repeat' first
    | (refine call_if (encp_spec s _) (by first | exact .inl rfl | exact .inr ⟨rfl, rfl⟩) (need_intro ?_ ?_); (conv => whnf))
    | (refine call_if (encr_spec s _) (by first | exact .inl rfl | exact .inr ⟨rfl, rfl⟩) (need_intro ?_ ?_); (conv => whnf))
    | (refine call_if (pref2p_spec s _) (by first | exact .inl rfl | exact .inr ⟨rfl, rfl⟩) (need_intro ?_ ?_); (conv => whnf))
    | (refine call_if (pref2r_spec s _) (by first | exact .inl rfl | exact .inr ⟨rfl, rfl⟩) (need_intro ?_ ?_); (conv => whnf))
    | (refine call_if (validSp_spec s) (by first | exact .inl rfl | exact .inr ⟨rfl, rfl⟩) (need_intro ?_ ?_); (conv => whnf))
    | (refine call_if (validSr_spec s) (by first | exact .inl rfl | exact .inr ⟨rfl, rfl⟩) (need_intro ?_ ?_); (conv => whnf))
    | (refine call_if (fitsLp_spec s _) (by first | exact .inl rfl | exact .inr ⟨rfl, rfl⟩) (need_intro ?_ ?_); (conv => whnf))
    | (refine call_if (fitsLr_spec s _) (by first | exact .inl rfl | exact .inr ⟨rfl, rfl⟩) (need_intro ?_ ?_); (conv => whnf))
    | (refine call_if (comparep_spec2 s _ _) (by first | exact .inl rfl | exact .inr ⟨rfl, rfl⟩) (need_intro ?_ ?_); (conv => whnf))
    | (refine call_if (comparer_spec2 s _ _) (by first | exact .inl rfl | exact .inr ⟨rfl, rfl⟩) (need_intro ?_ ?_); (conv => whnf))
    | (refine bc_true (by assumption) ?_; (conv => whnf))
    | (refine bc_false (by assumption) ?_; (conv => whnf))
    | (refine bc_intro (fun _ => ?_) (fun _ => ?_) <;> (conv => whnf))
    | (refine need_intro ?_ ?_; (conv => whnf))
    | (refine wk_refl ?_; (conv => whnf))
    | (refine draw_intro (by kernel_rfl) ?_; (conv => whnf))
    | (refine ord_intro (by kernel_rfl) ?_; (conv => whnf))
  all_goals first
    | exact ⟨hs, ha, hF⟩
    | exact ⟨hs, ha⟩
    | exact hs
    | exact ⟨hs, ha, hb⟩
    | exact ⟨LeS.refl _, trivial⟩
    | (exfalso; simp at *; done)
    | exact ⟨LeS.of_eq (by simp), trivial⟩
    | trace_state
theorem same2_at (s : List Col) (a b : List Fld) {n : Nat} {g : Nat → Nat → D} : ((n = s.length ∧ RowLe n 2 g (cellOf encCol s)) ∧ s.length ≤ 1000 ∧ a.length ≤ 1000 ∧ b.length ≤ 1000 ∧ ∀ f ∈ a, FldB f) → Sx.Spec Tryd.prog GG 10 [.d (.list n 2 g), .d (encL encFld 3 a), .d (encL encFld 3 b)] [] (.d (.bool true)) [] := fun ⟨⟨e, hr⟩, h⟩ => by
  subst e
  exact (same2_spec s a b h).arg (LeL.cons (LeS.d (DLe.rows rfl hr)) (LeL.refl _))
end Go.Proofs.YtigmgeglnbjfeaaDoor
