/- FoldParts: for every list of keys, cuts tile the keyspace and the folds of the parts join to the fold of the whole. -/
import Derived.Test.YtnpemjhllmfedaaDoorLay
import Derived.Test.YtnpemjhllmfedaaDoorFold
import Derived.Test.YtnpemjhllmfedaaDoorT6
import Derived.Test.YtnpemjhllmfedaaDoorT7
namespace Go.Proofs.YtnpemjhllmfedaaDoor
open Go Go.Sx Go.ChangeShapes Go.WideShapes Go.ChangeAt Go.WideMaps Go.WideElems Go.RowKit
set_option linter.unusedVariables false
set_option linter.unusedSimpArgs false
set_option maxRecDepth 100000
/-! FoldValid -/
/-! Parts -/
def partsF (rows : List Row) (l : List Rng) : List FoldR := l.map fun r => foldOf (sliceF rows r.1 r.2.1 r.2.2.1 r.2.2.2)
theorem parts_take {rows : List Row} {l : List Rng} {i : Nat} (h : i < l.length) : partsF rows (l.take (i + 1)) = partsF rows (l.take i) ++ [foldOf (sliceF rows (l.getD i default).1 (l.getD i default).2.1 (l.getD i default).2.2.1 (l.getD i default).2.2.2)] := by
  rw [take_succ' h, partsF, List.map_append]; rfl
theorem cellsFold : Tryd.prog.cellsOf 30 = 7 := by kernel_rfl
theorem bytesFold : Tryd.prog.bytesOf 30 = 72 := by kernel_rfl
theorem cellsRng : Tryd.prog.cellsOf 53 = 4 := by kernel_rfl
theorem bytesRng : Tryd.prog.bytesOf 53 = 48 := by kernel_rfl
theorem cellsBnd : Tryd.prog.cellsOf 47 = 2 := by kernel_rfl
theorem bytesBnd : Tryd.prog.bytesOf 47 = 24 := by kernel_rfl
theorem of_at (rows : List Row) : rows.length ≤ 9000000 → Sx.Spec Tryd.prog GG 11 [.d (encL encRow 2 rows)] [] (encFold (foldOf rows)) [] := fun h => of_spec rows (by omega)
theorem partsp_spec (rows : List Row) (l : List Rng) : (rows.length ≤ 1000 ∧ l.length ≤ 1000) → Sx.Spec Tryd.prog GG 22 [.d (encL encRow 2 rows), .d (encL encRng 4 l)] [] (.d (encL encFoldD 7 (partsF rows l))) [] := by
  rintro ⟨hlen, hll⟩
  refine spec_intro (E := EE) (fn := Tryd.f22) eok (by kernel_rfl) (by kernel_rfl) Tryd.call22 (by kernel_rfl) (by kernel_rfl) ?_
  conv => whnf
  repeat' first
    | (refine bc_true (by assumption) ?_; (conv => whnf))
    | (refine bc_false (by assumption) ?_; (conv => whnf))
    | (refine bc_intro (fun _ => ?_) (fun _ => ?_) <;> (conv => whnf))
    | (refine need_intro ?_ ?_; (conv => whnf))
    | (refine wk_refl ?_; (conv => whnf))
    | (refine draw_intro (by kernel_rfl) ?_; (conv => whnf))
    | (refine ord_intro (by kernel_rfl) ?_; (conv => whnf))
  refine loop_auto [0, 8, 9] [] (fun i : Nat => [(5, .osl 500 7 0 (partsF rows (l.take i)).length), (10, .d (.int .i64 i))]) (fun i => [(500, .row 30 7 (partsF rows (l.take i)).length (cellOf encFoldD (partsF rows (l.take i))))]) (fun i => i ≤ l.length) (fun i => l.length - i) 0 ?_ (fun i hi => ?_) (Nat.zero_le _)
  · conv => whnf
    repeat' first
      | (refine bc_true (by assumption) ?_; (conv => whnf))
      | (refine bc_false (by assumption) ?_; (conv => whnf))
      | (refine bc_intro (fun _ => ?_) (fun _ => ?_) <;> (conv => whnf))
      | (refine need_intro ?_ ?_; (conv => whnf))
      | (refine wk_refl ?_; (conv => whnf))
      | (refine draw_intro (by kernel_rfl) ?_; (conv => whnf))
      | (refine ord_intro (by kernel_rfl) ?_; (conv => whnf))
    all_goals first | exact ⟨rfl, rfl⟩ | exact ⟨rfl, rfl, rfl⟩ | exact DLe.refl _ | exact RowLe.refl _ _ _ | exact trivial
  · have hs : IntKind.i64.wrap ((i : Int) + 1) = ((i + 1 : Nat) : Int) := wrap_succ (n := 1099511627777) (by omega) (by omega)
    have hl : (partsF rows (l.take i)).length = i := by simp [partsF]; omega
    conv => whnf
    repeat' first
      | (refine call_if (slicep_spec _ _ _ _ _) (by first | exact .inl rfl | exact .inr ⟨rfl, rfl⟩) (need_intro ?_ ?_); (conv => whnf))
      | (refine call_if (of_at _) (by first | exact .inl rfl | exact .inr ⟨rfl, rfl⟩) (need_intro ?_ ?_); (conv => whnf))
      | (refine NextVC.mk (i + 1) ?_ ?_ ?_; (conv => whnf))
      | (refine bc_true (by assumption) ?_; (conv => whnf))
      | (refine bc_false (by assumption) ?_; (conv => whnf))
      | (refine bc_intro (fun _ => ?_) (fun _ => ?_) <;> (conv => whnf))
      | (refine need_intro ?_ ?_; (conv => whnf))
      | (refine wk_refl ?_; (conv => whnf))
      | (refine draw_intro (by kernel_rfl) ?_; (conv => whnf))
      | (refine ord_intro (by kernel_rfl) ?_; (conv => whnf))
    all_goals try simp only [decide_eq_true_eq, decide_eq_false_iff_not, Int.toNat_natCast, cellsFold, bytesFold, true_and, and_true] at *
    all_goals first
      | exact trivial
      | omega
      | exact DLe.refl _
      | exact DLe.of_eq (by rw [hs])
      | exact ⟨by omega, by omega⟩
      | (exact Nat.le_trans slice_len (by omega))
      | (rw [parts_take (by omega)]; simp only [List.length_append, List.length_singleton]; done)
      | (rw [parts_take (by omega)]; simp only [List.length_append, List.length_singleton]; exact row_snocA rfl (RowLe.refl _ _ _) (by repeat' first | exact trivial | exact DLe.of_eq rfl | apply And.intro))
      | exact ⟨les_own (by rw [show i = l.length by omega, List.take_length]), trivial⟩
      | trace_state
theorem partsr_spec (rows : List Row) (l : List Rng) : (rows.length ≤ 1000 ∧ l.length ≤ 1000) → Sx.Spec Tryd.prog GG 23 [.d (encL encRow 2 rows), .d (encL encRng 4 l)] [] (.d (encL encFoldD 7 (partsF rows l))) [] := by
  rintro ⟨hlen, hll⟩
  refine spec_intro (E := EE) (fn := Tryd.f23) eok (by kernel_rfl) (by kernel_rfl) Tryd.call23 (by kernel_rfl) (by kernel_rfl) ?_
  conv => whnf
  repeat' first
    | (refine bc_true (by assumption) ?_; (conv => whnf))
    | (refine bc_false (by assumption) ?_; (conv => whnf))
    | (refine bc_intro (fun _ => ?_) (fun _ => ?_) <;> (conv => whnf))
    | (refine need_intro ?_ ?_; (conv => whnf))
    | (refine wk_refl ?_; (conv => whnf))
    | (refine draw_intro (by kernel_rfl) ?_; (conv => whnf))
    | (refine ord_intro (by kernel_rfl) ?_; (conv => whnf))
  refine loop_auto [0, 8, 9] [] (fun i : Nat => [(5, .osl 500 7 0 (partsF rows (l.take i)).length), (10, .d (.int .i64 i))]) (fun i => [(500, .row 30 7 (partsF rows (l.take i)).length (cellOf encFoldD (partsF rows (l.take i))))]) (fun i => i ≤ l.length) (fun i => l.length - i) 0 ?_ (fun i hi => ?_) (Nat.zero_le _)
  · conv => whnf
    repeat' first
      | (refine bc_true (by assumption) ?_; (conv => whnf))
      | (refine bc_false (by assumption) ?_; (conv => whnf))
      | (refine bc_intro (fun _ => ?_) (fun _ => ?_) <;> (conv => whnf))
      | (refine need_intro ?_ ?_; (conv => whnf))
      | (refine wk_refl ?_; (conv => whnf))
      | (refine draw_intro (by kernel_rfl) ?_; (conv => whnf))
      | (refine ord_intro (by kernel_rfl) ?_; (conv => whnf))
    all_goals first | exact ⟨rfl, rfl⟩ | exact ⟨rfl, rfl, rfl⟩ | exact DLe.refl _ | exact RowLe.refl _ _ _ | exact trivial
  · have hs : IntKind.i64.wrap ((i : Int) + 1) = ((i + 1 : Nat) : Int) := wrap_succ (n := 1099511627777) (by omega) (by omega)
    have hl : (partsF rows (l.take i)).length = i := by simp [partsF]; omega
    conv => whnf
    repeat' first
      | (refine call_if (slicer_spec _ _ _ _ _) (by first | exact .inl rfl | exact .inr ⟨rfl, rfl⟩) (need_intro ?_ ?_); (conv => whnf))
      | (refine call_if (refOf_at _) (by first | exact .inl rfl | exact .inr ⟨rfl, rfl⟩) (need_intro ?_ ?_); (conv => whnf))
      | (refine NextVC.mk (i + 1) ?_ ?_ ?_; (conv => whnf))
      | (refine bc_true (by assumption) ?_; (conv => whnf))
      | (refine bc_false (by assumption) ?_; (conv => whnf))
      | (refine bc_intro (fun _ => ?_) (fun _ => ?_) <;> (conv => whnf))
      | (refine need_intro ?_ ?_; (conv => whnf))
      | (refine wk_refl ?_; (conv => whnf))
      | (refine draw_intro (by kernel_rfl) ?_; (conv => whnf))
      | (refine ord_intro (by kernel_rfl) ?_; (conv => whnf))
    all_goals try simp only [decide_eq_true_eq, decide_eq_false_iff_not, Int.toNat_natCast, cellsFold, bytesFold, true_and, and_true] at *
    all_goals first
      | exact trivial
      | omega
      | exact DLe.refl _
      | exact DLe.of_eq (by rw [hs])
      | exact ⟨by omega, by omega⟩
      | (exact Nat.le_trans slice_len (by omega))
      | (rw [parts_take (by omega)]; simp only [List.length_append, List.length_singleton]; done)
      | (rw [parts_take (by omega)]; simp only [List.length_append, List.length_singleton]; exact row_snocA rfl (RowLe.refl _ _ _) (by repeat' first | exact trivial | exact DLe.of_eq rfl | apply And.intro))
      | exact ⟨les_own (by rw [show i = l.length by omega, List.take_length]), trivial⟩
      | trace_state
/-! FoldParts -/
theorem allF_snoc {l : List FoldR} {s : List Row} (hs : s.length < 4000000) : allF (l ++ [foldOf s]) = joinF (allF l) (foldOf s) := by
  cases l with
  | nil => exact foldOf_append (a := []) (b := s) (by simpa using hs)
  | cons x l => simp only [List.cons_append, allF, List.foldl_append, List.foldl_cons, List.foldl_nil]
theorem tiles_step {x : List Row} {tiles : List Rng} {ak ck : List UInt8} {a c : Bool} (hx : TabOk x) (hl : x.length ≤ 1000) (ha : validB ak a = true) (hc : validB ck c = true) (hac : cmpB ak a ck c < 0)
    (h : allF (partsF x tiles) = foldOf (belowF x ak a)) : allF (partsF x (tiles ++ [(ak, a, ck, c)])) = foldOf (belowF x ck c) := by
  have h1 : (sliceF x ak a ck c).length ≤ 1000 := Nat.le_trans slice_len hl
  have h2 : (belowF x ak a).length ≤ 1000 := Nat.le_trans (List.length_filter_le _ _) hl
  rw [below_split hx ha hc hac, foldOf_append (by omega), ← h, partsF, List.map_append]
  exact allF_snoc (by simp only; omega)
theorem tiles_last {x : List Row} {tiles : List Rng} {ak : List UInt8} {a : Bool} (hx : TabOk x) (hl : x.length ≤ 1000) (ha : validB ak a = true)
    (h : allF (partsF x tiles) = foldOf (belowF x ak a)) : allF (partsF x (tiles ++ [(ak, a, [], true)])) = foldOf x := by
  cases a with
  | false =>
    have := tiles_step (ck := []) (c := true) hx hl ha (by decide) (cmp_lt.2 ⟨rfl, .inl rfl⟩) h
    rwa [below_top] at this
  | true =>
    rw [below_top] at h
    have he : sliceF x ak true [] true = [] := by
      unfold sliceF
      rw [List.filter_eq_nil_iff]
      intro r _
      simp [containsR, emptyR, cmpB]
    have h2 := allF_snoc (l := partsF x tiles) (s := sliceF x ak true [] true) (by rw [he]; simp)
    rw [partsF, List.map_append]
    refine (show _ = _ from h2).trans ?_
    rw [h, he, ← foldOf_append (by simp; omega), List.append_nil]
theorem all_at (l : List FoldR) : l.length ≤ 1000 → Sx.Spec Tryd.prog GG 20 [.d (encL encFoldD 7 l)] [] (encFold (allF l)) [] := fun h => allp_spec l (by omega)
theorem parts_row (rows : List Row) (l : List Rng) {n : Nat} {g : Nat → Nat → D} : (n = l.length ∧ RowLe n 4 g (cellOf encRng l) ∧ rows.length ≤ 1000 ∧ l.length ≤ 1000) → Sx.Spec Tryd.prog GG 22 [.d (encL encRow 2 rows), .d (.list n 4 g)] [] (.d (encL encFoldD 7 (partsF rows l))) [] := by
  rintro ⟨rfl, hg, h1, h2⟩
  exact (partsp_spec rows l ⟨h1, h2⟩).arg (LeL.cons (LeS.refl _) (LeL.cons (LeS.d (DLe.rows rfl hg)) LeL.nil))
theorem foldParts_law (l : List Int) (hl : ∀ x ∈ l, -9223372036854775808 ≤ x ∧ x < 9223372036854775808) : Sx.Spec Tryd.prog GG 6 [.d (encL encI 1 l)] [] (.d (.bool true)) [] := by
  refine spec_intro (E := EE) (fn := Tryd.f6) eok (by kernel_rfl) (by kernel_rfl) Tryd.call6 (by kernel_rfl) (by kernel_rfl) ?_
  conv => whnf
  repeat' first
    | (refine call_some (new_ex 2000 hl) (fun _ => by first | exact .inl rfl | exact .inr ⟨rfl, rfl⟩) ?_; rintro ⟨tl, ta⟩ hT; (conv => whnf))
    | (refine call_some_if (rows_ex _) (fun _ => by first | exact .inl rfl | exact .inr ⟨rfl, rfl⟩) (need_intro ?_ ?_); rintro ⟨x, b⟩ ⟨⟨h1, h2⟩, h3⟩; (conv => whnf))
    | (refine call_some_if (ranges_ex _) (fun _ => by first | exact .inl rfl | exact .inr ⟨rfl, rfl⟩) (need_intro ?_ ?_); rintro ⟨r, b⟩ ⟨h4, h5⟩; (conv => whnf))
    | (refine call_if (partsp_spec _ _) (by first | exact .inl rfl | exact .inr ⟨rfl, rfl⟩) (need_intro ?_ ?_); (conv => whnf))
    | (refine call_if (partsr_spec _ _) (by first | exact .inl rfl | exact .inr ⟨rfl, rfl⟩) (need_intro ?_ ?_); (conv => whnf))
    | (refine bc_true (by assumption) ?_; (conv => whnf))
    | (refine bc_false (by assumption) ?_; (conv => whnf))
    | (refine bc_intro (fun _ => ?_) (fun _ => ?_) <;> (conv => whnf))
    | (refine need_intro ?_ ?_; (conv => whnf))
    | (refine wk_refl ?_; (conv => whnf))
    | (refine draw_intro (by kernel_rfl) ?_; (conv => whnf))
    | (refine ord_intro (by kernel_rfl) ?_; (conv => whnf))
  all_goals try simp only [decide_eq_true_eq, decide_eq_false_iff_not] at *
  all_goals try first
    | omega
    | exact ⟨by assumption, by omega, by omega⟩
    | exact ⟨by omega, by omega⟩
    | (exfalso; simp at *; done)
  have hp : (partsF x r).length ≤ 4 := by simp only [partsF, List.length_map]; omega
  refine loop_auto [3, 4, 6, 7, 30, 31] [2000] (fun i : Nat => [(32, .d (.int .i64 i))]) (fun _ => []) (fun i => i ≤ (partsF x r).length) (fun i => (partsF x r).length - i) 0 ?_ (fun i hi => ?_) (Nat.zero_le _)
  · conv => whnf
    repeat' first
      | (refine bc_true (by assumption) ?_; (conv => whnf))
      | (refine bc_false (by assumption) ?_; (conv => whnf))
      | (refine bc_intro (fun _ => ?_) (fun _ => ?_) <;> (conv => whnf))
      | (refine need_intro ?_ ?_; (conv => whnf))
      | (refine wk_refl ?_; (conv => whnf))
      | (refine draw_intro (by kernel_rfl) ?_; (conv => whnf))
      | (refine ord_intro (by kernel_rfl) ?_; (conv => whnf))
    all_goals first | exact ⟨rfl, rfl⟩ | exact ⟨rfl, rfl, rfl⟩ | exact DLe.refl _ | exact RowLe.refl _ _ _ | exact trivial
  · have hs : IntKind.i64.wrap ((i : Int) + 1) = ((i + 1 : Nat) : Int) := wrap_succ (n := 1000) (by omega) (by omega)
    conv => whnf
    repeat' first
      | (refine call_some_if (cuts_ex _) (fun _ => by first | exact .inl rfl | exact .inr ⟨rfl, rfl⟩) (need_intro ?_ ?_); rintro ⟨cs, b⟩ ⟨h6, h7⟩; (conv => whnf))
      | (refine NextVC.mk (i + 1) ?_ ?_ ?_; (conv => whnf))
      | (refine bc_true (by assumption) ?_; (conv => whnf))
      | (refine bc_false (by assumption) ?_; (conv => whnf))
      | (refine bc_intro (fun _ => ?_) (fun _ => ?_) <;> (conv => whnf))
      | (refine need_intro ?_ ?_; (conv => whnf))
      | (refine wk_refl ?_; (conv => whnf))
      | (refine draw_intro (by kernel_rfl) ?_; (conv => whnf))
      | (refine ord_intro (by kernel_rfl) ?_; (conv => whnf))
    all_goals try simp only [decide_eq_true_eq, decide_eq_false_iff_not] at *
    all_goals try first
      | exact trivial
      | omega
      | exact DLe.refl _
      | exact RowLe.refl _ _ _
      | exact DLe.of_eq (by rw [hs])
      | exact ⟨by omega, by omega⟩
      | (simp only [List.length_append, List.length_singleton]; done)
      | (simp only [List.length_append, List.length_singleton]; exact row_snoc rfl (RowLe.refl _ _ _) (jlt2 (DLe.of_eq rfl) (DLe.of_eq rfl)))
      | (simp only [List.length_append, List.length_singleton]; exact row_snoc (by simp) (row_snoc rfl (RowLe.refl _ _ _) (jlt2 (DLe.of_eq rfl) (DLe.of_eq rfl))) (jlt2 (DLe.of_eq rfl) (DLe.of_eq rfl)))
      | exact ⟨by assumption, by omega, by omega⟩
      | (exfalso; simp at *; done)
    clear hs hi
    refine loop_auto [3, 4, 10, 47, 48] [2000] (fun y : Nat × List Rng × Bnd => [(9, .osl 500 4 0 y.2.1.length), (49, .d (.int .i64 y.1))]) (fun y => [(10, .box [.d (.str y.2.2.1), .d (.bool y.2.2.2)]), (500, .row 53 4 y.2.1.length (cellOf encRng y.2.1))])
      (fun y => (y.1 ≤ cs.length ∧ y.2.1.length ≤ y.1) ∧ validB y.2.2.1 y.2.2.2 = true ∧ allF (partsF x y.2.1) = foldOf (belowF x y.2.2.1 y.2.2.2)) (fun y => cs.length - y.1) (0, [], [], false) ?_ (fun y hy => ?_) ⟨⟨Nat.zero_le _, Nat.le_refl _⟩, by decide, by rw [below_first]; rfl⟩
    · conv => whnf
      repeat' first
        | (refine bc_true (by assumption) ?_; (conv => whnf))
        | (refine bc_false (by assumption) ?_; (conv => whnf))
        | (refine bc_intro (fun _ => ?_) (fun _ => ?_) <;> (conv => whnf))
        | (refine need_intro ?_ ?_; (conv => whnf))
        | (refine wk_refl ?_; (conv => whnf))
        | (refine draw_intro (by kernel_rfl) ?_; (conv => whnf))
        | (refine ord_intro (by kernel_rfl) ?_; (conv => whnf))
      all_goals first | exact ⟨rfl, rfl⟩ | exact ⟨rfl, rfl, rfl⟩ | exact DLe.refl _ | exact RowLe.refl _ _ _ | exact trivial
    · obtain ⟨i, tiles, ak, a⟩ := y
      obtain ⟨⟨hi1, hi2⟩, hva, hinv⟩ := hy
      simp only at hi1 hi2 hva hinv
      have hs : IntKind.i64.wrap ((i : Int) + 1) = ((i + 1 : Nat) : Int) := wrap_succ (n := 1000) (by omega) (by omega)
      conv => whnf
      repeat' first
        | (refine call_intro (validBoundr_spec _ _) ?_ (by first | exact .inl rfl | exact .inr ⟨rfl, rfl⟩); (conv => whnf))
        | (refine call_intro (comparer_spec _ _ _ _) ?_ (by first | exact .inl rfl | exact .inr ⟨rfl, rfl⟩); (conv => whnf))
        | (refine call_if (parts_row x (tiles ++ [(ak, a, [], true)])) (by first | exact .inl rfl | exact .inr ⟨rfl, rfl⟩) (need_intro ?_ ?_); (conv => whnf))
        | (refine call_if (all_at _) (by first | exact .inl rfl | exact .inr ⟨rfl, rfl⟩) (need_intro ?_ ?_); (conv => whnf))
        | (refine call_if (of_at _) (by first | exact .inl rfl | exact .inr ⟨rfl, rfl⟩) (need_intro ?_ ?_); (conv => whnf))
        | (refine call_intro (awake_spec) ?_ (by first | exact .inl rfl | exact .inr ⟨rfl, rfl⟩); (conv => whnf))
        | (refine bc_true (by assumption) ?_; (conv => whnf))
        | (refine bc_false (by assumption) ?_; (conv => whnf))
        | (refine bc_intro (fun _ => ?_) (fun _ => ?_) <;> (conv => whnf))
        | (refine need_intro ?_ ?_; (conv => whnf))
        | (refine wk_refl ?_; (conv => whnf))
        | (refine draw_intro (by kernel_rfl) ?_; (conv => whnf))
        | (refine ord_intro (by kernel_rfl) ?_; (conv => whnf))
      all_goals try simp only [decide_eq_true_eq, decide_eq_false_iff_not, Int.toNat_natCast, cellsRng, bytesRng, true_and, and_true] at *
      have hpl : (partsF x (tiles ++ [(ak, a, [], true)])).length ≤ 1000 → True := fun _ => trivial
      all_goals first
        | omega
        | exact ⟨by omega, by omega⟩
        | (simp only [partsF, List.length_map, List.length_append, List.length_singleton]; omega)
        | (refine NextVC.mk (i + 1, tiles ++ [(ak, a, (cs.getD i default).1, (cs.getD i default).2)], (cs.getD i default).1, (cs.getD i default).2) ?_ ?_ ?_
           (conv => whnf)
           repeat' (refine need_intro ?_ ?_; (conv => whnf))
           all_goals try simp only [cellsRng, bytesRng, true_and, and_true, List.length_append, List.length_singleton, Int.toNat_natCast] at *
           all_goals first
             | exact trivial
             | omega
             | exact DLe.refl _
             | exact RowLe.refl _ _ _
             | exact DLe.of_eq (by rw [hs])
             | exact ⟨⟨by omega, by omega⟩, by assumption, by assumption⟩
             | exact ⟨⟨by omega, by omega⟩, by assumption, tiles_step h1 (by omega) hva (by assumption) (by assumption) hinv⟩
             | exact row_snocA rfl (RowLe.refl _ _ _) (by repeat' first | exact trivial | exact DLe.of_eq rfl | apply And.intro)
           done)
        | (refine NextVC.mk (i + 1, tiles, ak, a) ?_ ?_ ?_
           (conv => whnf)
           repeat' (refine need_intro ?_ ?_; (conv => whnf))
           all_goals try simp only [cellsRng, bytesRng, true_and, and_true, List.length_append, List.length_singleton, Int.toNat_natCast] at *
           all_goals first
             | exact trivial
             | omega
             | exact DLe.refl _
             | exact RowLe.refl _ _ _
             | exact DLe.of_eq (by rw [hs])
             | exact ⟨⟨by omega, by omega⟩, by assumption, by assumption⟩
             | exact ⟨⟨by omega, by omega⟩, by assumption, tiles_step h1 (by omega) hva (by assumption) (by assumption) hinv⟩
             | exact row_snocA rfl (RowLe.refl _ _ _) (by repeat' first | exact trivial | exact DLe.of_eq rfl | apply And.intro)
           done)
        | exact ⟨LeS.refl _, trivial⟩
        | (refine ⟨by simp only [List.length_append, List.length_singleton], ?_, by omega, by simp only [List.length_append, List.length_singleton]; omega⟩
           simp only [Nat.zero_add]
           exact row_snocA rfl (RowLe.refl _ _ _) (by repeat' first | exact trivial | exact DLe.of_eq rfl | apply And.intro))
        | (exfalso
           have hfin := tiles_last h1 (by omega) hva hinv
           have q := ‹(_ && _) = false›
           rw [hfin] at q
           simp at q; done)
        | skip
theorem foldParts_all (dss : List (List D)) (h : All2 (wfT Tryd.prog reachBytes 12) [22] dss) : Sx.Spec Tryd.prog GG 6 (svs Tryd.prog [22] dss) [] (.d (.bool true)) [] := by
  obtain ⟨y, rfl, hy⟩ := inv1 h
  obtain ⟨l, h1, h2, h3⟩ := ints_arg hy
  obtain ⟨_, _, rfl, _⟩ := hy
  exact (foldParts_law l h1).arg h2

theorem foldParts_lifted (os : Os) (started : os.Started) (H : Type) (enc : TypeId × Value → H) :
    ReturnsInHanded {} Tryd.checked os 6 .any (fun w args => (Rows.foldPartsSpec.pre enc Tryd.prog Tryd.f6 [] false w args ∧ laidMetH Tryd.prog laidL w) ∧ sizedMet enc Tryd.prog Tryd.f6 (OpenSpec.ofChange Rows.foldPartsSpec) false w args)
      (Rows.foldPartsSpec.post enc Tryd.prog Tryd.f6 false true false false) := by
  refine returnsInHanded_of_change_and (C := Tryd.checked) (X := fun w _ => laidMetH Tryd.prog laidL w) (fun _ _ _ hh h => h.of_heap hh) own started (by kernel_rfl) Tryd.func6
    (ChangeSpec.witness_shaped (enc := enc) (C := Tryd.checked) (os := os) (X := fun w _ => laidMetH Tryd.prog laidL w) false (World.doorLaid Tryd.prog 400 os) #[.slice none 0 0] 8 rfl (World.shaped_of_RefB (by kernel_rfl) (by kernel_rfl)) (by kernel_rfl) (by kernel_rfl) (by kernel_rfl) (door_met os _)) ?_
  intro W base args ds gs before hval hW hcnd hsz hL _
  refine law_contract (P := Tryd.prog) (ts := [22]) (bt := 4) (G := GG) laidOut (by rw [Tryd.params6]) (by kernel_rfl) Tryd.underlying4 (by kernel_rfl) rfl ?_ foldParts_all hval hW hsz (gok hL)
  intro ds h
  match ds, h with
  | [_], _ => rfl
theorem foldParts_over : Rows.foldPartsRow.holds Tryd.pinned (OpenSpec.ofChange Rows.foldPartsSpec) :=
  OpenClaim.holds_of_wide 6 Tryd.f6 rfl rfl rfl rfl rfl rfl rfl ⟨rfl, rfl, rfl, rfl, rfl⟩ rfl rfl rfl rfl rfl (by kernel_rfl) Tryd.func6 (by kernel_rfl)
    (of_decide_eq_true (by kernel_rfl)) (by unfold Func.isWrapper; first | (rw [if_pos (by decide +kernel)]; kernel_rfl) | (rw [if_neg (by decide +kernel)]; exact ⟨rfl, rfl⟩))
    (fun os started H enc _ => foldParts_lifted os started H enc)
theorem foldParts_plain : ∀ t ∈ [22], Tryd.prog.wantsStandIn t = false := by
  intro t ht
  simp only [List.mem_cons, List.not_mem_nil, or_false] at ht
  rcases ht with rfl <;> kernel_rfl
theorem foldParts_proved : Rows.FoldPartsCardSaid :=
  Claim7.holds_tied_plain_at .later [] [.data] true (true, "dddf54568fe74be658ed6077bea82da1adb5b8bb0a88a9339d462c5810c9159a") false
    foldParts_over (fun _ h => by cases h) (by kernel_rfl) (fun _ h => by cases h) foldParts_row_tie rfl ⟨rfl, rfl⟩ (by kernel_rfl) rfl
    (fun f fn hf hfn => by
      obtain rfl : f = 6 := Option.some.inj ((show Tryd.prog.funcNamed Rows.foldPartsRow.func = some 6 by kernel_rfl).symm.trans hf) |>.symm
      obtain rfl : fn = Tryd.f6 := (Option.some.inj (Tryd.func6.symm.trans hfn)).symm
      exact ⟨by kernel_rfl, fun j t ht => foldParts_plain t (by
        rw [Tryd.params6] at ht
        exact List.mem_of_getElem? (by simpa using ht))⟩)
    (by kernel_rfl)
#print axioms foldParts_proved

