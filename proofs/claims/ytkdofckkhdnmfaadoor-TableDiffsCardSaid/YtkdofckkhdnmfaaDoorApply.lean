/- Contracts of functions that the law reaches: YtkdofckkhdnmfaaDoorApply. Written for this claim. -/
import Derived.Test.YtkdofckkhdnmfaaDoorPuts
import Derived.Test.YtkdofckkhdnmfaaDoorSxTabC
namespace Go.Proofs.YtkdofckkhdnmfaaDoor
open Go Go.Sx Go.ChangeShapes Go.WideShapes Go.ChangeAt Go.RowKit
set_option linter.unusedVariables false
set_option linter.unusedSimpArgs false
set_option maxRecDepth 100000
/-! writes -/
def doF (rows : List Row) (w : Wr) : List Row × Int :=
  if !(validW w.1 w.2.1 w.2.2) then ([], 1) else if w.2.2 then (withoutF rows w.1, 0) else putF rows w.1 w.2.1
def goF : List Row → List Wr → List Row × Int
  | rows, [] => (rows, 0)
  | rows, w :: ws => if (doF rows w).2 = 0 then goF (doF rows w).1 ws else ([], (doF rows w).2)
def applyF (rows : List Row) (ws : List Wr) : List Row × Int := if validT rows then goF rows ws else ([], 1)
theorem do_spec (rows : List Row) (k v : List UInt8) (d : Bool) : rows.length ≤ 1099511627776 → Sx.Spec Tryd.prog GG 66 [.d (encL encRow 2 rows), .agg [.d (.str k), .d (.str v), .d (.bool d)]] [] (.tup [.d (encL encRow 2 (doF rows (k, v, d)).1), .d (.int .i64 (doF rows (k, v, d)).2)]) [] := by
  intro hlen
  refine spec_intro (E := EE) (fn := Tryd.f66) eok (by kernel_rfl) (by kernel_rfl) Tryd.call66 (by kernel_rfl) (by kernel_rfl) ?_
  conv => whnf
  repeat' first
    | (refine call_intro (validWr_spec _ _ _) ?_ (by first | exact .inl rfl | exact .inr ⟨rfl, rfl⟩); (conv => whnf))
    | (refine call_if (withoutr_spec _ _) (by first | exact .inl rfl | exact .inr ⟨rfl, rfl⟩) (need_intro ?_ ?_); (conv => whnf))
    | (refine call_intro (refPut_spec _ _ _) ?_ (by first | exact .inl rfl | exact .inr ⟨rfl, rfl⟩); (conv => whnf))
    | (refine bc_true (by assumption) ?_; (conv => whnf))
    | (refine bc_false (by assumption) ?_; (conv => whnf))
    | (refine bc_intro (fun _ => ?_) (fun _ => ?_) <;> (conv => whnf))
    | (refine need_intro ?_ ?_; (conv => whnf))
    | (refine wk_refl ?_; (conv => whnf))
    | (refine draw_intro (by kernel_rfl) ?_; (conv => whnf))
    | (refine ord_intro (by kernel_rfl) ?_; (conv => whnf))
  all_goals try simp only [Bool.not_eq_true', Bool.not_eq_false'] at *
  all_goals first
    | omega
    | (have e : doF rows (k, v, d) = ([], 1) := by simp_all [doF]
       rw [e]; exact ⟨LeS.tup (LeL.cons (les_nil rfl) (LeL.cons (LeS.refl _) LeL.nil)), trivial⟩)
    | (have e : doF rows (k, v, d) = (withoutF rows k, 0) := by simp_all [doF]
       rw [e]; exact ⟨LeS.refl _, trivial⟩)
    | (have e : doF rows (k, v, d) = putF rows k v := by simp_all [doF]
       rw [e]; exact ⟨LeS.refl _, trivial⟩)
    | trace_state
theorem validW_row {k v : List UInt8} {d : Bool} (h : validW k v d = true) : rowOk (k, v) = true := by
  simp only [validW, rowOk, Bool.and_eq_true] at h ⊢
  exact h.1
theorem do_tab {rows : List Row} {w : Wr} (h : TabOk rows) (he : (doF rows w).2 = 0) : TabOk (doF rows w).1 := by
  obtain ⟨k, v, d⟩ := w
  unfold doF at he ⊢
  by_cases hw : validW k v d = true
  · simp only [hw, Bool.not_true, Bool.false_eq_true, if_false] at he ⊢
    cases d with
    | true => exact ⟨Nat.le_trans without_len h.len, fun r hr => h.ok r (without_ne hr).1, h.sorted.sub without_sub⟩
    | false =>
      simp only [Bool.false_eq_true, if_false] at he ⊢
      have hr := validW_row hw
      by_cases hl : (withF rows (k, v)).length > 1024
      · rw [put_full (validT_iff.2 h) hr hl] at he; cases he
      · rw [put_ok (validT_iff.2 h) hr hl]
        obtain ⟨h1, h2, _⟩ := with_ok h hr
        exact ⟨by simp only; omega, h1, h2⟩
  · simp [hw] at he
theorem go_step {rows : List Row} {ws : List Wr} {i : Nat} (h : i < ws.length) : goF rows (ws.drop i) = if (doF rows (ws.getD i default)).2 = 0 then goF (doF rows (ws.getD i default)).1 (ws.drop (i + 1)) else ([], (doF rows (ws.getD i default)).2) := by
  have e : ws.drop i = ws.getD i default :: ws.drop (i + 1) := by
    rw [List.drop_eq_getElem_cons h]
    simp [List.getD, h]
  rw [e, goF]
theorem applyr_spec (rows : List Row) (ws : List Wr) : ws.length ≤ 1099511627776 → Sx.Spec Tryd.prog GG 46 [.d (encL encRow 2 rows), .d (encL encWr 3 ws)] [] (.tup [.d (encL encRow 2 (applyF rows ws).1), .d (.int .i64 (applyF rows ws).2)]) [] := by
  intro hlen
  refine spec_intro (E := EE) (fn := Tryd.f46) eok (by kernel_rfl) (by kernel_rfl) Tryd.call46 (by kernel_rfl) (by kernel_rfl) ?_
  conv => whnf
  repeat' first
    | (refine call_intro (validTr_spec _) ?_ (by first | exact .inl rfl | exact .inr ⟨rfl, rfl⟩); (conv => whnf))
    | (refine bc_true (by assumption) ?_; (conv => whnf))
    | (refine bc_false (by assumption) ?_; (conv => whnf))
    | (refine bc_intro (fun _ => ?_) (fun _ => ?_) <;> (conv => whnf))
    | (refine need_intro ?_ ?_; (conv => whnf))
    | (refine wk_refl ?_; (conv => whnf))
    | (refine draw_intro (by kernel_rfl) ?_; (conv => whnf))
    | (refine ord_intro (by kernel_rfl) ?_; (conv => whnf))
  all_goals try simp only [Bool.not_eq_true', Bool.not_eq_false'] at *
  · have e : applyF rows ws = ([], 1) := by simp_all [applyF]
    rw [e]; exact ⟨LeS.tup (LeL.cons (les_nil rfl) (LeL.cons (LeS.refl _) LeL.nil)), trivial⟩
  · rename_i hv
    have ea : applyF rows ws = goF rows ws := by simp [applyF, hv]
    rw [ea]
    refine loop_auto [13, 14] [] (fun x : Nat × List Row => [(0, .d (encL encRow 2 x.2)), (15, .d (.int .i64 x.1))]) (fun x => []) (fun x => x.1 ≤ ws.length ∧ TabOk x.2 ∧ goF rows ws = goF x.2 (ws.drop x.1)) (fun x => ws.length - x.1) (0, rows) ?_ (fun x hx => ?_) ⟨Nat.zero_le _, validT_iff.1 hv, rfl⟩
    · conv => whnf
      repeat' first
        | (refine bc_true (by assumption) ?_; (conv => whnf))
        | (refine bc_false (by assumption) ?_; (conv => whnf))
        | (refine bc_intro (fun _ => ?_) (fun _ => ?_) <;> (conv => whnf))
        | (refine need_intro ?_ ?_; (conv => whnf))
        | (refine wk_refl ?_; (conv => whnf))
        | (refine draw_intro (by kernel_rfl) ?_; (conv => whnf))
        | (refine ord_intro (by kernel_rfl) ?_; (conv => whnf))
      all_goals first | exact ⟨rfl, rfl⟩ | exact ⟨rfl, rfl, rfl⟩ | exact DLe.refl _ | exact RowLe.refl _ _ _ | exact trivial
    · obtain ⟨i, r⟩ := x
      obtain ⟨hi, ht, hg⟩ := hx
      simp only at hi ht hg
      have htl := ht.len
      have hs : IntKind.i64.wrap ((i : Int) + 1) = ((i + 1 : Nat) : Int) := wrap_succ (n := 1099511627777) (by omega) (by omega)
      conv => whnf
      repeat' first
        | (refine call_if (do_spec r _ _ _) (by first | exact .inl rfl | exact .inr ⟨rfl, rfl⟩) (need_intro ?_ ?_); (conv => whnf))
        | (refine NextVC.mk (i + 1, (doF r (ws.getD i default)).1) ?_ ?_ ?_; (conv => whnf))
        | (refine bc_true (by assumption) ?_; (conv => whnf))
        | (refine bc_false (by assumption) ?_; (conv => whnf))
        | (refine bc_intro (fun _ => ?_) (fun _ => ?_) <;> (conv => whnf))
        | (refine need_intro ?_ ?_; (conv => whnf))
        | (refine wk_refl ?_; (conv => whnf))
        | (refine draw_intro (by kernel_rfl) ?_; (conv => whnf))
        | (refine ord_intro (by kernel_rfl) ?_; (conv => whnf))
      all_goals try simp only [decide_eq_true_eq, decide_eq_false_iff_not, Int.toNat_natCast, bne_iff_ne, bne_eq_false_iff_eq, ne_eq, cellsRow, bytesRow] at *
      all_goals first
        | exact trivial
        | omega
        | exact DLe.refl _
        | exact DLe.of_eq (by rw [hs])
        | exact ⟨by omega, by omega⟩
        | (rw [go_step (by omega)] at hg
           refine ⟨by omega, do_tab ht (by assumption), ?_⟩
           rw [hg, if_pos (by assumption)])
        | (rw [hg, go_step (by omega), if_neg (by assumption)]
           exact ⟨LeS.tup (LeL.cons (les_nil rfl) (LeL.cons (LeS.refl _) LeL.nil)), trivial⟩)
        | (rw [hg, List.drop_eq_nil_of_le (by omega)]
           exact ⟨LeS.tup (LeL.cons (les_list rfl rfl (fun i j _ _ => by rw [Nat.zero_add]; rfl)) (LeL.cons (LeS.refl _) LeL.nil)), trivial⟩)
        | trace_state
theorem place_own {g : Nat → Nat → D} {n : Nat} (rows : List Row) (k : List UInt8) (t : Bool) : ((n = rows.length ∧ RowLe n 2 g (cellOf encRow rows)) ∧ rows.length ≤ 1099511627776 ∧ Sorted rows) → Sx.Spec Tryd.prog GG 63 [.d (.list n 2 g), .agg [.d (.str k), .d (.bool t)]] [] (.d (.int .i64 (placeF rows k t))) [] := by
  rintro ⟨⟨rfl, hg⟩, h⟩
  exact (place_spec rows k t h).arg (LeL.cons (LeS.d (DLe.rows rfl hg)) (LeL.cons (LeS.refl _) LeL.nil))
theorem do_bad {r : List Row} {k v : List UInt8} {d : Bool} (h : validW k v d = false) : doF r (k, v, d) = ([], 1) := by simp [doF, h]
theorem do_gone {r : List Row} {k v : List UInt8} (hs : Sorted r) (hw : validW k v true = true) (hi : placeF r k false < r.length) (he : (r.getD (placeF r k false) default).1 = k) : doF r (k, v, true) = (r.take (placeF r k false) ++ r.drop (placeF r k false + 1), 0) := by
  simp [doF, hw, (place_found (v := v) hs hi he).1]
theorem do_same {r : List Row} {k v : List UInt8} (hs : Sorted r) (hw : validW k v true = true) (he : ¬ (placeF r k false < r.length ∧ (r.getD (placeF r k false) default).1 = k)) : doF r (k, v, true) = (r, 0) := by
  simp [doF, hw, (place_new (v := v) hs he).1]
theorem do_set {r : List Row} {k v : List UInt8} (ht : TabOk r) (hw : validW k v false = true) (hi : placeF r k false < r.length) (he : (r.getD (placeF r k false) default).1 = k) : doF r (k, v, false) = (r.take (placeF r k false) ++ (k, v) :: r.drop (placeF r k false + 1), 0) := by
  have e := (place_found (v := v) ht.sorted hi he).2
  have hl := ht.len
  have : putF r k v = (withF r (k, v), 0) := put_ok (validT_iff.2 ht) (validW_row hw) (by rw [e]; simp only [List.length_append, List.length_take, List.length_cons, List.length_drop]; omega)
  simp [doF, hw, this, e]
theorem do_full {r : List Row} {k v : List UInt8} (ht : TabOk r) (hw : validW k v false = true) (he : ¬ (placeF r k false < r.length ∧ (r.getD (placeF r k false) default).1 = k)) (hl : r.length = 1024) : doF r (k, v, false) = ([], 16) := by
  have e := (place_new (v := v) ht.sorted he).2
  have : putF r k v = ([], 16) := put_full (validT_iff.2 ht) (validW_row hw) (by rw [e]; simp only [List.length_append, List.length_take, List.length_cons, List.length_drop]; have := place_le (rows := r) (k := k) (t := false); omega)
  simp [doF, hw, this]
theorem do_add {r : List Row} {k v : List UInt8} (ht : TabOk r) (hw : validW k v false = true) (he : ¬ (placeF r k false < r.length ∧ (r.getD (placeF r k false) default).1 = k)) (hl : ¬ r.length = 1024) : doF r (k, v, false) = (r.take (placeF r k false) ++ (k, v) :: r.drop (placeF r k false), 0) := by
  have e := (place_new (v := v) ht.sorted he).2
  have h1 := ht.len
  have : putF r k v = (withF r (k, v), 0) := put_ok (validT_iff.2 ht) (validW_row hw) (by rw [e]; simp only [List.length_append, List.length_take, List.length_cons, List.length_drop]; omega)
  simp [doF, hw, this, e]
theorem dw_bad {r : List Row} {w : Wr} (h : validW w.1 w.2.1 w.2.2 = false) : doF r w = ([], 1) := do_bad h
theorem dw_gone {r : List Row} {w : Wr} (ht : TabOk r) (hd : w.2.2 = true) (hw : validW w.1 w.2.1 w.2.2 = true) (hi : placeF r w.1 false < r.length) (he : (r.getD (placeF r w.1 false) default).1 = w.1) : doF r w = (r.take (placeF r w.1 false) ++ r.drop (placeF r w.1 false + 1), 0) := by
  obtain ⟨k, v, d⟩ := w
  simp only at hd; subst hd
  exact do_gone ht.sorted hw hi he
theorem dw_same {r : List Row} {w : Wr} (ht : TabOk r) (hd : w.2.2 = true) (hw : validW w.1 w.2.1 w.2.2 = true) (he : ¬ (placeF r w.1 false < r.length ∧ (r.getD (placeF r w.1 false) default).1 = w.1)) : doF r w = (r, 0) := by
  obtain ⟨k, v, d⟩ := w
  simp only at hd; subst hd
  exact do_same ht.sorted hw he
theorem dw_set {r : List Row} {w : Wr} (ht : TabOk r) (hd : w.2.2 = false) (hw : validW w.1 w.2.1 w.2.2 = true) (hi : placeF r w.1 false < r.length) (he : (r.getD (placeF r w.1 false) default).1 = w.1) : doF r w = (r.take (placeF r w.1 false) ++ (w.1, w.2.1) :: r.drop (placeF r w.1 false + 1), 0) := by
  obtain ⟨k, v, d⟩ := w
  simp only at hd; subst hd
  exact do_set ht hw hi he
theorem dw_full {r : List Row} {w : Wr} (ht : TabOk r) (hd : w.2.2 = false) (hw : validW w.1 w.2.1 w.2.2 = true) (he : ¬ (placeF r w.1 false < r.length ∧ (r.getD (placeF r w.1 false) default).1 = w.1)) (hl : r.length = 1024) : doF r w = ([], 16) := by
  obtain ⟨k, v, d⟩ := w
  simp only at hd; subst hd
  exact do_full ht hw he hl
theorem dw_add {r : List Row} {w : Wr} (ht : TabOk r) (hd : w.2.2 = false) (hw : validW w.1 w.2.1 w.2.2 = true) (he : ¬ (placeF r w.1 false < r.length ∧ (r.getD (placeF r w.1 false) default).1 = w.1)) (hl : ¬ r.length = 1024) : doF r w = (r.take (placeF r w.1 false) ++ (w.1, w.2.1) :: r.drop (placeF r w.1 false), 0) := by
  obtain ⟨k, v, d⟩ := w
  simp only at hd; subst hd
  exact do_add ht hw he hl
theorem row_set {r : List Row} {p n : Nat} {x : Row} (hp : p ≤ r.length) (he : (r.getD p default).1 = x.1) : RowLe n 2 (fun i' j' => if i' = p then if j' < 1 then cellOf encRow r i' j' else if j' < 1 + [D.str x.2].length then [D.str x.2].getD (j' - 1) default else cellOf encRow r i' j' else cellOf encRow r i' j') (cellOf encRow (r.take p ++ x :: r.drop (p + 1))) := by
  refine .of_eq fun a j _ hj => ?_
  simp only [cellOf, getD_ins hp]
  rcases Nat.lt_trichotomy a p with h | h | h
  · rw [if_neg (by omega), if_pos h]
  · subst h
    simp only [if_true, Nat.lt_irrefl, if_false]
    refine jlt2 (p := fun j => (if j < 1 then (encRow (r.getD a default)).getD j default else if j < 1 + [D.str x.2].length then [D.str x.2].getD (j - 1) default else (encRow (r.getD a default)).getD j default) = (encRow x).getD j default) ?_ rfl j hj
    show D.str (r.getD a default).1 = D.str x.1
    rw [he]
  · rw [if_neg (by omega), if_neg (by omega), if_neg (by omega), show p + 1 + (a - p - 1) = a by omega]
theorem row_add {r : List Row} {p n : Nat} {x : Row} (hp : p ≤ r.length) (hn : n = r.length + 1) : RowLe n 2 (fun i' j' => if i' = p then (if j' < 0 then (if p + 1 ≤ i' ∧ i' < p + 1 + min (((r.length + 1 : Nat) : Int) - (p : Int)).toNat (((r.length + 1 : Nat) : Int) - ((p + 1 : Nat) : Int)).toNat then (if p + (i' - (p + 1)) < r.length then cellOf encRow r (p + (i' - (p + 1))) j' else tabF (fun x j => [D.str [], D.str []].getD j default) [(0, [D.str [], D.str []])] (p + (i' - (p + 1)) - r.length) j') else (if i' < r.length then cellOf encRow r i' j' else tabF (fun x j => [D.str [], D.str []].getD j default) [(0, [D.str [], D.str []])] (i' - r.length) j')) else if j' < [D.str x.1, D.str x.2].length then [D.str x.1, D.str x.2].getD (j' - 0) default else (if p + 1 ≤ i' ∧ i' < p + 1 + min (((r.length + 1 : Nat) : Int) - (p : Int)).toNat (((r.length + 1 : Nat) : Int) - ((p + 1 : Nat) : Int)).toNat then (if p + (i' - (p + 1)) < r.length then cellOf encRow r (p + (i' - (p + 1))) j' else tabF (fun x j => [D.str [], D.str []].getD j default) [(0, [D.str [], D.str []])] (p + (i' - (p + 1)) - r.length) j') else (if i' < r.length then cellOf encRow r i' j' else tabF (fun x j => [D.str [], D.str []].getD j default) [(0, [D.str [], D.str []])] (i' - r.length) j'))) else (if p + 1 ≤ i' ∧ i' < p + 1 + min (((r.length + 1 : Nat) : Int) - (p : Int)).toNat (((r.length + 1 : Nat) : Int) - ((p + 1 : Nat) : Int)).toNat then (if p + (i' - (p + 1)) < r.length then cellOf encRow r (p + (i' - (p + 1))) j' else tabF (fun x j => [D.str [], D.str []].getD j default) [(0, [D.str [], D.str []])] (p + (i' - (p + 1)) - r.length) j') else (if i' < r.length then cellOf encRow r i' j' else tabF (fun x j => [D.str [], D.str []].getD j default) [(0, [D.str [], D.str []])] (i' - r.length) j'))) (cellOf encRow (r.take p ++ x :: r.drop p)) := by
  subst hn
  refine .of_eq fun a j ha hj => ?_
  simp only [cellOf, getD_ins hp]
  rcases Nat.lt_trichotomy a p with h | h | h
  · rw [if_neg (by omega), if_neg (by omega), if_pos (by omega), if_pos h]
  · rw [if_pos h, if_neg (by omega), if_pos (by simpa using hj), if_neg (by omega), if_pos h]
    exact jlt2 (p := fun j => [D.str x.1, D.str x.2].getD (j - 0) default = (encRow x).getD j default) rfl rfl j hj
  · rw [if_neg (by omega), if_pos (by omega), if_pos (by omega), if_neg (by omega), if_neg (by omega), show p + (a - (p + 1)) = p + (a - p - 1) by omega]
theorem applyp_spec (rows : List Row) (ws : List Wr) : ws.length ≤ 1099511627776 → Sx.Spec Tryd.prog GG 45 [.d (encL encRow 2 rows), .d (encL encWr 3 ws)] [] (.tup [.d (encL encRow 2 (applyF rows ws).1), .d (.int .i64 (applyF rows ws).2)]) [] := by
  intro hlen
  refine spec_intro (E := EE) (fn := Tryd.f45) eok (by kernel_rfl) (by kernel_rfl) Tryd.call45 (by kernel_rfl) (by kernel_rfl) ?_
  conv => whnf
  repeat' first
    | (refine call_intro (validTp_spec _) ?_ (by first | exact .inl rfl | exact .inr ⟨rfl, rfl⟩); (conv => whnf))
    | (refine bc_true (by assumption) ?_; (conv => whnf))
    | (refine bc_false (by assumption) ?_; (conv => whnf))
    | (refine bc_intro (fun _ => ?_) (fun _ => ?_) <;> (conv => whnf))
    | (refine need_intro ?_ ?_; (conv => whnf))
    | (refine wk_refl ?_; (conv => whnf))
    | (refine draw_intro (by kernel_rfl) ?_; (conv => whnf))
    | (refine ord_intro (by kernel_rfl) ?_; (conv => whnf))
  all_goals try simp only [Bool.not_eq_true', Bool.not_eq_false'] at *
  · have e : applyF rows ws = ([], 1) := by simp_all [applyF]
    rw [e]; exact ⟨LeS.tup (LeL.cons (les_nil rfl) (LeL.cons (LeS.refl _) LeL.nil)), trivial⟩
  · rename_i hv
    have ea : applyF rows ws = goF rows ws := by simp [applyF, hv]
    rw [ea]
    refine loop_auto [16, 17] [] (fun x : Nat × List Row => [(6, .osl 500 2 0 x.2.length), (18, .d (.int .i64 x.1))]) (fun x => [(500, .row 52 2 x.2.length (cellOf encRow x.2))]) (fun x => x.1 ≤ ws.length ∧ TabOk x.2 ∧ goF rows ws = goF x.2 (ws.drop x.1)) (fun x => ws.length - x.1) (0, rows) ?_ (fun x hx => ?_) ⟨Nat.zero_le _, validT_iff.1 hv, rfl⟩
    · conv => whnf
      repeat' first
        | (refine bc_true (by assumption) ?_; (conv => whnf))
        | (refine bc_false (by assumption) ?_; (conv => whnf))
        | (refine bc_intro (fun _ => ?_) (fun _ => ?_) <;> (conv => whnf))
        | (refine need_intro ?_ ?_; (conv => whnf))
        | (refine wk_refl ?_; (conv => whnf))
        | (refine draw_intro (by kernel_rfl) ?_; (conv => whnf))
        | (refine ord_intro (by kernel_rfl) ?_; (conv => whnf))
      all_goals first | exact ⟨rfl, rfl⟩ | exact ⟨rfl, rfl, rfl⟩ | exact DLe.refl _ | exact RowLe.refl _ _ _ | exact trivial
    · obtain ⟨i, r⟩ := x
      obtain ⟨hi, ht, hg⟩ := hx
      simp only at hi ht hg
      have htl := ht.len
      have hs : IntKind.i64.wrap ((i : Int) + 1) = ((i + 1 : Nat) : Int) := wrap_succ (n := 1099511627777) (by omega) (by omega)
      have hw0 : ws.getD (i : Int).toNat default = ws.getD i default := by rw [Int.toNat_natCast]
      have hstep0 := fun h => go_step (rows := r) (ws := ws) (i := i) h
      conv => whnf
      repeat' first
        | (refine call_intro (validWp_spec _ _ _) ?_ (by first | exact .inl rfl | exact .inr ⟨rfl, rfl⟩); (conv => whnf))
        | (refine call_if (place_own r _ _) (by first | exact .inl rfl | exact .inr ⟨rfl, rfl⟩) (need_intro ?_ ?_); (conv => whnf))
        | (refine bc_true (by assumption) ?_; (conv => whnf))
        | (refine bc_false (by assumption) ?_; (conv => whnf))
        | (refine bc_intro (fun _ => ?_) (fun _ => ?_) <;> (conv => whnf))
        | (refine need_intro ?_ ?_; (conv => whnf))
        | (refine wk_refl ?_; (conv => whnf))
        | (refine draw_intro (by kernel_rfl) ?_; (conv => whnf))
        | (refine ord_intro (by kernel_rfl) ?_; (conv => whnf))
      all_goals simp only [Int.toNat_natCast, decide_eq_true_eq, decide_eq_false_iff_not, Bool.not_eq_true', Bool.not_eq_false', beq_iff_eq, beq_eq_false_iff_ne, ne_eq, Nat.zero_add] at *
      all_goals have hpl : placeF r (ws.getD i default).1 false ≤ r.length := place_le
      all_goals have hwp : IntKind.i64.wrap ((placeF r (ws.getD i default).1 false : Int) + 1) = ((placeF r (ws.getD i default).1 false + 1 : Nat) : Int) := wrap_succ (n := 1099511627777) (by omega) (by omega)
      all_goals try simp only [hwp, Int.toNat_natCast, Int.toNat_zero, Option.getD_none, Option.getD_some, Int.sub_zero, cellsRow, bytesRow, true_and] at *
      all_goals first
        | omega
        | exact ⟨by omega, by omega⟩
        | exact ⟨by omega, by omega, by omega⟩
        | exact ⟨RowLe.refl _ _ _, by omega, ht.sorted⟩
        | (rw [hg, hstep0 (by omega), dw_bad (by assumption), if_neg (by decide)]
           exact ⟨LeS.tup (LeL.cons (les_nil rfl) (LeL.cons (LeS.refl _) LeL.nil)), trivial⟩)
        | (rw [hg, hstep0 (by omega), dw_full ht (by assumption) (by assumption) (by first | (intro h; exact absurd h.2 (by assumption)) | (intro h; have := h.1; omega)) (by omega), if_neg (by decide)]
           exact ⟨LeS.tup (LeL.cons (les_nil rfl) (LeL.cons (LeS.refl _) LeL.nil)), trivial⟩)
        | (rw [hg, List.drop_eq_nil_of_le (by omega)]
           exact ⟨LeS.refl _, trivial⟩)
        | skip
      all_goals try first
        | (refine NextVC.mk (i + 1, r.take (placeF r (ws.getD i default).1 false) ++ r.drop (placeF r (ws.getD i default).1 false + 1)) ?_ ?_ ?_
           (conv => whnf)
           repeat' (refine need_intro ?_ ?_; (conv => whnf))
           all_goals try simp only [Int.toNat_natCast, Int.toNat_zero, Option.getD_none, Option.getD_some, Int.sub_zero, hwp, cellsRow, bytesRow, true_and, and_true] at *
           all_goals first
             | exact trivial
             | omega
             | exact DLe.refl _
             | exact RowLe.refl _ _ _
             | exact DLe.of_eq (by rw [hs])
             | (have e := dw_gone ht (by assumption) (by assumption) (by omega) (by assumption)
                have hz : (doF r (ws.getD i default)).2 = 0 := by rw [e]
                have ht' := do_tab ht hz
                have hst := hstep0 (by omega)
                rw [if_pos hz] at hst
                rw [e] at ht' hst
                exact ⟨by omega, ht', by rw [hg, hst]⟩)
             | (simp only [List.length_append, List.length_take, List.length_cons, List.length_drop]; omega)
             | exact .of_eq (fun a j _ _ => by simp only [cellOf, getD_cut place_le]; split <;> rfl)
             | skip
           done)
        | (refine NextVC.mk (i + 1, r) ?_ ?_ ?_
           (conv => whnf)
           repeat' (refine need_intro ?_ ?_; (conv => whnf))
           all_goals try simp only [Int.toNat_natCast, Int.toNat_zero, Option.getD_none, Option.getD_some, Int.sub_zero, hwp, cellsRow, bytesRow, true_and, and_true] at *
           all_goals first
             | exact trivial
             | omega
             | exact DLe.refl _
             | exact RowLe.refl _ _ _
             | exact DLe.of_eq (by rw [hs])
             | (have e := dw_same ht (by assumption) (by assumption) (by first | (intro h; exact absurd h.2 (by assumption)) | (intro h; have := h.1; omega))
                have hz : (doF r (ws.getD i default)).2 = 0 := by rw [e]
                have ht' := do_tab ht hz
                have hst := hstep0 (by omega)
                rw [if_pos hz] at hst
                rw [e] at ht' hst
                exact ⟨by omega, ht', by rw [hg, hst]⟩)
             | (simp only [List.length_append, List.length_take, List.length_cons, List.length_drop]; omega)
             | exact RowLe.refl _ _ _
             | skip
           done)
      all_goals try first
        | (refine NextVC.mk (i + 1, r.take (placeF r (ws.getD i default).1 false) ++ ((ws.getD i default).1, (ws.getD i default).2.1) :: r.drop (placeF r (ws.getD i default).1 false + 1)) ?_ ?_ ?_
           (conv => whnf)
           repeat' (refine need_intro ?_ ?_; (conv => whnf))
           all_goals try simp only [Int.toNat_natCast, Int.toNat_zero, Option.getD_none, Option.getD_some, Int.sub_zero, hwp, cellsRow, bytesRow, true_and, and_true] at *
           all_goals first
             | exact trivial
             | omega
             | exact DLe.refl _
             | exact RowLe.refl _ _ _
             | exact DLe.of_eq (by rw [hs])
             | (have e := dw_set ht (by assumption) (by assumption) (by omega) (by assumption)
                have hz : (doF r (ws.getD i default)).2 = 0 := by rw [e]
                have ht' := do_tab ht hz
                have hst := hstep0 (by omega)
                rw [if_pos hz] at hst
                rw [e] at ht' hst
                exact ⟨by omega, ht', by rw [hg, hst]⟩)
             | (simp only [List.length_append, List.length_take, List.length_cons, List.length_drop]; omega)
             | exact row_set (p := placeF r (ws.getD i default).1 false) (x := ((ws.getD i default).1, (ws.getD i default).2.1)) place_le (by assumption)
             | skip
           done)
        | (refine NextVC.mk (i + 1, r.take (placeF r (ws.getD i default).1 false) ++ ((ws.getD i default).1, (ws.getD i default).2.1) :: r.drop (placeF r (ws.getD i default).1 false)) ?_ ?_ ?_
           (conv => whnf)
           repeat' (refine need_intro ?_ ?_; (conv => whnf))
           all_goals try simp only [Int.toNat_natCast, Int.toNat_zero, Option.getD_none, Option.getD_some, Int.sub_zero, hwp, cellsRow, bytesRow, true_and, and_true] at *
           all_goals first
             | exact trivial
             | omega
             | exact DLe.refl _
             | exact RowLe.refl _ _ _
             | exact DLe.of_eq (by rw [hs])
             | (have e := dw_add ht (by assumption) (by assumption) (by first | (intro h; exact absurd h.2 (by assumption)) | (intro h; have := h.1; omega)) (by omega)
                have hz : (doF r (ws.getD i default)).2 = 0 := by rw [e]
                have ht' := do_tab ht hz
                have hst := hstep0 (by omega)
                rw [if_pos hz] at hst
                rw [e] at ht' hst
                exact ⟨by omega, ht', by rw [hg, hst]⟩)
             | (simp only [List.length_append, List.length_take, List.length_cons, List.length_drop]; omega)
             | exact row_add (p := placeF r (ws.getD i default).1 false) (x := ((ws.getD i default).1, (ws.getD i default).2.1)) place_le (by simp only [List.length_append, List.length_take, List.length_cons, List.length_drop]; omega)
             | skip
           done)
      all_goals trace_state
  · have := validT_len ‹validT rows = true›
    simp only [bytesRow]
    exact ⟨by omega, by omega⟩

