/- Part of a symbolic executor over the model, proved sound, with plain laws: SxWr. Written for these claims. -/
import Derived.Test.YtchfacjjaahdnaaDoorSxLead
namespace Go.Sx
open Go
set_option linter.unusedVariables false
set_option linter.unusedSimpArgs false

/-! writes to tables -/
theorem putW_bad {rows : List Row} {k v : List UInt8} (h : validT rows = false ∨ rowOk (k, v) = false) : putF rows k v = ([], 1) := by
  unfold putF
  rw [validT_one]
  rcases h with h | h <;> simp [h]
theorem putW_full {rows : List Row} {k v : List UInt8} (h1 : validT rows = true) (h2 : rowOk (k, v) = true) (h : (withF rows (k, v)).length > 1024) : putF rows k v = ([], 16) := by
  unfold putF
  rw [validT_one]
  simp [h1, h2, h]
theorem putW_ok {rows : List Row} {k v : List UInt8} (h1 : validT rows = true) (h2 : rowOk (k, v) = true) (h : ¬ (withF rows (k, v)).length > 1024) : putF rows k v = (withF rows (k, v), 0) := by
  unfold putF
  rw [validT_one]
  simp [h1, h2, h]
/-! writes -/
def doF (rows : List Row) (w : Wr) : List Row × Int :=
  if !(validW w.1 w.2.1 w.2.2) then ([], 1) else if w.2.2 then (withoutF rows w.1, 0) else putF rows w.1 w.2.1
def goF : List Row → List Wr → List Row × Int
  | rows, [] => (rows, 0)
  | rows, w :: ws => if (doF rows w).2 = 0 then goF (doF rows w).1 ws else ([], (doF rows w).2)
def applyF (rows : List Row) (ws : List Wr) : List Row × Int := if validT rows then goF rows ws else ([], 1)
theorem validW_row {k v : List UInt8} {d : Bool} (h : validW k v d = true) : rowOk (k, v) = true := by
  simp only [validW, rowOk, Bool.and_eq_true] at h ⊢
  exact h.1
theorem do_tab {rows : List Row} {w : Wr} (h : TabOk rows) (he : (doF rows w).2 = 0) : TabOk (doF rows w).1 := by
  obtain ⟨k, v, d⟩ := w
  unfold doF at he ⊢
  by_cases hw : validW k v d = true
  · simp only [hw, Bool.not_true, Bool.false_eq_true, if_false] at he ⊢
    cases d with
    | true => exact ⟨Nat.le_trans without_len h.len, fun r hr => h.ok r (without_ne hr).1, h.sorted.sub without_sub⟩
    | false =>
      simp only [Bool.false_eq_true, if_false] at he ⊢
      have hr := validW_row hw
      by_cases hl : (withF rows (k, v)).length > 1024
      · rw [putW_full (validT_iff.2 h) hr hl] at he; cases he
      · rw [putW_ok (validT_iff.2 h) hr hl]
        obtain ⟨h1, h2, _⟩ := with_ok h hr
        exact ⟨by simp only; omega, h1, h2⟩
  · simp [hw] at he
theorem go_step {rows : List Row} {ws : List Wr} {i : Nat} (h : i < ws.length) : goF rows (ws.drop i) = if (doF rows (ws.getD i default)).2 = 0 then goF (doF rows (ws.getD i default)).1 (ws.drop (i + 1)) else ([], (doF rows (ws.getD i default)).2) := by
  have e : ws.drop i = ws.getD i default :: ws.drop (i + 1) := by
    rw [List.drop_eq_getElem_cons h]
    simp [List.getD, h]
  rw [e, goF]
theorem do_bad {r : List Row} {k v : List UInt8} {d : Bool} (h : validW k v d = false) : doF r (k, v, d) = ([], 1) := by simp [doF, h]
theorem do_gone {r : List Row} {k v : List UInt8} (hs : Sorted r) (hw : validW k v true = true) (hi : placeF r k false < r.length) (he : (r.getD (placeF r k false) default).1 = k) : doF r (k, v, true) = (r.take (placeF r k false) ++ r.drop (placeF r k false + 1), 0) := by
  simp [doF, hw, (place_found (v := v) hs hi he).1]
theorem do_same {r : List Row} {k v : List UInt8} (hs : Sorted r) (hw : validW k v true = true) (he : ¬ (placeF r k false < r.length ∧ (r.getD (placeF r k false) default).1 = k)) : doF r (k, v, true) = (r, 0) := by
  simp [doF, hw, (place_new (v := v) hs he).1]
theorem do_set {r : List Row} {k v : List UInt8} (ht : TabOk r) (hw : validW k v false = true) (hi : placeF r k false < r.length) (he : (r.getD (placeF r k false) default).1 = k) : doF r (k, v, false) = (r.take (placeF r k false) ++ (k, v) :: r.drop (placeF r k false + 1), 0) := by
  have e := (place_found (v := v) ht.sorted hi he).2
  have hl := ht.len
  have : putF r k v = (withF r (k, v), 0) := putW_ok (validT_iff.2 ht) (validW_row hw) (by rw [e]; simp only [List.length_append, List.length_take, List.length_cons, List.length_drop]; omega)
  simp [doF, hw, this, e]
theorem do_full {r : List Row} {k v : List UInt8} (ht : TabOk r) (hw : validW k v false = true) (he : ¬ (placeF r k false < r.length ∧ (r.getD (placeF r k false) default).1 = k)) (hl : r.length = 1024) : doF r (k, v, false) = ([], 16) := by
  have e := (place_new (v := v) ht.sorted he).2
  have : putF r k v = ([], 16) := putW_full (validT_iff.2 ht) (validW_row hw) (by rw [e]; simp only [List.length_append, List.length_take, List.length_cons, List.length_drop]; have := place_le (rows := r) (k := k) (t := false); omega)
  simp [doF, hw, this]
theorem do_add {r : List Row} {k v : List UInt8} (ht : TabOk r) (hw : validW k v false = true) (he : ¬ (placeF r k false < r.length ∧ (r.getD (placeF r k false) default).1 = k)) (hl : ¬ r.length = 1024) : doF r (k, v, false) = (r.take (placeF r k false) ++ (k, v) :: r.drop (placeF r k false), 0) := by
  have e := (place_new (v := v) ht.sorted he).2
  have h1 := ht.len
  have : putF r k v = (withF r (k, v), 0) := putW_ok (validT_iff.2 ht) (validW_row hw) (by rw [e]; simp only [List.length_append, List.length_take, List.length_cons, List.length_drop]; omega)
  simp [doF, hw, this, e]
theorem dw_bad {r : List Row} {w : Wr} (h : validW w.1 w.2.1 w.2.2 = false) : doF r w = ([], 1) := do_bad h
theorem dw_gone {r : List Row} {w : Wr} (ht : TabOk r) (hd : w.2.2 = true) (hw : validW w.1 w.2.1 w.2.2 = true) (hi : placeF r w.1 false < r.length) (he : (r.getD (placeF r w.1 false) default).1 = w.1) : doF r w = (r.take (placeF r w.1 false) ++ r.drop (placeF r w.1 false + 1), 0) := by
  obtain ⟨k, v, d⟩ := w
  simp only at hd; subst hd
  exact do_gone ht.sorted hw hi he
theorem dw_same {r : List Row} {w : Wr} (ht : TabOk r) (hd : w.2.2 = true) (hw : validW w.1 w.2.1 w.2.2 = true) (he : ¬ (placeF r w.1 false < r.length ∧ (r.getD (placeF r w.1 false) default).1 = w.1)) : doF r w = (r, 0) := by
  obtain ⟨k, v, d⟩ := w
  simp only at hd; subst hd
  exact do_same ht.sorted hw he
theorem dw_set {r : List Row} {w : Wr} (ht : TabOk r) (hd : w.2.2 = false) (hw : validW w.1 w.2.1 w.2.2 = true) (hi : placeF r w.1 false < r.length) (he : (r.getD (placeF r w.1 false) default).1 = w.1) : doF r w = (r.take (placeF r w.1 false) ++ (w.1, w.2.1) :: r.drop (placeF r w.1 false + 1), 0) := by
  obtain ⟨k, v, d⟩ := w
  simp only at hd; subst hd
  exact do_set ht hw hi he
theorem dw_full {r : List Row} {w : Wr} (ht : TabOk r) (hd : w.2.2 = false) (hw : validW w.1 w.2.1 w.2.2 = true) (he : ¬ (placeF r w.1 false < r.length ∧ (r.getD (placeF r w.1 false) default).1 = w.1)) (hl : r.length = 1024) : doF r w = ([], 16) := by
  obtain ⟨k, v, d⟩ := w
  simp only at hd; subst hd
  exact do_full ht hw he hl
theorem dw_add {r : List Row} {w : Wr} (ht : TabOk r) (hd : w.2.2 = false) (hw : validW w.1 w.2.1 w.2.2 = true) (he : ¬ (placeF r w.1 false < r.length ∧ (r.getD (placeF r w.1 false) default).1 = w.1)) (hl : ¬ r.length = 1024) : doF r w = (r.take (placeF r w.1 false) ++ (w.1, w.2.1) :: r.drop (placeF r w.1 false), 0) := by
  obtain ⟨k, v, d⟩ := w
  simp only at hd; subst hd
  exact do_add ht hw he hl
theorem row_set {r : List Row} {p n : Nat} {x : Row} (hp : p ≤ r.length) (he : (r.getD p default).1 = x.1) : RowLe n 2 (fun i' j' => if i' = p then if j' < 1 then cellOf encRow r i' j' else if j' < 1 + [D.str x.2].length then [D.str x.2].getD (j' - 1) default else cellOf encRow r i' j' else cellOf encRow r i' j') (cellOf encRow (r.take p ++ x :: r.drop (p + 1))) := by
  refine .of_eq fun a j _ hj => ?_
  simp only [cellOf, getD_ins hp]
  rcases Nat.lt_trichotomy a p with h | h | h
  · rw [if_neg (by omega), if_pos h]
  · subst h
    simp only [if_true, Nat.lt_irrefl, if_false]
    refine jlt2 (p := fun j => (if j < 1 then (encRow (r.getD a default)).getD j default else if j < 1 + [D.str x.2].length then [D.str x.2].getD (j - 1) default else (encRow (r.getD a default)).getD j default) = (encRow x).getD j default) ?_ rfl j hj
    show D.str (r.getD a default).1 = D.str x.1
    rw [he]
  · rw [if_neg (by omega), if_neg (by omega), if_neg (by omega), show p + 1 + (a - p - 1) = a by omega]
theorem row_add {r : List Row} {p n : Nat} {x : Row} (hp : p ≤ r.length) (hn : n = r.length + 1) : RowLe n 2 (fun i' j' => if i' = p then (if j' < 0 then (if p + 1 ≤ i' ∧ i' < p + 1 + min (((r.length + 1 : Nat) : Int) - (p : Int)).toNat (((r.length + 1 : Nat) : Int) - ((p + 1 : Nat) : Int)).toNat then (if p + (i' - (p + 1)) < r.length then cellOf encRow r (p + (i' - (p + 1))) j' else tabF (fun x j => [D.str [], D.str []].getD j default) [(0, [D.str [], D.str []])] (p + (i' - (p + 1)) - r.length) j') else (if i' < r.length then cellOf encRow r i' j' else tabF (fun x j => [D.str [], D.str []].getD j default) [(0, [D.str [], D.str []])] (i' - r.length) j')) else if j' < [D.str x.1, D.str x.2].length then [D.str x.1, D.str x.2].getD (j' - 0) default else (if p + 1 ≤ i' ∧ i' < p + 1 + min (((r.length + 1 : Nat) : Int) - (p : Int)).toNat (((r.length + 1 : Nat) : Int) - ((p + 1 : Nat) : Int)).toNat then (if p + (i' - (p + 1)) < r.length then cellOf encRow r (p + (i' - (p + 1))) j' else tabF (fun x j => [D.str [], D.str []].getD j default) [(0, [D.str [], D.str []])] (p + (i' - (p + 1)) - r.length) j') else (if i' < r.length then cellOf encRow r i' j' else tabF (fun x j => [D.str [], D.str []].getD j default) [(0, [D.str [], D.str []])] (i' - r.length) j'))) else (if p + 1 ≤ i' ∧ i' < p + 1 + min (((r.length + 1 : Nat) : Int) - (p : Int)).toNat (((r.length + 1 : Nat) : Int) - ((p + 1 : Nat) : Int)).toNat then (if p + (i' - (p + 1)) < r.length then cellOf encRow r (p + (i' - (p + 1))) j' else tabF (fun x j => [D.str [], D.str []].getD j default) [(0, [D.str [], D.str []])] (p + (i' - (p + 1)) - r.length) j') else (if i' < r.length then cellOf encRow r i' j' else tabF (fun x j => [D.str [], D.str []].getD j default) [(0, [D.str [], D.str []])] (i' - r.length) j'))) (cellOf encRow (r.take p ++ x :: r.drop p)) := by
  subst hn
  refine .of_eq fun a j ha hj => ?_
  simp only [cellOf, getD_ins hp]
  rcases Nat.lt_trichotomy a p with h | h | h
  · rw [if_neg (by omega), if_neg (by omega), if_pos (by omega), if_pos h]
  · rw [if_pos h, if_neg (by omega), if_pos (by simpa using hj), if_neg (by omega), if_pos h]
    exact jlt2 (p := fun j => [D.str x.1, D.str x.2].getD (j - 0) default = (encRow x).getD j default) rfl rfl j hj
  · rw [if_neg (by omega), if_pos (by omega), if_pos (by omega), if_neg (by omega), if_neg (by omega), show p + (a - (p + 1)) = p + (a - p - 1) by omega]

theorem go_len {ws : List Wr} : ∀ {rows : List Row}, TabOk rows → (goF rows ws).1.length ≤ 1024 := by
  induction ws with
  | nil => intro rows h; simpa [goF] using h.len
  | cons w ws ih =>
    intro rows h
    simp only [goF]
    split
    · exact ih (do_tab h (by assumption))
    · simp
theorem apply_len {rows : List Row} {ws : List Wr} : (applyF rows ws).1.length ≤ 1024 := by
  unfold applyF
  split
  · exact go_len (validT_iff.1 (by assumption))
  · simp
theorem diff_len {a b : List Row} : (diffF a b).length ≤ a.length + b.length := by
  unfold diffF
  split
  · rw [List.length_append]
    exact Nat.add_le_add collect_len collect_len
  · simp

theorem lead_del {ws2 : List Wr} : ∀ {ws1 : List Wr} {r : List Row}, TabOk r → (∀ w ∈ ws1, w.2.2 = true ∧ validW w.1 w.2.1 w.2.2 = true) →
    ∃ r', TabOk r' ∧ goF r (ws1 ++ ws2) = goF r' ws2 ∧ ∀ q, getF r' q = if q ∈ ws1.map (·.1) then ([], false) else getF r q
  | [], r, h, _ => ⟨r, h, rfl, fun q => by simp⟩
  | w :: ws1, r, h, hw => by
    have h1 := hw w (by simp)
    have hv := h1.2
    rw [h1.1] at hv
    have hd : doF r w = (withoutF r w.1, 0) := by simp [doF, h1.1, hv]
    have ht := do_tab (w := w) h (by rw [hd])
    rw [hd] at ht
    obtain ⟨r', k1, k2, k3⟩ := lead_del (ws1 := ws1) ht (fun x hx => hw x (by simp [hx]))
    refine ⟨r', k1, ?_, fun q => ?_⟩
    · simp only [List.cons_append, goF, hd, if_true]
      exact k2
    · rw [k3, get_without]
      simp only [List.map_cons, List.mem_cons]
      by_cases e1 : q ∈ ws1.map (·.1)
      · simp [e1]
      · by_cases e2 : q = w.1
        · simp [e2]
        · simp [e1, e2]
theorem lead_put {y : List Row} (hy : TabOk y) : ∀ {ws : List Wr} {r : List Row}, TabOk r → (∀ w ∈ ws, w.2.2 = false ∧ validW w.1 w.2.1 w.2.2 = true) → (∀ w ∈ ws, getF y w.1 = (w.2.1, true)) →
    (∀ q, getF r q = getF y q ∨ ∃ w ∈ ws, w.1 = q) → (∀ q, (getF r q).2 = true → (getF y q).2 = true) → goF r ws = (y, 0)
  | [], r, h, _, _, hB, _ => by
    have : r = y := sorted_ext h.sorted hy.sorted (fun q => (hB q).resolve_right (by simp))
    subst this
    rfl
  | w :: ws, r, h, hw, hA, hB, hC => by
    have h1 := hw w (by simp)
    have hr := validW_row h1.2
    have hwt := with_ok h hr
    have hC' : ∀ q, (getF (withF r (w.1, w.2.1)) q).2 = true → (getF y q).2 = true := by
      intro q hq
      rw [get_with] at hq
      by_cases e : q = w.1
      · subst e; rw [hA w (by simp)]
      · rw [if_neg e] at hq; exact hC q hq
    have hl := sub_len hwt.2.1 hC'
    have hyl := hy.len
    have hd : doF r w = (withF r (w.1, w.2.1), 0) := by
      have : putF r w.1 w.2.1 = (withF r (w.1, w.2.1), 0) := putW_ok (validT_iff.2 h) hr (by omega)
      have hv := h1.2
      rw [h1.1] at hv
      simp [doF, h1.1, hv, this]
    have ht := do_tab (w := w) h (by rw [hd])
    rw [hd] at ht
    simp only [goF, hd, if_true]
    refine lead_put hy ht (fun x hx => hw x (by simp [hx])) (fun x hx => hA x (by simp [hx])) (fun q => ?_) hC'
    simp only [get_with]
    by_cases e : q = w.1
    · subst e; rw [if_pos rfl]; exact .inl (hA w (by simp)).symm
    · rw [if_neg e]
      rcases hB q with hB | ⟨x, hx, ex⟩
      · exact .inl hB
      · rcases List.mem_cons.1 hx with rfl | hx
        · exact absurd ex.symm e
        · exact .inr ⟨x, hx, ex⟩
theorem apply_diff {x y : List Row} (hx : TabOk x) (hy : TabOk y) : applyF x (diffF x y) = (y, 0) := by
  have vx := validT_iff.2 hx
  have vy := validT_iff.2 hy
  rw [applyF, if_pos vx, diff_valid vx vy]
  have rowV : ∀ {rows : List Row}, TabOk rows → ∀ r ∈ rows, ((r.1.length : Int) ≤ 64) ∧ ((r.2.length : Int) ≤ 64) := by
    intro rows h r hr
    have := h.ok r hr
    simpa [rowOk] using this
  obtain ⟨r, h1, h2, h3⟩ := lead_del (ws1 := collect (goneP y) goneW x) (ws2 := collect (newP' x) newW y) hx (by
    intro w hw
    simp only [collect, List.mem_map, List.mem_filter] at hw
    obtain ⟨s, ⟨hs, _⟩, rfl⟩ := hw
    have := rowV hx s hs
    exact ⟨rfl, by simp [validW, goneW, this.1]⟩)
  have hgone : ∀ q, q ∈ (collect (goneP y) goneW x).map (·.1) ↔ (getF x q).2 = true ∧ (getF y q).2 = false := by
    intro q
    simp only [collect, List.map_map, List.mem_map, List.mem_filter, goneP, Bool.not_eq_true', Function.comp, goneW]
    constructor
    · rintro ⟨s, ⟨hs, hg⟩, rfl⟩
      exact ⟨get_key hs, hg⟩
    · rintro ⟨h1, h2⟩
      obtain ⟨s, hs, e, _⟩ := get_true h1
      subst e
      exact ⟨s, ⟨hs, h2⟩, rfl⟩
  rw [h2]
  refine lead_put hy h1 ?_ ?_ ?_ ?_
  · intro w hw
    simp only [collect, List.mem_map, List.mem_filter] at hw
    obtain ⟨s, ⟨hs, _⟩, rfl⟩ := hw
    have := rowV hy s hs
    exact ⟨rfl, by simp [validW, newW, this.1, this.2]⟩
  · intro w hw
    simp only [collect, List.mem_map, List.mem_filter] at hw
    obtain ⟨s, ⟨hs, _⟩, rfl⟩ := hw
    exact get_memT hy.sorted hs
  · intro q
    rw [h3]
    cases hyq : (getF y q).2 with
    | false =>
      left
      rw [get_false hyq]
      split
      · rfl
      · rename_i hn
        rw [hgone] at hn
        cases hxq : (getF x q).2 with
        | false => exact get_false hxq
        | true => exact absurd ⟨hxq, hyq⟩ hn
    | true =>
      obtain ⟨s, hs, e, hv⟩ := get_true hyq
      have hn : ¬ q ∈ (collect (goneP y) goneW x).map (·.1) := by
        rw [hgone, hyq]; simp
      rw [if_neg hn]
      by_cases hp : newP' x s = true
      · exact .inr ⟨newW s, by simp only [collect, List.mem_map, List.mem_filter]; exact ⟨s, ⟨hs, hp⟩, rfl⟩, e⟩
      · left
        simp only [newP', Bool.or_eq_true, Bool.not_eq_true', not_or, Bool.not_eq_false, beq_iff_eq] at hp
        rw [hv, ← e]
        exact Prod.ext hp.2 hp.1
  · intro q hq
    rw [h3] at hq
    split at hq
    · cases hq
    · rename_i hn
      rw [hgone] at hn
      cases hyq : (getF y q).2 with
      | true => rfl
      | false => exact absurd ⟨hq, hyq⟩ hn
theorem diff_self {x : List Row} (h : TabOk x) : diffF x x = [] := by
  have v := validT_iff.2 h
  rw [diff_valid v v]
  have h1 : collect (goneP x) goneW x = [] := by
    rw [collect, List.map_eq_nil_iff, List.filter_eq_nil_iff]
    intro r hr
    simp [goneP, get_key hr]
  have h2 : collect (newP' x) newW x = [] := by
    rw [collect, List.map_eq_nil_iff, List.filter_eq_nil_iff]
    intro r hr
    simp [newP', get_memT h.sorted hr]
  rw [h1, h2]; rfl

end Go.Sx
