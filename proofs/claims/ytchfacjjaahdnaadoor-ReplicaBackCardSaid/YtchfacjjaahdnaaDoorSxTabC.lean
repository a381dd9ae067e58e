/- Part of a symbolic executor over the model, proved sound, with plain laws: SxTabC. Written for these claims. -/
import Derived.Test.YtchfacjjaahdnaaDoorSxTabB
namespace Go.Sx
open Go
set_option linter.unusedVariables false
set_option linter.unusedSimpArgs false

/-! a table cut at the place of a bound -/
theorem below_len {rows : List Row} {k : List UInt8} {t : Bool} (hs : Sorted rows) : (belowF rows k t).length = placeF rows k t := by
  induction rows with
  | nil => rfl
  | cons r l ih =>
    have hs' := List.pairwise_cons.1 hs
    have ih := ih hs'.2
    simp only [belowF, placeF] at ih ⊢
    by_cases hr : cmpB r.1 false k t < 0
    · simp only [List.filter_cons, List.takeWhile_cons, hr, decide_true, if_true, List.length_cons, ih]
    · have hno : l.filter (fun r => decide (cmpB r.1 false k t < 0)) = [] := by
        rw [List.filter_eq_nil_iff]
        intro s hs h
        exact hr (cmp_mono (hs'.1 s hs) (by simpa using h))
      simp only [List.filter_cons, List.takeWhile_cons, hr, decide_false, Bool.false_eq_true, if_false, hno, List.length_nil]
theorem slice_low {rows : List Row} (h : TabOk rows) {k : List UInt8} {t : Bool} (hb : validB k t = true) : sliceF rows [] false k t = belowF rows k t := by
  by_cases hc : cmpB [] false k t < 0
  · have := below_split h (ak := []) (a := false) (by decide) hb hc
    rw [below_first, List.nil_append] at this
    exact this.symm
  · have h1 : t = false ∧ k = [] := by
      rw [cmp_lt] at hc
      cases t with
      | true => simp at hc
      | false =>
        cases k with
        | nil => exact ⟨rfl, rfl⟩
        | cons c k => simp [Op.bytesLess] at hc
    obtain ⟨rfl, rfl⟩ := h1
    rw [below_first]
    unfold sliceF
    rw [List.filter_eq_nil_iff]
    intro r _
    simp [containsR, emptyR, validR, validB, cmpB, bl_irrefl]
/-- the bound with n rows below it -/
def bndK (rows : List Row) (n : Nat) : List UInt8 := if n < rows.length then (rows.getD n default).1 else []
def bndT (rows : List Row) (n : Nat) : Bool := decide (¬ n < rows.length)
theorem bnd_valid {rows : List Row} (h : TabOk rows) (n : Nat) : validB (bndK rows n) (bndT rows n) = true := by
  unfold bndK bndT
  by_cases hn : n < rows.length
  · have e : rows.getD n default = rows[n] := by simp [List.getD, hn]
    have := h.ok _ (List.getElem_mem hn)
    rw [← e] at this
    simp only [rowOk, Bool.and_eq_true, decide_eq_true_eq] at this
    simp only [hn, if_true, not_true_eq_false, decide_false]
    simp only [validB, this.1, decide_true, Bool.not_false, Bool.true_or, Bool.and_true]
  · simp [hn, validB]
theorem bnd_cut {rows : List Row} (h : TabOk rows) {n : Nat} (hn : n ≤ rows.length) : cutF rows n = (bndK rows n, bndT rows n, true) := by
  have hv := validT_iff.2 h
  unfold bndK bndT
  by_cases e : n = rows.length
  · subst e
    rw [cut_full hv rfl]
    simp
  · have h1 : n < rows.length := by omega
    rw [cut_at hv (by omega) (by omega) (by omega)]
    simp [h1]
theorem bnd_place {rows : List Row} (h : TabOk rows) {n : Nat} (hn : n ≤ rows.length) : placeF rows (bndK rows n) (bndT rows n) = n := by
  have hp : ∀ i, i < rows.length → (i < placeF rows (bndK rows n) (bndT rows n) ↔ i < n) := by
    intro i hi
    rw [place_iff h.sorted hi, cmp_low]
    unfold bndK bndT
    by_cases e : n < rows.length
    · simp only [e, if_true, not_true_eq_false, decide_false, Bool.false_eq_true, false_or]
      have g : ∀ j (hj : j < rows.length), rows.getD j default = rows[j] := fun j hj => by simp [List.getD, hj]
      rw [g i hi, g n e]
      have hpw := List.pairwise_iff_getElem.1 h.sorted
      constructor
      · intro hlt
        rcases Nat.lt_trichotomy i n with h1 | h1 | h1
        · exact h1
        · subst h1; rw [bl_irrefl] at hlt; cases hlt
        · have := bl_trans hlt (hpw n i e hi h1)
          rw [bl_irrefl] at this; cases this
      · intro h1; exact hpw i n hi e h1
    · simp only [e, not_false_eq_true, decide_true, true_or, true_iff]
      omega
  have hle : placeF rows (bndK rows n) (bndT rows n) ≤ rows.length := place_le
  rcases Nat.lt_trichotomy (placeF rows (bndK rows n) (bndT rows n)) n with h1 | h1 | h1
  · have := (hp _ (by omega)).2 h1; omega
  · exact h1
  · have := (hp n (by omega)).1 h1; omega
theorem bnd_slice {rows : List Row} (h : TabOk rows) {n : Nat} (hn : n ≤ rows.length) : (sliceF rows [] false (bndK rows n) (bndT rows n)).length = n := by
  rw [slice_low h (bnd_valid h n), below_len h.sorted, bnd_place h hn]
/-! what stands before and behind a key -/
theorem place_app {rows : List Row} {k : List UInt8} (hs : Sorted rows) : ∃ A B, rows = A ++ B ∧ A.length = placeF rows k false ∧ (∀ r ∈ A, Op.bytesLess r.1 k = true) ∧ (∀ r ∈ B, Op.bytesLess r.1 k = false) := by
  induction rows with
  | nil => exact ⟨[], [], rfl, rfl, by simp, by simp⟩
  | cons r l ih =>
    have hs' := List.pairwise_cons.1 hs
    by_cases hr : Op.bytesLess r.1 k = true
    · obtain ⟨A, B, h1, h2, h3, h4⟩ := ih hs'.2
      have hc : cmpB r.1 false k false < 0 := cmp_low.2 (.inr hr)
      refine ⟨r :: A, B, by rw [h1]; rfl, ?_, ?_, h4⟩
      · simp only [placeF, List.takeWhile_cons, hc, decide_true, if_true, List.length_cons]
        rw [h2]; rfl
      · intro s hs
        rcases List.mem_cons.1 hs with rfl | hs
        · exact hr
        · exact h3 s hs
    · have hc : ¬ cmpB r.1 false k false < 0 := by
        rw [cmp_low]; simpa using hr
      refine ⟨[], r :: l, rfl, ?_, by simp, ?_⟩
      · simp only [placeF, List.takeWhile_cons, hc, decide_false, Bool.false_eq_true, if_false, List.length_nil]
      · intro s hs
        rcases List.mem_cons.1 hs with rfl | hs
        · simpa using hr
        · by_cases e : Op.bytesLess s.1 k = true
          · exact absurd (bl_trans (hs'.1 s hs) e) hr
          · simpa using e
theorem ins_app {x : Row} : ∀ {A B : List Row}, (∀ r ∈ A, Op.bytesLess r.1 x.1 = true) → (∀ r ∈ B, Op.bytesLess x.1 r.1 = true) → insF x (A ++ B) = A ++ x :: B
  | [], [], _, _ => rfl
  | [], b :: B, _, h => by simp [insF, h b (by simp)]
  | a :: A, B, h1, h2 => by
    have ha := bl_asymm (h1 a (by simp))
    simp only [List.cons_append, insF, ha, Bool.false_eq_true, if_false]
    rw [ins_app (fun r hr => h1 r (by simp [hr])) h2]
theorem without_app {A B : List Row} {k : List UInt8} : withoutF (A ++ B) k = withoutF A k ++ withoutF B k := by simp [withoutF]
theorem without_self {A : List Row} {k : List UInt8} (h : ∀ r ∈ A, r.1 ≠ k) : withoutF A k = A := by
  rw [withoutF, List.filter_eq_self]
  intro r hr
  simp [h r hr]
theorem bl_tot {a b : List UInt8} (h1 : Op.bytesLess a b = false) (h2 : a ≠ b) : Op.bytesLess b a = true := by
  by_cases h : Op.bytesLess b a = true
  · exact h
  · exact absurd (bl_tri h1 (by simpa using h)) h2
/-- the row with the key is there -/
theorem place_found {rows : List Row} {k v : List UInt8} (hs : Sorted rows) (hi : placeF rows k false < rows.length) (he : (rows.getD (placeF rows k false) default).1 = k) :
    withoutF rows k = rows.take (placeF rows k false) ++ rows.drop (placeF rows k false + 1) ∧ withF rows (k, v) = rows.take (placeF rows k false) ++ (k, v) :: rows.drop (placeF rows k false + 1) := by
  obtain ⟨A, B, h1, h2, h3, h4⟩ := place_app (k := k) hs
  rw [← h2] at hi he ⊢
  subst h1
  cases B with
  | nil => simp at hi
  | cons b B =>
    have hb : b.1 = k := by simpa [List.getD] using he
    have hA : ∀ r ∈ A, r.1 ≠ k := fun r hr e => by have := h3 r hr; rw [e, bl_irrefl] at this; cases this
    have hB : ∀ r ∈ B, Op.bytesLess k r.1 = true := fun r hr => by
      have := List.pairwise_append.1 hs
      rw [← hb]; exact (List.pairwise_cons.1 this.2.1).1 r hr
    have hB' : ∀ r ∈ B, r.1 ≠ k := fun r hr e => by have := hB r hr; rw [e, bl_irrefl] at this; cases this
    have e1 : withoutF (A ++ b :: B) k = A ++ B := by
      rw [show A ++ b :: B = A ++ ([b] ++ B) by simp, without_app, without_app, without_self hA, without_self hB']
      simp [withoutF, hb]
    have e2 : (A ++ b :: B).drop (A.length + 1) = B := by
      rw [show A ++ b :: B = (A ++ [b]) ++ B by simp, List.drop_append_of_le_length (by simp)]
      simp
    rw [e1, e2, List.take_left]
    exact ⟨rfl, by rw [withF, e1]; exact ins_app h3 hB⟩
/-- no row has the key -/
theorem place_new {rows : List Row} {k v : List UInt8} (hs : Sorted rows) (he : ¬ (placeF rows k false < rows.length ∧ (rows.getD (placeF rows k false) default).1 = k)) :
    withoutF rows k = rows ∧ withF rows (k, v) = rows.take (placeF rows k false) ++ (k, v) :: rows.drop (placeF rows k false) := by
  obtain ⟨A, B, h1, h2, h3, h4⟩ := place_app (k := k) hs
  rw [← h2] at he ⊢
  subst h1
  have hA : ∀ r ∈ A, r.1 ≠ k := fun r hr e => by have := h3 r hr; rw [e, bl_irrefl] at this; cases this
  have hB : ∀ r ∈ B, Op.bytesLess k r.1 = true := by
    cases B with
    | nil => simp
    | cons b B =>
      have hb : b.1 ≠ k := fun e => he ⟨by simp, by simpa [List.getD] using e⟩
      have hb1 := bl_tot (h4 b (by simp)) hb
      have := (List.pairwise_cons.1 (List.pairwise_append.1 hs).2.1).1
      intro r hr
      rcases List.mem_cons.1 hr with rfl | hr
      · exact hb1
      · exact bl_trans hb1 (this r hr)
  have hB' : ∀ r ∈ B, r.1 ≠ k := fun r hr e => by have := hB r hr; rw [e, bl_irrefl] at this; cases this
  have e1 : withoutF (A ++ B) k = A ++ B := by rw [without_app, without_self hA, without_self hB']
  rw [List.take_left, List.drop_left]
  exact ⟨e1, by rw [withF, e1]; exact ins_app h3 hB⟩
/-- Get finds what stands at the place -/
theorem get_place {rows : List Row} {k : List UInt8} (hs : Sorted rows) : (getF rows k).2 = decide (placeF rows k false < rows.length ∧ (rows.getD (placeF rows k false) default).1 = k) := by
  by_cases he : placeF rows k false < rows.length ∧ (rows.getD (placeF rows k false) default).1 = k
  · rw [decide_eq_true he]
    have hp := fun i hi => place_iff (k := k) (t := false) hs (i := i) hi
    simp only [cmp_low, Bool.false_eq_true, false_or] at hp
    rw [get_here he.1 (fun j hj => ?_) (by rw [he.2]; exact beq_self_eq_true k)]
    have := (hp j (by omega)).1 hj
    simp only [beq_eq_false_iff_ne, ne_eq]
    intro e
    rw [e, bl_irrefl] at this; cases this
  · rw [decide_eq_false he]
    obtain ⟨e, _⟩ := place_new (v := []) hs he
    rw [get_none]
    intro j hj
    have hm : rows.getD j default ∈ withoutF rows k := by
      rw [e]
      have g : rows.getD j default = rows[j] := by simp [List.getD, hj]
      rw [g]; exact List.getElem_mem hj
    have := (without_ne hm).2
    simpa using this
/-! cells of a list that was cut -/
theorem getD_cut {α : Type} [Inhabited α] {l : List α} {p q i : Nat} (hp : p ≤ l.length) : (l.take p ++ l.drop q).getD i default = if i < p then l.getD i default else l.getD (q + (i - p)) default := by
  simp only [List.getD_eq_getElem?_getD]
  have hl : (l.take p).length = p := by simp; omega
  by_cases h : i < p
  · rw [if_pos h, List.getElem?_append_left (by omega), List.getElem?_take, if_pos h]
  · rw [if_neg h, List.getElem?_append_right (by omega), hl, List.getElem?_drop]
theorem getD_ins {α : Type} [Inhabited α] {l : List α} {x : α} {p q i : Nat} (hp : p ≤ l.length) : (l.take p ++ x :: l.drop q).getD i default = if i < p then l.getD i default else if i = p then x else l.getD (q + (i - p - 1)) default := by
  simp only [List.getD_eq_getElem?_getD]
  have hl : (l.take p).length = p := by simp; omega
  by_cases h : i < p
  · rw [if_pos h, List.getElem?_append_left (by omega), List.getElem?_take, if_pos h]
  · rw [if_neg h, List.getElem?_append_right (by omega), hl]
    by_cases e : i = p
    · rw [if_pos e, e, Nat.sub_self]; rfl
    · rw [if_neg e, show i - p = (i - p - 1) + 1 by omega, List.getElem?_cons_succ, List.getElem?_drop]
      rw [show i - p - 1 + 1 - 1 = i - p - 1 by omega]
theorem les_list {α : Type} [Inhabited α] {enc : α → List D} {n K k : Nat} {g : Nat → Nat → D} {L : List α} (hK : K = k) (hn : n = L.length) (h : ∀ i j, i < n → j < k → g i j = cellOf enc L i j) : LeS (.d (.list n K g)) (.d (encL enc k L)) :=
  LeS.d (dle_lit hK hn (.of_eq h))
theorem RowLe.allD {len sz : Nat} {get get' : Nat → Nat → D} (h : AllLt (fun i => AllLt (fun j => DLe (get i j) (get' i j)) sz) len) : RowLe len sz get get' :=
  ⟨fun i j hi hj => (h.out i hi).out j hj⟩
end Go.Sx
