/- Part of a symbolic executor over the model, proved sound, with plain laws: SxTab. Written for these claims. -/
import Derived.Test.YtigmgeglnbjfeaaDoorSxTool
namespace Go.Sx
open Go
set_option linter.unusedVariables false
set_option linter.unusedSimpArgs false

/-! keys, bounds, ranges -/
def validB (k : List UInt8) (t : Bool) : Bool := decide ((k.length : Int) ≤ 64) && (!t || k == [])
def cmpB (ak : List UInt8) (at_ : Bool) (bk : List UInt8) (bt : Bool) : Int :=
  if at_ && bt then 0 else if at_ then 1 else if bt || Op.bytesLess ak bk then -1 else if Op.bytesLess bk ak then 1 else 0
def validR (lk : List UInt8) (lt : Bool) (hk : List UInt8) (ht : Bool) : Bool := validB lk lt && validB hk ht && decide (cmpB lk lt hk ht ≤ 0)
def emptyR (lk : List UInt8) (lt : Bool) (hk : List UInt8) (ht : Bool) : Bool := !(validR lk lt hk ht) || cmpB lk lt hk ht == 0
def containsR (lk : List UInt8) (lt : Bool) (hk : List UInt8) (ht : Bool) (k : List UInt8) : Bool :=
  !(emptyR lk lt hk ht) && decide ((k.length : Int) ≤ 64) && decide (cmpB lk lt k false ≤ 0) && decide (cmpB k false hk ht < 0)
/-! tables -/
abbrev Row := List UInt8 × List UInt8
def encRow (r : Row) : List D := [.str r.1, .str r.2]
def rowOk (r : Row) : Bool := decide ((r.1.length : Int) ≤ 64) && decide ((r.2.length : Int) ≤ 64)
def chkT (rows : List Row) (i : Nat) : Bool := rowOk (rows.getD i default) && (i == 0 || Op.bytesLess (rows.getD (i - 1) default).1 (rows.getD i default).1)
def validT (rows : List Row) : Bool := decide (rows.length ≤ 1024) && (List.range rows.length).all (chkT rows)
theorem validT_false {rows : List Row} {i : Nat} (hi : i < rows.length) (h : chkT rows i = false) : validT rows = false := by
  unfold validT
  cases h1 : (List.range rows.length).all (chkT rows) with
  | false => simp
  | true =>
    have := List.all_eq_true.1 h1 i (List.mem_range.2 hi)
    rw [h] at this
    cases this
theorem validT_true {rows : List Row} (hl : rows.length ≤ 1024) (h : ∀ i, i < rows.length → chkT rows i = true) : validT rows = true := by
  unfold validT
  rw [List.all_eq_true.2 (fun i hi => h i (List.mem_range.1 hi))]
  simp [hl]
def withoutF (rows : List Row) (k : List UInt8) : List Row := rows.filter fun r => !(r.1 == k)
theorem without_keep {rows : List Row} {k : List UInt8} {i : Nat} (h : i < rows.length) (hk : (!((rows.getD i default).1 == k)) = true) : withoutF (rows.take (i + 1)) k = withoutF (rows.take i) k ++ [rows.getD i default] := by
  rw [take_succ' h, withoutF, List.filter_append, List.filter_cons, if_pos hk, List.filter_nil]; rfl
theorem without_drop {rows : List Row} {k : List UInt8} {i : Nat} (h : i < rows.length) (hk : (!((rows.getD i default).1 == k)) = false) : withoutF (rows.take (i + 1)) k = withoutF (rows.take i) k := by
  rw [take_succ' h, withoutF, List.filter_append, List.filter_cons, if_neg (by rw [hk]; simp), List.filter_nil, List.append_nil]; rfl
def insF (x : Row) : List Row → List Row
  | [] => [x]
  | r :: l => if Op.bytesLess x.1 r.1 then x :: r :: l else r :: insF x l
def withF (rows : List Row) (x : Row) : List Row := insF x (withoutF rows x.1)
theorem without_len {rows : List Row} {k : List UInt8} : (withoutF rows k).length ≤ rows.length := List.length_filter_le _ _
theorem ins_len {x : Row} : ∀ {l : List Row}, (insF x l).length = l.length + 1
  | [] => rfl
  | r :: l => by
    simp only [insF]
    split
    · rfl
    · simp [ins_len (l := l)]
def putF (rows : List Row) (k v : List UInt8) : List Row × Int :=
  if !(validT rows) || !(validT [(k, v)]) then ([], 1) else if (withF rows (k, v)).length > 1024 then ([], 16) else (withF rows (k, v), 0)
theorem validT_len {rows : List Row} (h : validT rows = true) : rows.length ≤ 1024 := by
  simp only [validT, Bool.and_eq_true, decide_eq_true_eq] at h
  exact h.1

/-! plain laws -/
def Sorted (rows : List Row) : Prop := rows.Pairwise fun a b => Op.bytesLess a.1 b.1 = true
structure TabOk (rows : List Row) : Prop where
  len : rows.length ≤ 1024
  ok : ∀ r ∈ rows, rowOk r = true
  sorted : Sorted rows
theorem validT_iff {rows : List Row} : validT rows = true ↔ TabOk rows := by
  constructor
  · intro h
    simp only [validT, Bool.and_eq_true, decide_eq_true_eq, List.all_eq_true, List.mem_range] at h
    obtain ⟨h1, h2⟩ := h
    have ok : ∀ i (hi : i < rows.length), rowOk rows[i] = true ∧ (∀ j (hj : j + 1 = i), Op.bytesLess (rows[j]'(by omega)).1 rows[i].1 = true) := by
      intro i hi
      have := h2 i hi
      simp only [chkT, Bool.and_eq_true, Bool.or_eq_true, beq_iff_eq] at this
      refine ⟨by simpa [List.getD, hi] using this.1, fun j hj => ?_⟩
      subst hj
      have h3 := this.2.resolve_left (by omega)
      simpa [List.getD, hi, show j < rows.length by omega] using h3
    refine ⟨h1, fun r hr => ?_, ?_⟩
    · obtain ⟨i, hi, rfl⟩ := List.getElem_of_mem hr
      exact (ok i hi).1
    · rw [Sorted, List.pairwise_iff_getElem]
      intro i j hi hj hij
      induction j with
      | zero => omega
      | succ j ih =>
        have hs := (ok (j + 1) hj).2 j rfl
        rcases Nat.lt_or_ge i j with h | h
        · exact bl_trans (ih (by omega) h) hs
        · have : i = j := by omega
          subst this
          exact hs
  · intro h
    refine validT_true h.len (fun i hi => ?_)
    have h1 : rowOk (rows.getD i default) = true := by
      have e : rows.getD i default = rows[i] := by simp [List.getD, hi]
      rw [e]
      exact h.ok _ (List.getElem_mem hi)
    simp only [chkT, h1, Bool.true_and, Bool.or_eq_true, beq_iff_eq]
    rcases Nat.eq_zero_or_pos i with h0 | h0
    · exact .inl h0
    · right
      have := List.pairwise_iff_getElem.1 h.sorted (i - 1) i (by omega) hi (by omega)
      simpa [List.getD, hi, show i - 1 < rows.length by omega] using this
theorem Sorted.sub {l m : List Row} (h : Sorted m) (hs : l.Sublist m) : Sorted l := List.Pairwise.sublist hs h
theorem without_sub {rows : List Row} {k : List UInt8} : (withoutF rows k).Sublist rows := List.filter_sublist
theorem without_ne {rows : List Row} {k : List UInt8} {r : Row} (h : r ∈ withoutF rows k) : r ∈ rows ∧ r.1 ≠ k := by
  simp only [withoutF, List.mem_filter, Bool.not_eq_true', beq_eq_false_iff_ne, ne_eq] at h
  exact h
theorem ins_mem {x r : Row} : ∀ {l : List Row}, r ∈ insF x l ↔ r = x ∨ r ∈ l
  | [] => by simp [insF]
  | y :: l => by
    simp only [insF]
    split
    · simp
    · simp only [List.mem_cons, ins_mem (l := l)]
      constructor
      · rintro (h | h | h)
        · exact .inr (.inl h)
        · exact .inl h
        · exact .inr (.inr h)
      · rintro (h | h | h)
        · exact .inr (.inl h)
        · exact .inl h
        · exact .inr (.inr h)
theorem ins_sorted {x : Row} : ∀ {l : List Row}, Sorted l → (∀ r ∈ l, r.1 ≠ x.1) → Sorted (insF x l)
  | [], _, _ => by simp [insF, Sorted]
  | y :: l, h, hn => by
    simp only [Sorted, List.pairwise_cons] at h
    simp only [insF]
    split
    · rename_i hx
      simp only [Sorted, List.pairwise_cons]
      refine ⟨fun r hr => ?_, h⟩
      rcases List.mem_cons.1 hr with rfl | hr
      · exact hx
      · exact bl_trans hx (h.1 r hr)
    · rename_i hx
      have hx : Op.bytesLess x.1 y.1 = false := by simpa using hx
      have hyx : Op.bytesLess y.1 x.1 = true := by
        cases h2 : Op.bytesLess y.1 x.1 with
        | true => rfl
        | false => exact absurd (bl_tri h2 hx) (hn y (by simp))
      simp only [Sorted, List.pairwise_cons]
      refine ⟨fun r hr => ?_, ins_sorted h.2 (fun r hr => hn r (by simp [hr]))⟩
      rcases ins_mem.1 hr with rfl | hr
      · exact hyx
      · exact h.1 r hr
theorem with_ok {rows : List Row} {x : Row} (h : TabOk rows) (hx : rowOk x = true) : (∀ r ∈ withF rows x, rowOk r = true) ∧ Sorted (withF rows x) ∧ (withF rows x).length ≤ rows.length + 1 := by
  refine ⟨fun r hr => ?_, ?_, ?_⟩
  · rcases ins_mem.1 hr with rfl | hr
    · exact hx
    · exact h.ok r (without_ne hr).1
  · exact ins_sorted (h.sorted.sub without_sub) (fun r hr => (without_ne hr).2)
  · unfold withF
    rw [ins_len]
    have := without_len (rows := rows) (k := x.1)
    omega
theorem tabOk_nil : TabOk [] := ⟨by simp, by simp, .nil⟩
theorem validT_one {k v : List UInt8} : validT [(k, v)] = rowOk (k, v) := by
  simp [validT, chkT, List.range_succ]
theorem put_ok {rows : List Row} {k v : List UInt8} (h : TabOk rows) : TabOk (putF rows k v).1 ∧ (putF rows k v).1.length ≤ rows.length + 1 := by
  unfold putF
  split
  · exact ⟨tabOk_nil, by simp⟩
  · rename_i hv
    split
    · exact ⟨tabOk_nil, by simp⟩
    · rename_i hl
      simp only [Bool.or_eq_true, Bool.not_eq_true', not_or, Bool.not_eq_false, validT_one] at hv
      have hk := with_ok h hv.2
      exact ⟨⟨by simp only; omega, hk.1, hk.2.1⟩, hk.2.2⟩
theorem rows_of {n : Nat} {g : Nat → Nat → D} (h : ∀ i, i < n → ∃ k v, g i 0 = .str k ∧ g i 1 = .str v) : ∃ xs : List Row, xs.length = n ∧ LeS (.d (.list n 2 g)) (.d (encL encRow 2 xs)) := by
  obtain ⟨xs, h1, _, h2⟩ := list_of (α := Row) (enc := encRow) (Q := fun _ => True) (k := 2) (fun _ => rfl) (len := n) (get := g) (fun i hi => by
    obtain ⟨k, v, e1, e2⟩ := h i hi
    exact ⟨(k, v), trivial, by simp [List.range_succ, encRow, e1, e2]⟩)
  exact ⟨xs, h1, LeS.d h2⟩
theorem cmp_self {k : List UInt8} {t : Bool} : cmpB k t k t = 0 := by cases t <;> simp [cmpB, bl_irrefl]
/-- the lower bound of a range that is not empty is one of its keys -/
theorem keyIn_low {lk : List UInt8} {lt : Bool} {hk : List UInt8} {ht : Bool} (h : emptyR lk lt hk ht = false) : (lk.length : Int) ≤ 64 ∧ containsR lk lt hk ht lk = true := by
  have h0 := h
  simp only [emptyR, validR, validB, Bool.or_eq_false_iff, Bool.not_eq_false', Bool.and_eq_true, decide_eq_true_eq, beq_eq_false_iff_ne] at h
  obtain ⟨⟨⟨⟨h1, h2⟩, h3, h4⟩, h5⟩, h6⟩ := h
  have hlt : lt = false := by
    cases lt with
    | false => rfl
    | true =>
      exfalso
      cases ht with
      | true => exact h6 (by simp [cmpB])
      | false => simp [cmpB] at h5
  subst hlt
  refine ⟨h1, ?_⟩
  simp only [containsR, h0, Bool.not_false, Bool.true_and, Bool.and_eq_true, decide_eq_true_eq]
  exact ⟨⟨h1, by rw [cmp_self]; decide⟩, by omega⟩

/-! ranges of a list -/
abbrev Bnd := List UInt8 × Bool
abbrev Rng := List UInt8 × Bool × List UInt8 × Bool
def encBnd (b : Bnd) : List D := [.str b.1, .bool b.2]
def encRng (r : Rng) : List D := [.str r.1, .bool r.2.1, .str r.2.2.1, .bool r.2.2.2]
def sliceF (rows : List Row) (lk : List UInt8) (lt : Bool) (hk : List UInt8) (ht : Bool) : List Row := rows.filter fun r => containsR lk lt hk ht r.1
theorem slice_keep {rows : List Row} {lk : List UInt8} {lt : Bool} {hk : List UInt8} {ht : Bool} {i : Nat} (h : i < rows.length) (hc : containsR lk lt hk ht (rows.getD i default).1 = true) : sliceF (rows.take (i + 1)) lk lt hk ht = sliceF (rows.take i) lk lt hk ht ++ [rows.getD i default] := by
  rw [take_succ' h, sliceF, List.filter_append, List.filter_cons, if_pos hc, List.filter_nil]; rfl
theorem slice_drop {rows : List Row} {lk : List UInt8} {lt : Bool} {hk : List UInt8} {ht : Bool} {i : Nat} (h : i < rows.length) (hc : containsR lk lt hk ht (rows.getD i default).1 = false) : sliceF (rows.take (i + 1)) lk lt hk ht = sliceF (rows.take i) lk lt hk ht := by
  rw [take_succ' h, sliceF, List.filter_append, List.filter_cons, if_neg (by rw [hc]; simp), List.filter_nil, List.append_nil]; rfl
theorem slice_len {rows : List Row} {lk : List UInt8} {lt : Bool} {hk : List UInt8} {ht : Bool} : (sliceF rows lk lt hk ht).length ≤ rows.length := List.length_filter_le _ _

/-! bounds in order -/
theorem cmp_tri (ak : List UInt8) (a : Bool) (bk : List UInt8) (b : Bool) : cmpB ak a bk b = -1 ∨ cmpB ak a bk b = 0 ∨ cmpB ak a bk b = 1 := by
  unfold cmpB
  repeat' split
  all_goals simp
theorem cmp_lt {ak : List UInt8} {a : Bool} {bk : List UInt8} {b : Bool} : cmpB ak a bk b < 0 ↔ (a = false ∧ (b = true ∨ Op.bytesLess ak bk = true)) := by
  unfold cmpB
  cases a <;> cases b <;> cases h : Op.bytesLess ak bk <;> simp
  split <;> omega
theorem cmp_le {ak : List UInt8} {a : Bool} {bk : List UInt8} {b : Bool} : cmpB ak a bk b ≤ 0 ↔ (b = true ∨ (a = false ∧ Op.bytesLess bk ak = false)) := by
  unfold cmpB
  cases a <;> cases b <;> cases h : Op.bytesLess ak bk <;> cases h2 : Op.bytesLess bk ak <;> simp
  exact absurd (bl_trans h h2) (by rw [bl_irrefl]; simp)
theorem cmp_le_not {ak : List UInt8} {a : Bool} {bk : List UInt8} {b : Bool} : cmpB ak a bk b ≤ 0 ↔ ¬ cmpB bk b ak a < 0 := by
  rw [cmp_le, cmp_lt]
  cases a <;> cases b <;> simp
theorem cmp_lt_trans {ak : List UInt8} {a : Bool} {bk : List UInt8} {b : Bool} {ck : List UInt8} {c : Bool} (h1 : cmpB ak a bk b < 0) (h2 : cmpB bk b ck c < 0) : cmpB ak a ck c < 0 := by
  rw [cmp_lt] at *
  obtain ⟨rfl, h1⟩ := h1
  obtain ⟨rfl, h2⟩ := h2
  refine ⟨rfl, ?_⟩
  rcases h2 with h2 | h2
  · exact .inl h2
  · rcases h1 with h1 | h1
    · cases h1
    · exact .inr (bl_trans h1 h2)
/-- the rows below a bound -/
def belowF (rows : List Row) (k : List UInt8) (t : Bool) : List Row := rows.filter fun r => decide (cmpB r.1 false k t < 0)
/-- a downward part of a sorted list stands in front -/
theorem filter_split {p q : Row → Bool} : ∀ {rows : List Row}, Sorted rows → (∀ r s : Row, Op.bytesLess r.1 s.1 = true → p s = true → p r = true) → (∀ r ∈ rows, p r = true → q r = true) →
    rows.filter q = rows.filter p ++ rows.filter (fun r => q r && !(p r))
  | [], _, _, _ => rfl
  | r :: rows, hs, hd, hq => by
    simp only [Sorted, List.pairwise_cons] at hs
    have ih := filter_split (rows := rows) hs.2 hd (fun s h => hq s (by simp [h]))
    cases hp : p r with
    | true => simp [List.filter_cons, hp, hq r (by simp) hp, ih]
    | false =>
      have hno : rows.filter p = [] := by
        rw [List.filter_eq_nil_iff]
        intro s hs' hps
        rw [hd r s (hs.1 s hs') hps] at hp
        cases hp
      rw [hno, List.nil_append] at ih
      cases hqr : q r <;> simp [List.filter_cons, hp, hqr, hno, ih]
theorem below_split {rows : List Row} (h : TabOk rows) {ak : List UInt8} {a : Bool} {ck : List UInt8} {c : Bool} (ha : validB ak a = true) (hc : validB ck c = true) (hac : cmpB ak a ck c < 0) :
    belowF rows ck c = belowF rows ak a ++ sliceF rows ak a ck c := by
  unfold belowF sliceF
  rw [filter_split (p := fun r => decide (cmpB r.1 false ak a < 0)) h.sorted]
  · congr 1
    apply List.filter_congr
    intro r hr
    have hk := h.ok r hr
    simp only [rowOk, Bool.and_eq_true, decide_eq_true_eq] at hk
    have hne : emptyR ak a ck c = false := by
      simp only [emptyR, validR, ha, hc, Bool.true_and, Bool.or_eq_false_iff, Bool.not_eq_false', decide_eq_true_eq, beq_eq_false_iff_ne]
      exact ⟨by omega, by omega⟩
    have hle : (cmpB ak a r.1 false ≤ 0) ↔ ¬ (cmpB r.1 false ak a < 0) := cmp_le_not
    simp only [containsR, hne, hk.1, Bool.not_false, decide_true, Bool.true_and, hle, decide_not]
    rw [Bool.and_comm]
  · intro r s hrs hps
    simp only [decide_eq_true_eq] at hps ⊢
    exact cmp_lt_trans (cmp_lt.2 ⟨rfl, .inr hrs⟩) hps
  · intro r _ hp
    simp only [decide_eq_true_eq] at hp ⊢
    exact cmp_lt_trans hp hac
theorem below_first {rows : List Row} : belowF rows [] false = [] := by
  unfold belowF
  rw [List.filter_eq_nil_iff]
  intro r _
  rw [decide_eq_true_eq, cmp_lt]
  simp [bl_nil]
theorem below_top {rows : List Row} {k : List UInt8} : belowF rows k true = rows := by
  unfold belowF
  rw [List.filter_eq_self]
  intro r _
  rw [decide_eq_true_eq, cmp_lt]
  simp
theorem bounds_of {n : Nat} {g : Nat → Nat → D} (h : ∀ i, i < n → ∃ k v, g i 0 = .str k ∧ g i 1 = .bool v) : ∃ xs : List Bnd, xs.length = n ∧ LeS (.d (.list n 2 g)) (.d (encL encBnd 2 xs)) := by
  obtain ⟨xs, h1, _, h2⟩ := list_of (α := Bnd) (enc := encBnd) (Q := fun _ => True) (k := 2) (fun _ => rfl) (len := n) (get := g) (fun i hi => by
    obtain ⟨k, v, e1, e2⟩ := h i hi
    exact ⟨(k, v), trivial, by simp [List.range_succ, encBnd, e1, e2]⟩)
  exact ⟨xs, h1, LeS.d h2⟩

end Go.Sx
