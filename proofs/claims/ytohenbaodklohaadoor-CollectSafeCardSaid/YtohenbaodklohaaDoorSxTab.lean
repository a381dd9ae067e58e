/- Part of a symbolic executor over the model, proved sound, with plain laws: SxTab. Written for these claims. -/
import Derived.Test.YtohenbaodklohaaDoorSxTool
namespace Go.Sx
open Go
set_option linter.unusedVariables false
set_option linter.unusedSimpArgs false

/-! keys, bounds, ranges -/
def validB (k : List UInt8) (t : Bool) : Bool := decide ((k.length : Int) ≤ 64) && (!t || k == [])
def cmpB (ak : List UInt8) (at_ : Bool) (bk : List UInt8) (bt : Bool) : Int :=
  if at_ && bt then 0 else if at_ then 1 else if bt || Op.bytesLess ak bk then -1 else if Op.bytesLess bk ak then 1 else 0
def validR (lk : List UInt8) (lt : Bool) (hk : List UInt8) (ht : Bool) : Bool := validB lk lt && validB hk ht && decide (cmpB lk lt hk ht ≤ 0)
def emptyR (lk : List UInt8) (lt : Bool) (hk : List UInt8) (ht : Bool) : Bool := !(validR lk lt hk ht) || cmpB lk lt hk ht == 0
def containsR (lk : List UInt8) (lt : Bool) (hk : List UInt8) (ht : Bool) (k : List UInt8) : Bool :=
  !(emptyR lk lt hk ht) && decide ((k.length : Int) ≤ 64) && decide (cmpB lk lt k false ≤ 0) && decide (cmpB k false hk ht < 0)
/-! tables -/
abbrev Row := List UInt8 × List UInt8
def encRow (r : Row) : List D := [.str r.1, .str r.2]
def rowOk (r : Row) : Bool := decide ((r.1.length : Int) ≤ 64) && decide ((r.2.length : Int) ≤ 64)
def chkT (rows : List Row) (i : Nat) : Bool := rowOk (rows.getD i default) && (i == 0 || Op.bytesLess (rows.getD (i - 1) default).1 (rows.getD i default).1)
def validT (rows : List Row) : Bool := decide (rows.length ≤ 1024) && (List.range rows.length).all (chkT rows)
theorem validT_false {rows : List Row} {i : Nat} (hi : i < rows.length) (h : chkT rows i = false) : validT rows = false := by
  unfold validT
  cases h1 : (List.range rows.length).all (chkT rows) with
  | false => simp
  | true =>
    have := List.all_eq_true.1 h1 i (List.mem_range.2 hi)
    rw [h] at this
    cases this
theorem validT_true {rows : List Row} (hl : rows.length ≤ 1024) (h : ∀ i, i < rows.length → chkT rows i = true) : validT rows = true := by
  unfold validT
  rw [List.all_eq_true.2 (fun i hi => h i (List.mem_range.1 hi))]
  simp [hl]
def withoutF (rows : List Row) (k : List UInt8) : List Row := rows.filter fun r => !(r.1 == k)
theorem without_keep {rows : List Row} {k : List UInt8} {i : Nat} (h : i < rows.length) (hk : (!((rows.getD i default).1 == k)) = true) : withoutF (rows.take (i + 1)) k = withoutF (rows.take i) k ++ [rows.getD i default] := by
  rw [take_succ' h, withoutF, List.filter_append, List.filter_cons, if_pos hk, List.filter_nil]; rfl
theorem without_drop {rows : List Row} {k : List UInt8} {i : Nat} (h : i < rows.length) (hk : (!((rows.getD i default).1 == k)) = false) : withoutF (rows.take (i + 1)) k = withoutF (rows.take i) k := by
  rw [take_succ' h, withoutF, List.filter_append, List.filter_cons, if_neg (by rw [hk]; simp), List.filter_nil, List.append_nil]; rfl
def insF (x : Row) : List Row → List Row
  | [] => [x]
  | r :: l => if Op.bytesLess x.1 r.1 then x :: r :: l else r :: insF x l
def withF (rows : List Row) (x : Row) : List Row := insF x (withoutF rows x.1)
theorem without_len {rows : List Row} {k : List UInt8} : (withoutF rows k).length ≤ rows.length := List.length_filter_le _ _
theorem ins_len {x : Row} : ∀ {l : List Row}, (insF x l).length = l.length + 1
  | [] => rfl
  | r :: l => by
    simp only [insF]
    split
    · rfl
    · simp [ins_len (l := l)]
def putF (rows : List Row) (k v : List UInt8) : List Row × Int :=
  if !(validT rows) || !(validT [(k, v)]) then ([], 1) else if (withF rows (k, v)).length > 1024 then ([], 16) else (withF rows (k, v), 0)
theorem validT_len {rows : List Row} (h : validT rows = true) : rows.length ≤ 1024 := by
  simp only [validT, Bool.and_eq_true, decide_eq_true_eq] at h
  exact h.1

/-! plain laws -/
def Sorted (rows : List Row) : Prop := rows.Pairwise fun a b => Op.bytesLess a.1 b.1 = true
structure TabOk (rows : List Row) : Prop where
  len : rows.length ≤ 1024
  ok : ∀ r ∈ rows, rowOk r = true
  sorted : Sorted rows
theorem validT_iff {rows : List Row} : validT rows = true ↔ TabOk rows := by
  constructor
  · intro h
    simp only [validT, Bool.and_eq_true, decide_eq_true_eq, List.all_eq_true, List.mem_range] at h
    obtain ⟨h1, h2⟩ := h
    have ok : ∀ i (hi : i < rows.length), rowOk rows[i] = true ∧ (∀ j (hj : j + 1 = i), Op.bytesLess (rows[j]'(by omega)).1 rows[i].1 = true) := by
      intro i hi
      have := h2 i hi
      simp only [chkT, Bool.and_eq_true, Bool.or_eq_true, beq_iff_eq] at this
      refine ⟨by simpa [List.getD, hi] using this.1, fun j hj => ?_⟩
      subst hj
      have h3 := this.2.resolve_left (by omega)
      simpa [List.getD, hi, show j < rows.length by omega] using h3
    refine ⟨h1, fun r hr => ?_, ?_⟩
    · obtain ⟨i, hi, rfl⟩ := List.getElem_of_mem hr
      exact (ok i hi).1
    · rw [Sorted, List.pairwise_iff_getElem]
      intro i j hi hj hij
      induction j with
      | zero => omega
      | succ j ih =>
        have hs := (ok (j + 1) hj).2 j rfl
        rcases Nat.lt_or_ge i j with h | h
        · exact bl_trans (ih (by omega) h) hs
        · have : i = j := by omega
          subst this
          exact hs
  · intro h
    refine validT_true h.len (fun i hi => ?_)
    have h1 : rowOk (rows.getD i default) = true := by
      have e : rows.getD i default = rows[i] := by simp [List.getD, hi]
      rw [e]
      exact h.ok _ (List.getElem_mem hi)
    simp only [chkT, h1, Bool.true_and, Bool.or_eq_true, beq_iff_eq]
    rcases Nat.eq_zero_or_pos i with h0 | h0
    · exact .inl h0
    · right
      have := List.pairwise_iff_getElem.1 h.sorted (i - 1) i (by omega) hi (by omega)
      simpa [List.getD, hi, show i - 1 < rows.length by omega] using this
theorem Sorted.sub {l m : List Row} (h : Sorted m) (hs : l.Sublist m) : Sorted l := List.Pairwise.sublist hs h
theorem without_sub {rows : List Row} {k : List UInt8} : (withoutF rows k).Sublist rows := List.filter_sublist
theorem without_ne {rows : List Row} {k : List UInt8} {r : Row} (h : r ∈ withoutF rows k) : r ∈ rows ∧ r.1 ≠ k := by
  simp only [withoutF, List.mem_filter, Bool.not_eq_true', beq_eq_false_iff_ne, ne_eq] at h
  exact h
theorem ins_mem {x r : Row} : ∀ {l : List Row}, r ∈ insF x l ↔ r = x ∨ r ∈ l
  | [] => by simp [insF]
  | y :: l => by
    simp only [insF]
    split
    · simp
    · simp only [List.mem_cons, ins_mem (l := l)]
      constructor
      · rintro (h | h | h)
        · exact .inr (.inl h)
        · exact .inl h
        · exact .inr (.inr h)
      · rintro (h | h | h)
        · exact .inr (.inl h)
        · exact .inl h
        · exact .inr (.inr h)
theorem ins_sorted {x : Row} : ∀ {l : List Row}, Sorted l → (∀ r ∈ l, r.1 ≠ x.1) → Sorted (insF x l)
  | [], _, _ => by simp [insF, Sorted]
  | y :: l, h, hn => by
    simp only [Sorted, List.pairwise_cons] at h
    simp only [insF]
    split
    · rename_i hx
      simp only [Sorted, List.pairwise_cons]
      refine ⟨fun r hr => ?_, h⟩
      rcases List.mem_cons.1 hr with rfl | hr
      · exact hx
      · exact bl_trans hx (h.1 r hr)
    · rename_i hx
      have hx : Op.bytesLess x.1 y.1 = false := by simpa using hx
      have hyx : Op.bytesLess y.1 x.1 = true := by
        cases h2 : Op.bytesLess y.1 x.1 with
        | true => rfl
        | false => exact absurd (bl_tri h2 hx) (hn y (by simp))
      simp only [Sorted, List.pairwise_cons]
      refine ⟨fun r hr => ?_, ins_sorted h.2 (fun r hr => hn r (by simp [hr]))⟩
      rcases ins_mem.1 hr with rfl | hr
      · exact hyx
      · exact h.1 r hr
theorem with_ok {rows : List Row} {x : Row} (h : TabOk rows) (hx : rowOk x = true) : (∀ r ∈ withF rows x, rowOk r = true) ∧ Sorted (withF rows x) ∧ (withF rows x).length ≤ rows.length + 1 := by
  refine ⟨fun r hr => ?_, ?_, ?_⟩
  · rcases ins_mem.1 hr with rfl | hr
    · exact hx
    · exact h.ok r (without_ne hr).1
  · exact ins_sorted (h.sorted.sub without_sub) (fun r hr => (without_ne hr).2)
  · unfold withF
    rw [ins_len]
    have := without_len (rows := rows) (k := x.1)
    omega
theorem tabOk_nil : TabOk [] := ⟨by simp, by simp, .nil⟩
theorem validT_one {k v : List UInt8} : validT [(k, v)] = rowOk (k, v) := by
  simp [validT, chkT, List.range_succ]
theorem put_ok {rows : List Row} {k v : List UInt8} (h : TabOk rows) : TabOk (putF rows k v).1 ∧ (putF rows k v).1.length ≤ rows.length + 1 := by
  unfold putF
  split
  · exact ⟨tabOk_nil, by simp⟩
  · rename_i hv
    split
    · exact ⟨tabOk_nil, by simp⟩
    · rename_i hl
      simp only [Bool.or_eq_true, Bool.not_eq_true', not_or, Bool.not_eq_false, validT_one] at hv
      have hk := with_ok h hv.2
      exact ⟨⟨by simp only; omega, hk.1, hk.2.1⟩, hk.2.2⟩
theorem rows_of {n : Nat} {g : Nat → Nat → D} (h : ∀ i, i < n → ∃ k v, g i 0 = .str k ∧ g i 1 = .str v) : ∃ xs : List Row, xs.length = n ∧ LeS (.d (.list n 2 g)) (.d (encL encRow 2 xs)) := by
  obtain ⟨xs, h1, _, h2⟩ := list_of (α := Row) (enc := encRow) (Q := fun _ => True) (k := 2) (fun _ => rfl) (len := n) (get := g) (fun i hi => by
    obtain ⟨k, v, e1, e2⟩ := h i hi
    exact ⟨(k, v), trivial, by simp [List.range_succ, encRow, e1, e2]⟩)
  exact ⟨xs, h1, LeS.d h2⟩
theorem cmp_self {k : List UInt8} {t : Bool} : cmpB k t k t = 0 := by cases t <;> simp [cmpB, bl_irrefl]
/-- the lower bound of a range that is not empty is one of its keys -/
theorem keyIn_low {lk : List UInt8} {lt : Bool} {hk : List UInt8} {ht : Bool} (h : emptyR lk lt hk ht = false) : (lk.length : Int) ≤ 64 ∧ containsR lk lt hk ht lk = true := by
  have h0 := h
  simp only [emptyR, validR, validB, Bool.or_eq_false_iff, Bool.not_eq_false', Bool.and_eq_true, decide_eq_true_eq, beq_eq_false_iff_ne] at h
  obtain ⟨⟨⟨⟨h1, h2⟩, h3, h4⟩, h5⟩, h6⟩ := h
  have hlt : lt = false := by
    cases lt with
    | false => rfl
    | true =>
      exfalso
      cases ht with
      | true => exact h6 (by simp [cmpB])
      | false => simp [cmpB] at h5
  subst hlt
  refine ⟨h1, ?_⟩
  simp only [containsR, h0, Bool.not_false, Bool.true_and, Bool.and_eq_true, decide_eq_true_eq]
  exact ⟨⟨h1, by rw [cmp_self]; decide⟩, by omega⟩

/-! ranges of a list -/
abbrev Bnd := List UInt8 × Bool
abbrev Rng := List UInt8 × Bool × List UInt8 × Bool
def encBnd (b : Bnd) : List D := [.str b.1, .bool b.2]
def encRng (r : Rng) : List D := [.str r.1, .bool r.2.1, .str r.2.2.1, .bool r.2.2.2]
def sliceF (rows : List Row) (lk : List UInt8) (lt : Bool) (hk : List UInt8) (ht : Bool) : List Row := rows.filter fun r => containsR lk lt hk ht r.1
theorem slice_keep {rows : List Row} {lk : List UInt8} {lt : Bool} {hk : List UInt8} {ht : Bool} {i : Nat} (h : i < rows.length) (hc : containsR lk lt hk ht (rows.getD i default).1 = true) : sliceF (rows.take (i + 1)) lk lt hk ht = sliceF (rows.take i) lk lt hk ht ++ [rows.getD i default] := by
  rw [take_succ' h, sliceF, List.filter_append, List.filter_cons, if_pos hc, List.filter_nil]; rfl
theorem slice_drop {rows : List Row} {lk : List UInt8} {lt : Bool} {hk : List UInt8} {ht : Bool} {i : Nat} (h : i < rows.length) (hc : containsR lk lt hk ht (rows.getD i default).1 = false) : sliceF (rows.take (i + 1)) lk lt hk ht = sliceF (rows.take i) lk lt hk ht := by
  rw [take_succ' h, sliceF, List.filter_append, List.filter_cons, if_neg (by rw [hc]; simp), List.filter_nil, List.append_nil]; rfl
theorem slice_len {rows : List Row} {lk : List UInt8} {lt : Bool} {hk : List UInt8} {ht : Bool} : (sliceF rows lk lt hk ht).length ≤ rows.length := List.length_filter_le _ _

/-! bounds in order -/
theorem cmp_tri (ak : List UInt8) (a : Bool) (bk : List UInt8) (b : Bool) : cmpB ak a bk b = -1 ∨ cmpB ak a bk b = 0 ∨ cmpB ak a bk b = 1 := by
  unfold cmpB
  repeat' split
  all_goals simp
theorem cmp_lt {ak : List UInt8} {a : Bool} {bk : List UInt8} {b : Bool} : cmpB ak a bk b < 0 ↔ (a = false ∧ (b = true ∨ Op.bytesLess ak bk = true)) := by
  unfold cmpB
  cases a <;> cases b <;> cases h : Op.bytesLess ak bk <;> simp
  split <;> omega
theorem cmp_le {ak : List UInt8} {a : Bool} {bk : List UInt8} {b : Bool} : cmpB ak a bk b ≤ 0 ↔ (b = true ∨ (a = false ∧ Op.bytesLess bk ak = false)) := by
  unfold cmpB
  cases a <;> cases b <;> cases h : Op.bytesLess ak bk <;> cases h2 : Op.bytesLess bk ak <;> simp
  exact absurd (bl_trans h h2) (by rw [bl_irrefl]; simp)
theorem cmp_le_not {ak : List UInt8} {a : Bool} {bk : List UInt8} {b : Bool} : cmpB ak a bk b ≤ 0 ↔ ¬ cmpB bk b ak a < 0 := by
  rw [cmp_le, cmp_lt]
  cases a <;> cases b <;> simp
theorem cmp_lt_trans {ak : List UInt8} {a : Bool} {bk : List UInt8} {b : Bool} {ck : List UInt8} {c : Bool} (h1 : cmpB ak a bk b < 0) (h2 : cmpB bk b ck c < 0) : cmpB ak a ck c < 0 := by
  rw [cmp_lt] at *
  obtain ⟨rfl, h1⟩ := h1
  obtain ⟨rfl, h2⟩ := h2
  refine ⟨rfl, ?_⟩
  rcases h2 with h2 | h2
  · exact .inl h2
  · rcases h1 with h1 | h1
    · cases h1
    · exact .inr (bl_trans h1 h2)
/-- the rows below a bound -/
def belowF (rows : List Row) (k : List UInt8) (t : Bool) : List Row := rows.filter fun r => decide (cmpB r.1 false k t < 0)
/-- a downward part of a sorted list stands in front -/
theorem filter_split {p q : Row → Bool} : ∀ {rows : List Row}, Sorted rows → (∀ r s : Row, Op.bytesLess r.1 s.1 = true → p s = true → p r = true) → (∀ r ∈ rows, p r = true → q r = true) →
    rows.filter q = rows.filter p ++ rows.filter (fun r => q r && !(p r))
  | [], _, _, _ => rfl
  | r :: rows, hs, hd, hq => by
    simp only [Sorted, List.pairwise_cons] at hs
    have ih := filter_split (rows := rows) hs.2 hd (fun s h => hq s (by simp [h]))
    cases hp : p r with
    | true => simp [List.filter_cons, hp, hq r (by simp) hp, ih]
    | false =>
      have hno : rows.filter p = [] := by
        rw [List.filter_eq_nil_iff]
        intro s hs' hps
        rw [hd r s (hs.1 s hs') hps] at hp
        cases hp
      rw [hno, List.nil_append] at ih
      cases hqr : q r <;> simp [List.filter_cons, hp, hqr, hno, ih]
theorem below_split {rows : List Row} (h : TabOk rows) {ak : List UInt8} {a : Bool} {ck : List UInt8} {c : Bool} (ha : validB ak a = true) (hc : validB ck c = true) (hac : cmpB ak a ck c < 0) :
    belowF rows ck c = belowF rows ak a ++ sliceF rows ak a ck c := by
  unfold belowF sliceF
  rw [filter_split (p := fun r => decide (cmpB r.1 false ak a < 0)) h.sorted]
  · congr 1
    apply List.filter_congr
    intro r hr
    have hk := h.ok r hr
    simp only [rowOk, Bool.and_eq_true, decide_eq_true_eq] at hk
    have hne : emptyR ak a ck c = false := by
      simp only [emptyR, validR, ha, hc, Bool.true_and, Bool.or_eq_false_iff, Bool.not_eq_false', decide_eq_true_eq, beq_eq_false_iff_ne]
      exact ⟨by omega, by omega⟩
    have hle : (cmpB ak a r.1 false ≤ 0) ↔ ¬ (cmpB r.1 false ak a < 0) := cmp_le_not
    simp only [containsR, hne, hk.1, Bool.not_false, decide_true, Bool.true_and, hle, decide_not]
    rw [Bool.and_comm]
  · intro r s hrs hps
    simp only [decide_eq_true_eq] at hps ⊢
    exact cmp_lt_trans (cmp_lt.2 ⟨rfl, .inr hrs⟩) hps
  · intro r _ hp
    simp only [decide_eq_true_eq] at hp ⊢
    exact cmp_lt_trans hp hac
theorem below_first {rows : List Row} : belowF rows [] false = [] := by
  unfold belowF
  rw [List.filter_eq_nil_iff]
  intro r _
  rw [decide_eq_true_eq, cmp_lt]
  simp [bl_nil]
theorem below_top {rows : List Row} {k : List UInt8} : belowF rows k true = rows := by
  unfold belowF
  rw [List.filter_eq_self]
  intro r _
  rw [decide_eq_true_eq, cmp_lt]
  simp
theorem bounds_of {n : Nat} {g : Nat → Nat → D} (h : ∀ i, i < n → ∃ k v, g i 0 = .str k ∧ g i 1 = .bool v) : ∃ xs : List Bnd, xs.length = n ∧ LeS (.d (.list n 2 g)) (.d (encL encBnd 2 xs)) := by
  obtain ⟨xs, h1, _, h2⟩ := list_of (α := Bnd) (enc := encBnd) (Q := fun _ => True) (k := 2) (fun _ => rfl) (len := n) (get := g) (fun i hi => by
    obtain ⟨k, v, e1, e2⟩ := h i hi
    exact ⟨(k, v), trivial, by simp [List.range_succ, encBnd, e1, e2]⟩)
  exact ⟨xs, h1, LeS.d h2⟩

end Go.Sx

namespace Go.Sx
open Go
set_option linter.unusedVariables false
set_option linter.unusedSimpArgs false

structure FoldR where
  count : Int
  numbers : Int
  sum : Int
  low : Int
  high : Int
  first : List UInt8
  last : List UInt8
abbrev encFold (f : FoldR) : SV := .agg [.d (.int .i64 f.count), .d (.int .i64 f.numbers), .d (.int .i64 f.sum), .d (.int .i64 f.low), .d (.int .i64 f.high), .d (.str f.first), .d (.str f.last)]
def numLoop (s : List UInt8) : Nat → Nat → Int → Option Int
  | 0, _, acc => some acc
  | f + 1, pos, acc => if pos < s.length then
      (if ((runeAt s pos).1 : Int) < 48 ∨ ((runeAt s pos).1 : Int) > 57 then none
       else
         if IntKind.i64.wrap (IntKind.i64.wrap (acc * 10) + IntKind.i64.wrap (IntKind.i32.wrap ((runeAt s pos).1 - 48))) > 1000000000000 then none
         else numLoop s f (pos + (runeAt s pos).2) (IntKind.i64.wrap (IntKind.i64.wrap (acc * 10) + IntKind.i64.wrap (IntKind.i32.wrap ((runeAt s pos).1 - 48)))))
    else some acc
theorem runeAt_pos {s : List UInt8} {pos : Nat} (h : pos < s.length) : 1 ≤ (runeAt s pos).2 := by
  unfold runeAt
  by_cases ha : ((ByteArray.mk ⟨s⟩)[pos]'h).toNat < 128
  · rw [decode_ascii ⟨⟨s⟩⟩ pos h ha]; exact Nat.le_refl _
  · exact (decode_high ⟨⟨s⟩⟩ pos h (by omega)).2
theorem numLoop_end {s : List UInt8} {f pos : Nat} {acc : Int} (h : ¬ pos < s.length) : numLoop s f pos acc = some acc := by
  cases f with
  | zero => rfl
  | succ f => simp [numLoop, h]
def numTail (s : List UInt8) (neg : Bool) : Int × Bool :=
  if s = [] then (0, false)
  else if ((s.getD 0 0).toNat : Int) = 48 ∧ ((s.length : Int) > 1 ∨ neg = true) then (0, false)
  else match numLoop s s.length 0 0 with
    | none => (0, false)
    | some v => (if neg then IntKind.i64.wrap (0 - v) else v, true)
def number (l : List UInt8) : Int × Bool :=
  if (l.length : Int) > 0 ∧ ((l.getD 0 0).toNat : Int) = 45 then numTail (l.drop 1) true else numTail l false
def numPre (s : List UInt8) (x : Nat × Nat × Int) : Prop := s.length ≤ x.2.1 + x.1 ∧ numLoop s x.1 x.2.1 x.2.2 = numLoop s s.length 0 0
theorem numPre_pos {s : List UInt8} {x : Nat × Nat × Int} (h : numPre s x) (hp : x.2.1.blt s.length = true) : ∃ f, x.1 = f + 1 ∧ x.2.1 < s.length := by
  have hp : x.2.1 < s.length := Nat.le_of_ble_eq_true hp
  have := h.1
  exact ⟨x.1 - 1, by omega, hp⟩
theorem numPre_bad {s : List UInt8} {x : Nat × Nat × Int} (h : numPre s x) (hp : x.2.1.blt s.length = true) (hc : ((runeAt s x.2.1).1 : Int) < 48 ∨ ((runeAt s x.2.1).1 : Int) > 57) : numLoop s s.length 0 0 = none := by
  obtain ⟨f, e, hlt⟩ := numPre_pos h hp
  rw [← h.2, e]
  simp only [numLoop, hlt, hc, if_true]
theorem numPre_big {s : List UInt8} {x : Nat × Nat × Int} (h : numPre s x) (hp : x.2.1.blt s.length = true) (h1 : ¬ ((runeAt s x.2.1).1 : Int) < 48) (h2 : ¬ ((runeAt s x.2.1).1 : Int) > 57)
    (h3 : IntKind.i64.wrap (IntKind.i64.wrap (x.2.2 * 10) + IntKind.i64.wrap (IntKind.i32.wrap ((runeAt s x.2.1).1 - 48))) > 1000000000000) : numLoop s s.length 0 0 = none := by
  obtain ⟨f, e, hlt⟩ := numPre_pos h hp
  rw [← h.2, e]
  simp only [numLoop, hlt, h1, h2, h3, or_self, if_true, if_false]
theorem numPre_step {s : List UInt8} {x : Nat × Nat × Int} (h : numPre s x) (hp : x.2.1.blt s.length = true) (h1 : ¬ ((runeAt s x.2.1).1 : Int) < 48) (h2 : ¬ ((runeAt s x.2.1).1 : Int) > 57)
    (h3 : ¬ IntKind.i64.wrap (IntKind.i64.wrap (x.2.2 * 10) + IntKind.i64.wrap (IntKind.i32.wrap ((runeAt s x.2.1).1 - 48))) > 1000000000000) :
    numPre s (x.1 - 1, x.2.1 + (runeAt s x.2.1).2, IntKind.i64.wrap (IntKind.i64.wrap (x.2.2 * 10) + IntKind.i64.wrap (IntKind.i32.wrap ((runeAt s x.2.1).1 - 48)))) := by
  obtain ⟨f, e, hlt⟩ := numPre_pos h hp
  have hw := runeAt_pos hlt
  refine ⟨by have := h.1; simp only; omega, ?_⟩
  rw [← h.2, e]
  simp only [numLoop, hlt, h1, h2, h3, or_self, if_true, if_false, Nat.add_sub_cancel]
theorem numPre_lt {s : List UInt8} {x : Nat × Nat × Int} (h : numPre s x) (hp : x.2.1.blt s.length = true) : x.1 - 1 < x.1 := by
  obtain ⟨f, e, hlt⟩ := numPre_pos h hp
  omega
theorem numPre_end {s : List UInt8} {x : Nat × Nat × Int} (h : numPre s x) (hp : x.2.1.blt s.length = false) : numLoop s s.length 0 0 = some x.2.2 := by
  rw [← h.2]
  refine numLoop_end (fun hlt => ?_)
  rw [show x.2.1.blt s.length = true from Nat.ble_eq_true_of_le hlt] at hp
  cases hp
/-! sum.add -/
abbrev cells (f : FoldR) : List SV := [.d (.int .i64 f.count), .d (.int .i64 f.numbers), .d (.int .i64 f.sum), .d (.int .i64 f.low), .d (.int .i64 f.high), .d (.str f.first), .d (.str f.last)]
abbrev encRowA (k v : List UInt8) : SV := .agg [.d (.str k), .d (.str v)]
def addF (f : FoldR) (k v : List UInt8) : FoldR :=
  if (number v).2 = true then
    { count := IntKind.i64.wrap (f.count + 1), first := if f.count = 0 then k else f.first, last := k, numbers := IntKind.i64.wrap (f.numbers + 1), sum := IntKind.i64.wrap (f.sum + (number v).1),
      low := if f.numbers = 0 ∨ (number v).1 < f.low then (number v).1 else f.low, high := if f.numbers = 0 ∨ (number v).1 > f.high then (number v).1 else f.high }
  else { count := IntKind.i64.wrap (f.count + 1), first := if f.count = 0 then k else f.first, last := k, numbers := f.numbers, sum := f.sum, low := f.low, high := f.high }
/-! ref.Number -/
def refStep (acc : Int) (b : UInt8) : Int := IntKind.i64.wrap (IntKind.i64.wrap (10 * acc) + IntKind.i64.wrap (IntKind.u8.wrap ((b.toNat : Int) - 48)))
def refLoop : List UInt8 → Int → Option Int
  | [], acc => some acc
  | b :: l, acc => if (b.toNat : Int) < 48 ∨ (b.toNat : Int) > 57 then none else refLoop l (refStep acc b)
def refTail (s : List UInt8) (neg : Bool) : Int × Bool :=
  if (s.length : Int) = 0 ∨ (s.length : Int) > 13 then (0, false)
  else if ((s.getD 0 0).toNat : Int) = 48 ∧ ((s.length : Int) > 1 ∨ neg = true) then (0, false)
  else match refLoop s 0 with
    | none => (0, false)
    | some v => if v > 1000000000000 then (0, false) else (if neg then IntKind.i64.wrap (0 - v) else v, true)
def refNumber (l : List UInt8) : Int × Bool :=
  if (l.length : Int) > 1 ∧ ((l.getD 0 0).toNat : Int) = 45 then refTail (l.drop 1) true else refTail l false
def refPre (s : List UInt8) (x : Nat × Int) : Prop := x.1 ≤ s.length ∧ refLoop (s.drop x.1) x.2 = refLoop s 0
theorem refPre_drop {s : List UInt8} {i : Nat} (h : i < s.length) : s.drop i = s.getD i 0 :: s.drop (i + 1) := by
  rw [List.drop_eq_getElem_cons h]
  simp [List.getD, h]
theorem refPre_bad {s : List UInt8} {x : Nat × Int} (h : refPre s x) (h1 : (x.1 : Int) < s.length) (hc : ((s.getD x.1 0).toNat : Int) < 48 ∨ ((s.getD x.1 0).toNat : Int) > 57) : refLoop s 0 = none := by
  rw [← h.2, refPre_drop (by omega)]
  simp only [refLoop, hc, if_true]
theorem refPre_step {s : List UInt8} {x : Nat × Int} (h : refPre s x) (h1 : (x.1 : Int) < s.length) (h2 : ¬ ((s.getD x.1 0).toNat : Int) < 48) (h3 : ¬ ((s.getD x.1 0).toNat : Int) > 57) : refPre s (x.1 + 1, refStep x.2 (s.getD x.1 0)) := by
  refine ⟨by simp only; omega, ?_⟩
  rw [← h.2, refPre_drop (show x.1 < s.length by omega)]
  simp only [refLoop, h2, h3, or_self, if_false]
theorem refPre_end {s : List UInt8} {x : Nat × Int} (h : refPre s x) (h1 : ¬ (x.1 : Int) < s.length) : refLoop s 0 = some x.2 := by
  rw [← h.2, List.drop_eq_nil_of_le (by omega)]
  rfl
theorem refPre_idx {s : List UInt8} {x : Nat × Int} (h : (x.1 : Int) < s.length) (hl : ¬ (s.length : Int) > 13) : IntKind.i64.wrap ((x.1 : Int) + 1) = ((x.1 + 1 : Nat) : Int) := by
  rw [wrap_of (by omega) (by omega)]; rfl
/-! plain laws of numbers -/
def byteLoop : List UInt8 → Int → Option Int
  | [], acc => some acc
  | b :: l, acc => if (b.toNat : Int) < 48 ∨ (b.toNat : Int) > 57 then none else if acc * 10 + (b.toNat - 48) > 1000000000000 then none else byteLoop l (acc * 10 + (b.toNat - 48))
theorem wrap32_of {n : Int} (h1 : -2147483648 ≤ n) (h2 : n < 2147483648) : IntKind.i32.wrap n = n := by
  simp [IntKind.wrap, IntKind.bits, IntKind.signed]
  split <;> omega
theorem wrapu8_of {n : Int} (h1 : 0 ≤ n) (h2 : n < 256) : IntKind.u8.wrap n = n := by
  simp [IntKind.wrap, IntKind.bits, IntKind.signed]
  omega
theorem runeAt_low {s : List UInt8} {pos : Nat} (h : pos < s.length) (hb : (s.getD pos 0).toNat < 128) : runeAt s pos = ((s.getD pos 0).toNat, 1) := by
  have e : (s.getD pos 0) = (ByteArray.mk ⟨s⟩)[pos]'h := by simp [List.getD, h]; rfl
  rw [e] at hb ⊢
  exact decode_ascii ⟨⟨s⟩⟩ pos h hb
theorem runeAt_high {s : List UInt8} {pos : Nat} (h : pos < s.length) (hb : ¬ (s.getD pos 0).toNat < 128) : 128 ≤ (runeAt s pos).1 := by
  have e : (s.getD pos 0) = (ByteArray.mk ⟨s⟩)[pos]'h := by simp [List.getD, h]; rfl
  rw [e] at hb
  exact (decode_high ⟨⟨s⟩⟩ pos h (by omega)).1
theorem numLoop_bytes {s : List UInt8} : ∀ (f pos : Nat) (acc : Int), s.length ≤ pos + f → 0 ≤ acc → acc ≤ 1000000000000 → numLoop s f pos acc = byteLoop (s.drop pos) acc
  | 0, pos, acc, h, _, _ => by rw [List.drop_eq_nil_of_le (by omega)]; rfl
  | f + 1, pos, acc, h, h0, h1 => by
    by_cases hp : pos < s.length
    · rw [refPre_drop hp]
      by_cases hb : (s.getD pos 0).toNat < 128
      · simp only [numLoop, hp, if_true, runeAt_low hp hb, byteLoop]
        generalize (s.getD pos 0).toNat = b at *
        by_cases hd : (b : Int) < 48 ∨ (b : Int) > 57
        · simp only [hd, if_true]
        · simp only [hd, if_false]
          have w1 : IntKind.i64.wrap (acc * 10) = acc * 10 := wrap_of (by omega) (by omega)
          have w2 : IntKind.i32.wrap ((b : Int) - 48) = (b : Int) - 48 := wrap32_of (by omega) (by omega)
          have w3 : IntKind.i64.wrap ((b : Int) - 48) = (b : Int) - 48 := wrap_of (by omega) (by omega)
          have w4 : IntKind.i64.wrap (acc * 10 + ((b : Int) - 48)) = acc * 10 + ((b : Int) - 48) := wrap_of (by omega) (by omega)
          rw [w1, w2, w3, w4]
          by_cases hbig : acc * 10 + ((b : Int) - 48) > 1000000000000
          · simp only [hbig, if_true]
          · simp only [hbig, if_false]
            exact numLoop_bytes f (pos + 1) _ (by omega) (by omega) (by omega)
      · have hr := runeAt_high hp hb
        simp only [numLoop, hp, if_true, byteLoop]
        rw [if_pos (Or.inr (show ((runeAt s pos).1 : Int) > 57 by omega)), if_pos (Or.inr (show ((s.getD pos 0).toNat : Int) > 57 by omega))]
    · rw [List.drop_eq_nil_of_le (by omega)]
      simp only [numLoop, hp, if_false, byteLoop]
theorem numLoop_all (s : List UInt8) : numLoop s s.length 0 0 = byteLoop s 0 := by
  rw [numLoop_bytes s.length 0 0 (by omega) (by decide) (by decide)]; rfl
theorem byteLoop_low : ∀ {l : List UInt8} {acc v : Int}, byteLoop l acc = some v → 0 ≤ acc → acc * 10 ^ l.length ≤ v ∧ (acc ≤ 1000000000000 → v ≤ 1000000000000)
  | [], acc, v, h, _ => by
    simp only [byteLoop, Option.some.injEq] at h
    subst h
    simp
  | b :: l, acc, v, h, h0 => by
    simp only [byteLoop] at h
    split at h
    · cases h
    · rename_i hd
      split at h
      · cases h
      · rename_i hb
        obtain ⟨h1, h2⟩ := byteLoop_low h (by omega)
        refine ⟨?_, fun _ => h2 (by omega)⟩
        rw [List.length_cons, Int.pow_succ]
        have hp : (0 : Int) ≤ 10 ^ l.length := Int.pow_nonneg (by decide)
        have h3 : acc * 10 * 10 ^ l.length ≤ (acc * 10 + ((b.toNat : Int) - 48)) * 10 ^ l.length := Int.mul_le_mul_of_nonneg_right (by omega) hp
        have h4 : acc * (10 ^ l.length * 10) = acc * 10 * 10 ^ l.length := by rw [Int.mul_comm (10 ^ l.length) 10, Int.mul_assoc]
        rw [h4]
        omega
theorem byteLoop_long {l : List UInt8} (h : l.length > 13) (h0 : ¬ ((l.getD 0 0).toNat : Int) = 48) : byteLoop l 0 = none := by
  cases l with
  | nil => simp at h
  | cons b l =>
    simp only [List.getD_cons_zero] at h0
    cases hv : byteLoop (b :: l) 0 with
    | none => rfl
    | some v =>
      exfalso
      simp only [byteLoop] at hv
      split at hv
      · cases hv
      · split at hv
        · cases hv
        · obtain ⟨h1, h2⟩ := byteLoop_low hv (by omega)
          have h3 := h2 (by omega)
          have hp : (10 : Int) ^ 13 ≤ 10 ^ l.length := by
            have : (10 : Nat) ^ 13 ≤ 10 ^ l.length := Nat.pow_le_pow_right (by decide) (by simp at h; omega)
            exact_mod_cast this
          have h4 : 1 * 10 ^ l.length ≤ (0 * 10 + ((b.toNat : Int) - 48)) * 10 ^ l.length := Int.mul_le_mul_of_nonneg_right (by omega) (Int.pow_nonneg (by decide))
          have h5 : (10 : Int) ^ 13 = 10000000000000 := rfl
          omega
theorem refStep_of {acc : Int} {b : UInt8} (h0 : 0 ≤ acc) (h1 : acc ≤ 100000000000000000) (h2 : ¬ ((b.toNat : Int) < 48 ∨ (b.toNat : Int) > 57)) : refStep acc b = acc * 10 + (b.toNat - 48) := by
  unfold refStep
  rw [wrap_of (n := 10 * acc) (by omega) (by omega), wrapu8_of (n := (b.toNat : Int) - 48) (by omega) (by omega), wrap_of (n := (b.toNat : Int) - 48) (by omega) (by omega), wrap_of (by omega) (by omega)]
  omega
theorem bound_step {acc d : Int} {k : Nat} (h0 : 0 ≤ acc) (hd : d ≤ 9) (h : (acc + 1) * 10 ^ (k + 1) ≤ 100000000000000000) : acc ≤ 100000000000000000 ∧ (acc * 10 + d + 1) * 10 ^ k ≤ 100000000000000000 := by
  rw [Int.pow_succ] at h
  have hp : (1 : Int) ≤ 10 ^ k := by
    have : 1 ≤ (10 : Nat) ^ k := Nat.one_le_pow _ _ (by decide)
    exact_mod_cast this
  generalize (10 : Int) ^ k = p at *
  have e : (acc + 1) * (p * 10) = (acc * 10 + 10) * p := by rw [Int.mul_comm p 10, ← Int.mul_assoc, Int.add_mul]; rfl
  rw [e] at h
  refine ⟨?_, ?_⟩
  · have : (acc * 10 + 10) * 1 ≤ (acc * 10 + 10) * p := Int.mul_le_mul_of_nonneg_left hp (by omega)
    omega
  · have : (acc * 10 + d + 1) * p ≤ (acc * 10 + 10) * p := Int.mul_le_mul_of_nonneg_right (by omega) (by omega)
    omega
theorem refLoop_mono : ∀ {l : List UInt8} {acc v : Int}, 0 ≤ acc → (acc + 1) * 10 ^ l.length ≤ 100000000000000000 → refLoop l acc = some v → acc ≤ v
  | [], acc, v, _, _, h => by simp only [refLoop, Option.some.injEq] at h; omega
  | b :: l, acc, v, h0, hb, h => by
    simp only [refLoop] at h
    split at h
    · cases h
    · rename_i hd
      rw [List.length_cons] at hb
      obtain ⟨k1, k2⟩ := bound_step (d := (b.toNat : Int) - 48) h0 (by omega) hb
      rw [refStep_of h0 k1 hd] at h
      have := refLoop_mono (by omega) k2 h
      omega
theorem refLoop_bytes : ∀ {l : List UInt8} {acc : Int}, 0 ≤ acc → acc ≤ 1000000000000 → (acc + 1) * 10 ^ l.length ≤ 100000000000000000 →
    byteLoop l acc = match refLoop l acc with | none => none | some v => if v > 1000000000000 then none else some v
  | [], acc, _, h1, _ => by simp only [byteLoop, refLoop]; rw [if_neg (by omega)]
  | b :: l, acc, h0, h1, hb => by
    simp only [byteLoop, refLoop]
    by_cases hd : (b.toNat : Int) < 48 ∨ (b.toNat : Int) > 57
    · simp only [hd, if_true]
    · simp only [hd, if_false]
      rw [List.length_cons] at hb
      obtain ⟨k1, k2⟩ := bound_step (d := (b.toNat : Int) - 48) h0 (by omega) hb
      rw [refStep_of h0 k1 hd]
      by_cases hbig : acc * 10 + ((b.toNat : Int) - 48) > 1000000000000
      · simp only [hbig, if_true]
        cases hr : refLoop l (acc * 10 + ((b.toNat : Int) - 48)) with
        | none => rfl
        | some v =>
          have := refLoop_mono (by omega) k2 hr
          simp only
          rw [if_pos (by omega)]
      · simp only [hbig, if_false]
        exact refLoop_bytes (by omega) (by omega) k2
theorem tail_eq (s : List UInt8) (neg : Bool) : refTail s neg = numTail s neg := by
  unfold refTail numTail
  by_cases h0 : s = []
  · subst h0; simp
  · have hl := lpos h0
    rw [if_neg h0]
    by_cases h13 : (s.length : Int) > 13
    · rw [if_pos (.inr h13)]
      split
      · rfl
      · rename_i hz
        rw [numLoop_all, byteLoop_long (by omega) (fun e => hz ⟨e, .inl (by omega)⟩)]
    · rw [if_neg (by omega)]
      split
      · rfl
      · rw [numLoop_all, refLoop_bytes (by decide) (by decide)]
        · cases refLoop s 0 with
          | none => rfl
          | some v =>
            simp only
            by_cases hv : v > 1000000000000
            · simp only [hv, if_true]
            · simp only [hv, if_false]
        · have : (10 : Nat) ^ s.length ≤ 10 ^ 13 := Nat.pow_le_pow_right (by decide) (by omega)
          have h2 : (10 : Int) ^ s.length ≤ 10 ^ 13 := by exact_mod_cast this
          have h5 : (10 : Int) ^ 13 = 10000000000000 := rfl
          omega
theorem number_eq (l : List UInt8) : refNumber l = number l := by
  unfold refNumber number
  by_cases h1 : (l.length : Int) > 1
  · simp only [h1, true_and, tail_eq, show (l.length : Int) > 0 by omega]
  · rw [if_neg (fun h => h1 h.1), tail_eq]
    by_cases h2 : (l.length : Int) > 0 ∧ ((l.getD 0 0).toNat : Int) = 45
    · rw [if_pos h2]
      match l, h1, h2 with
      | [b], _, h2 =>
        have hb : b = 45 := UInt8.toNat.inj (by have := h2.2; simp only [List.getD_cons_zero] at this; show b.toNat = 45; omega)
        subst hb
        decide
      | [], _, h2 => simp at h2
      | _ :: _ :: _, h1, _ => simp at h1; omega
    · rw [if_neg h2]

/-! the aggregate of rows -/
def foldZ : FoldR := ⟨0, 0, 0, 0, 0, [], []⟩
def foldOf (rows : List Row) : FoldR := rows.foldl (fun f r => addF f r.1 r.2) foldZ
theorem foldOf_take {rows : List Row} {i : Nat} (h : i < rows.length) : foldOf (rows.take (i + 1)) = addF (foldOf (rows.take i)) (rows.getD i default).1 (rows.getD i default).2 := by
  rw [take_succ' h, foldOf, List.foldl_append]; rfl
def awakeRows : List Row := [([97], [51]), ([98], [120]), ([99], [45, 49])]
theorem number_1 : number [45, 55] = (-7, true) := by decide
theorem number_2 : number [48, 55] = (0, false) := by decide
theorem foldOf_awake : foldOf awakeRows = ⟨3, 2, 2, -1, 3, [97], [99]⟩ := by rfl
def joinF (a b : FoldR) : FoldR :=
  { count := IntKind.i64.wrap (a.count + b.count), numbers := IntKind.i64.wrap (a.numbers + b.numbers), sum := IntKind.i64.wrap (a.sum + b.sum),
    low := if a.numbers = 0 then b.low else if b.numbers = 0 then a.low else if b.low < a.low then b.low else a.low,
    high := if a.numbers = 0 then b.high else if b.numbers = 0 then a.high else if b.high > a.high then b.high else a.high,
    first := if a.count = 0 then b.first else a.first, last := if b.count = 0 then a.last else b.last }
def oneF (k v : List UInt8) : FoldR :=
  if (number v).2 = true then ⟨1, 1, (number v).1, (number v).1, (number v).1, k, k⟩ else ⟨1, 0, 0, 0, 0, k, k⟩
def refOf (rows : List Row) : FoldR := rows.foldl (fun f r => joinF f (oneF r.1 r.2)) foldZ
theorem refOf_take {rows : List Row} {i : Nat} (h : i < rows.length) : refOf (rows.take (i + 1)) = joinF (refOf (rows.take i)) (oneF (rows.getD i default).1 (rows.getD i default).2) := by
  rw [take_succ' h, refOf, List.foldl_append]; rfl
structure FoldB (m : Nat) (f : FoldR) : Prop where
  c : f.count = m
  n1 : 0 ≤ f.numbers
  n2 : f.numbers ≤ m
  s1 : -(m * 1000000000000) ≤ f.sum
  s2 : f.sum ≤ m * 1000000000000
  l1 : -1000000000000 ≤ f.low
  l2 : f.low ≤ 1000000000000
  h1 : -1000000000000 ≤ f.high
  h2 : f.high ≤ 1000000000000
  z : f.numbers = 0 → f.sum = 0 ∧ f.low = 0 ∧ f.high = 0
  zc : f.count = 0 → f.first = [] ∧ f.last = []
theorem wrap_in (n : Int) : -9223372036854775808 ≤ IntKind.i64.wrap n ∧ IntKind.i64.wrap n < 9223372036854775808 := by
  obtain ⟨_, _, h⟩ := wrap_mod n
  exact h

theorem number_in (v : List UInt8) : -1000000000000 ≤ (number v).1 ∧ (number v).1 ≤ 1000000000000 := by
  have key : ∀ (s : List UInt8) (neg : Bool), -1000000000000 ≤ (numTail s neg).1 ∧ (numTail s neg).1 ≤ 1000000000000 := by
    intro s neg
    unfold numTail
    split
    · exact ⟨by decide, by decide⟩
    · split
      · exact ⟨by decide, by decide⟩
      · rw [numLoop_all]
        cases hv : byteLoop s 0 with
        | none => exact ⟨by simp, by simp⟩
        | some v =>
          obtain ⟨h1, h2⟩ := byteLoop_low hv (by decide)
          have h2 := h2 (by decide)
          simp only
          split
          · rw [wrap_of (by omega) (by omega)]; omega
          · omega
  unfold number
  split
  · exact key _ _
  · exact key _ _
theorem number_no {v : List UInt8} (h : (number v).2 = false) : (number v).1 = 0 := by
  have key : ∀ (s : List UInt8) (neg : Bool), (numTail s neg).2 = false → (numTail s neg).1 = 0 := by
    intro s neg
    unfold numTail
    split
    · intro _; rfl
    · split
      · intro _; rfl
      · split
        · intro _; rfl
        · intro h; cases h
  unfold number at h ⊢
  split
  · rw [if_pos (by assumption)] at h; exact key _ _ h
  · rw [if_neg (by assumption)] at h; exact key _ _ h
theorem add_join {f : FoldR} {m : Nat} {k v : List UInt8} (hm : m ≤ 9000000) (h : FoldB m f) : addF f k v = joinF f (oneF k v) := by
  have hn := number_in v
  have h1 := h.n1
  have h2 := h.n2
  have h3 := h.s1
  have h4 := h.s2
  unfold addF joinF oneF
  by_cases hv : (number v).2 = true
  · simp only [hv, if_true]
    by_cases h0 : f.numbers = 0
    · simp [h0]
    · simp [h0]
  · simp only [hv, if_false, Bool.false_eq_true, if_true]
    have w1 : IntKind.i64.wrap (f.numbers + 0) = f.numbers := by rw [Int.add_zero]; exact wrap_of (by omega) (by omega)
    have w2 : IntKind.i64.wrap (f.sum + 0) = f.sum := by rw [Int.add_zero]; exact wrap_of (by omega) (by omega)
    rw [w1, w2]
    by_cases h0 : f.numbers = 0
    · simp [h0, h.z h0]
    · simp [h0]
theorem add_b {f : FoldR} {m : Nat} {k v : List UInt8} (hm : m < 9000000) (h : FoldB m f) : FoldB (m + 1) (addF f k v) := by
  have hn := number_in v
  obtain ⟨c, n1, n2, s1, s2, l1, l2, h1, h2, z, zc⟩ := h
  have wc : IntKind.i64.wrap (f.count + 1) = f.count + 1 := wrap_of (by omega) (by omega)
  have wn : IntKind.i64.wrap (f.numbers + 1) = f.numbers + 1 := wrap_of (by omega) (by omega)
  have ws : IntKind.i64.wrap (f.sum + (number v).1) = f.sum + (number v).1 := wrap_of (by omega) (by omega)
  unfold addF
  by_cases hv : (number v).2 = true
  · simp only [hv, if_true, wc, wn, ws]
    constructor <;> simp only <;> first | (intro hz; exfalso; omega) | omega | (split <;> omega)
  · simp only [hv, if_false, Bool.false_eq_true, wc]
    constructor <;> simp only <;> first | omega | exact z | (intro hz; exfalso; omega)
theorem foldOf_b : ∀ (rows : List Row) (m : Nat) (f : FoldR), FoldB m f → m + rows.length ≤ 9000000 →
    rows.foldl (fun f r => addF f r.1 r.2) f = rows.foldl (fun f r => joinF f (oneF r.1 r.2)) f ∧ FoldB (m + rows.length) (rows.foldl (fun f r => addF f r.1 r.2) f)
  | [], m, f, h, _ => ⟨rfl, h⟩
  | r :: rows, m, f, h, hm => by
    simp only [List.length_cons] at hm
    obtain ⟨h1, h2⟩ := foldOf_b rows (m + 1) (addF f r.1 r.2) (add_b (by omega) h) (by omega)
    simp only [List.foldl_cons, List.length_cons]
    rw [← add_join (by omega) h]
    rw [show m + (rows.length + 1) = m + 1 + rows.length by omega]
    exact ⟨h1, h2⟩
theorem foldZ_b : FoldB 0 foldZ := by constructor <;> simp [foldZ]
theorem of_eq {rows : List Row} (h : rows.length ≤ 9000000) : refOf rows = foldOf rows := (foldOf_b rows 0 foldZ foldZ_b (by omega)).1.symm
theorem of_b {rows : List Row} (h : rows.length ≤ 9000000) : FoldB rows.length (foldOf rows) := by
  have := (foldOf_b rows 0 foldZ foldZ_b (by omega)).2
  rwa [Nat.zero_add] at this
instance : Inhabited FoldR := ⟨foldZ⟩
/-- the aggregates of a list joined; the first as it is -/
def allF : List FoldR → FoldR
  | [] => foldZ
  | x :: l => l.foldl joinF x
theorem allF_take {l : List FoldR} {i : Nat} (h : i < l.length) : allF (l.take (i + 1)) = if i = 0 then l.getD i default else joinF (allF (l.take i)) (l.getD i default) := by
  cases l with
  | nil => simp at h
  | cons x l =>
    cases i with
    | zero => simp [allF]
    | succ i =>
      rw [List.take_succ_cons, List.take_succ_cons, if_neg (by omega)]
      simp only [allF]
      rw [take_succ' (by simpa using h), List.foldl_append]
      simp

/-! what aggregates are valid -/
def validF (f : FoldR) : Bool :=
  if f.count < 0 ∨ f.count > 1024 ∨ f.numbers < 0 ∨ f.numbers > f.count then false
  else if (if f.numbers = 0 then f.sum ≠ 0 ∨ f.low ≠ 0 ∨ f.high ≠ 0 else
      f.low < -1000000000000 ∨ f.high > 1000000000000 ∨ f.low > f.high ∨ f.sum < IntKind.i64.wrap (IntKind.i64.wrap (IntKind.i64.wrap (f.numbers - 1) * f.low) + f.high) ∨ f.sum > IntKind.i64.wrap (f.low + IntKind.i64.wrap (IntKind.i64.wrap (f.numbers - 1) * f.high))) then false
  else if f.count = 0 then f.first == [] && f.last == []
  else decide ((f.first.length : Int) ≤ 64) && (decide ((f.last.length : Int) ≤ 64) && (!(Op.bytesLess f.last f.first) && ((f.first == f.last) == (f.count == 1))))
theorem joinF_add {x y : FoldR} {m n : Nat} {k v : List UInt8} (hx : FoldB m x) (hy : FoldB n y) (hm : m + n < 4000000) : addF (joinF x y) k v = joinF x (addF y k v) := by
  have hn := number_in v
  obtain ⟨c, n1, n2, s1, s2, l1, l2, h1, h2, z, zc⟩ := hx
  obtain ⟨c', n1', n2', s1', s2', l1', l2', h1', h2', z', zc'⟩ := hy
  have w1 : IntKind.i64.wrap (x.count + y.count) = x.count + y.count := wrap_of (by omega) (by omega)
  have w2 : IntKind.i64.wrap (x.numbers + y.numbers) = x.numbers + y.numbers := wrap_of (by omega) (by omega)
  have w3 : IntKind.i64.wrap (x.sum + y.sum) = x.sum + y.sum := wrap_of (by omega) (by omega)
  have w4 : IntKind.i64.wrap (y.count + 1) = y.count + 1 := wrap_of (by omega) (by omega)
  have w5 : IntKind.i64.wrap (y.numbers + 1) = y.numbers + 1 := wrap_of (by omega) (by omega)
  have w6 : IntKind.i64.wrap (y.sum + (number v).1) = y.sum + (number v).1 := wrap_of (by omega) (by omega)
  have w7 : IntKind.i64.wrap (x.count + y.count + 1) = x.count + y.count + 1 := wrap_of (by omega) (by omega)
  have w8 : IntKind.i64.wrap (x.numbers + y.numbers + 1) = x.numbers + y.numbers + 1 := wrap_of (by omega) (by omega)
  have w9 : IntKind.i64.wrap (x.sum + y.sum + (number v).1) = x.sum + y.sum + (number v).1 := wrap_of (by omega) (by omega)
  have w10 : IntKind.i64.wrap (x.count + (y.count + 1)) = x.count + y.count + 1 := by rw [wrap_of (by omega) (by omega)]; omega
  have w11 : IntKind.i64.wrap (x.numbers + (y.numbers + 1)) = x.numbers + y.numbers + 1 := by rw [wrap_of (by omega) (by omega)]; omega
  have w12 : IntKind.i64.wrap (x.sum + (y.sum + (number v).1)) = x.sum + y.sum + (number v).1 := by rw [wrap_of (by omega) (by omega)]; omega
  have q1 : (x.numbers + y.numbers = 0) ↔ (x.numbers = 0 ∧ y.numbers = 0) := by omega
  have q2 : (x.count + y.count = 0) ↔ (x.count = 0 ∧ y.count = 0) := by omega
  have q3 : ¬ (y.count + 1 = 0) := by omega
  have q4 : ¬ (y.numbers + 1 = 0) := by omega
  unfold addF joinF
  by_cases hv : (number v).2 = true
  · simp only [hv, if_true, w1, w2, w3, w4, w5, w6, w7, w8, w9, w10, w11, w12, q1, q2, q3, q4, if_false]
    congr 1
    · by_cases hx0 : x.numbers = 0
      · simp [hx0]
      · by_cases hy0 : y.numbers = 0
        · simp [hx0, hy0]
        · simp only [hx0, hy0, false_and, false_or, if_false]
          (repeat' split) <;> omega
    · by_cases hx0 : x.numbers = 0
      · simp [hx0]
      · by_cases hy0 : y.numbers = 0
        · simp [hx0, hy0]
        · simp only [hx0, hy0, false_and, false_or, if_false]
          (repeat' split) <;> omega
    · by_cases hx0 : x.count = 0
      · simp [hx0]
      · simp [hx0]
  · simp only [hv, if_false, Bool.false_eq_true, w1, w2, w3, w4, w7, w10, q2, q3]
    congr 1
    by_cases hx0 : x.count = 0
    · simp [hx0]
    · simp [hx0]
theorem foldOf_snoc {rows : List Row} {r : Row} : foldOf (rows ++ [r]) = addF (foldOf rows) r.1 r.2 := by
  unfold foldOf; rw [List.foldl_append]; rfl
theorem join_zero {x : FoldR} {m : Nat} (hx : FoldB m x) (hm : m < 4000000) : joinF x foldZ = x := by
  obtain ⟨c, n1, n2, s1, s2, l1, l2, h1, h2, z, zc⟩ := hx
  have w1 : IntKind.i64.wrap (x.count + 0) = x.count := by rw [wrap_of (by omega) (by omega)]; omega
  have w2 : IntKind.i64.wrap (x.numbers + 0) = x.numbers := by rw [wrap_of (by omega) (by omega)]; omega
  have w3 : IntKind.i64.wrap (x.sum + 0) = x.sum := by rw [wrap_of (by omega) (by omega)]; omega
  obtain ⟨a, b, cc, d, e, f, g⟩ := x
  simp only at *
  unfold joinF foldZ
  simp only [w1, w2, w3, if_true]
  congr 1
  · split
    · rw [(z (by assumption)).2.1]
    · rfl
  · split
    · rw [(z (by assumption)).2.2]
    · rfl
  · split
    · rw [(zc (by assumption)).1]
    · rfl
/-- the aggregate of a list is that of its parts, joined -/
theorem foldOf_append {a b : List Row} (h : a.length + b.length < 4000000) : foldOf (a ++ b) = joinF (foldOf a) (foldOf b) := by
  have key : ∀ i, i ≤ b.length → foldOf (a ++ b.take i) = joinF (foldOf a) (foldOf (b.take i)) := by
    intro i
    induction i with
    | zero =>
      intro _
      rw [List.take_zero, List.append_nil]
      exact (join_zero (of_b (by omega)) (by omega)).symm
    | succ i ih =>
      intro hi
      have hl : (b.take i).length = i := by simp; omega
      rw [take_succ' (by omega), ← List.append_assoc, foldOf_snoc, foldOf_snoc, ih (by omega), joinF_add (of_b (by omega)) (of_b (by omega)) (by omega)]
  have := key b.length (Nat.le_refl _)
  rwa [List.take_length] at this

structure FoldW (f : FoldR) : Prop where
  o : 0 < f.numbers → f.low ≤ f.high
  a : 0 < f.numbers → (f.numbers - 1) * f.low + f.high ≤ f.sum
  b : 0 < f.numbers → f.sum ≤ f.low + (f.numbers - 1) * f.high
theorem add_w {f : FoldR} {m : Nat} {k v : List UInt8} (hm : m < 4000000) (hb : FoldB m f) (h : FoldW f) : FoldW (addF f k v) := by
  have hn := number_in v
  obtain ⟨c, n1, n2, s1, s2, l1, l2, h1, h2, z, zc⟩ := hb
  obtain ⟨o, a, b⟩ := h
  have w5 : IntKind.i64.wrap (f.numbers + 1) = f.numbers + 1 := wrap_of (by omega) (by omega)
  have w6 : IntKind.i64.wrap (f.sum + (number v).1) = f.sum + (number v).1 := wrap_of (by omega) (by omega)
  unfold addF
  by_cases hv : (number v).2 = true
  · simp only [hv, if_true, w5, w6]
    generalize (number v).1 = x at *
    by_cases h0 : f.numbers = 0
    · have hz := z h0
      constructor <;> simp [h0, hz]
    · have o := o (by omega)
      have a := a (by omega)
      have b := b (by omega)
      simp only [h0, false_or]
      have e : f.numbers + 1 - 1 = f.numbers := by omega
      -- products
      have p1 : ∀ y : Int, f.numbers * y = (f.numbers - 1) * y + y := fun y => by rw [Int.sub_mul, Int.one_mul]; omega
      have mono : ∀ {y z : Int}, y ≤ z → (f.numbers - 1) * y ≤ (f.numbers - 1) * z := fun h => Int.mul_le_mul_of_nonneg_left h (by omega)
      refine ⟨fun _ => ?_, fun _ => ?_, fun _ => ?_⟩
      · simp only
        (repeat' split) <;> omega
      · simp only [e]
        by_cases c1 : x < f.low
        · have c2 : ¬ x > f.high := by omega
          rw [if_pos c1, if_neg c2, p1]
          have := mono (y := x) (z := f.low) (by omega)
          omega
        · rw [if_neg c1, p1]
          split <;> omega
      · simp only [e]
        by_cases c1 : x > f.high
        · have c2 : ¬ x < f.low := by omega
          rw [if_pos c1, if_neg c2, p1]
          have := mono (y := f.high) (z := x) (by omega)
          omega
        · rw [if_neg c1, p1]
          split <;> omega
  · simp only [hv, if_false, Bool.false_eq_true]
    exact ⟨o, a, b⟩
theorem of_take {rows : List Row} (h : rows.length < 4000000) : ∀ i, i ≤ rows.length → FoldW (foldOf (rows.take i)) ∧ (0 < i → (foldOf (rows.take i)).first = (rows.getD 0 default).1 ∧ (foldOf (rows.take i)).last = (rows.getD (i - 1) default).1) := by
  intro i
  induction i with
  | zero =>
    intro _
    rw [List.take_zero]
    exact ⟨⟨fun h => absurd h (by decide), fun h => absurd h (by decide), fun h => absurd h (by decide)⟩, fun h => absurd h (by decide)⟩
  | succ i ih =>
    intro hi
    obtain ⟨h1, h2⟩ := ih (by omega)
    have hl : (rows.take i).length = i := by simp; omega
    have hb := of_b (rows := rows.take i) (by omega)
    rw [hl] at hb
    rw [foldOf_take (by omega)]
    refine ⟨add_w (by omega) hb h1, fun _ => ?_⟩
    have hlast : (addF (foldOf (rows.take i)) (rows.getD i default).1 (rows.getD i default).2).last = (rows.getD i default).1 := by
      unfold addF; split <;> rfl
    have hfirst : (addF (foldOf (rows.take i)) (rows.getD i default).1 (rows.getD i default).2).first = if (foldOf (rows.take i)).count = 0 then (rows.getD i default).1 else (foldOf (rows.take i)).first := by
      unfold addF; split <;> rfl
    refine ⟨?_, by rw [hlast, Nat.add_sub_cancel]⟩
    rw [hfirst, hb.c]
    rcases Nat.eq_zero_or_pos i with rfl | hp
    · rfl
    · rw [if_neg (by omega)]
      exact (h2 hp).1
/-- the aggregates of tables are valid -/
theorem of_valid {rows : List Row} (h : TabOk rows) (hl : rows.length ≤ 1000) : validF (foldOf rows) = true := by
  obtain ⟨hw, hfl⟩ := of_take (rows := rows) (by omega) rows.length (Nat.le_refl _)
  rw [List.take_length] at hw hfl
  have hb := of_b (rows := rows) (by omega)
  generalize hf : foldOf rows = f at *
  obtain ⟨c, n1, n2, s1, s2, l1, l2, h1, h2, z, zc⟩ := hb
  obtain ⟨o, a, b⟩ := hw
  unfold validF
  rw [if_neg (by omega)]
  have e2 : ¬ (if f.numbers = 0 then f.sum ≠ 0 ∨ f.low ≠ 0 ∨ f.high ≠ 0 else
      f.low < -1000000000000 ∨ f.high > 1000000000000 ∨ f.low > f.high ∨ f.sum < IntKind.i64.wrap (IntKind.i64.wrap (IntKind.i64.wrap (f.numbers - 1) * f.low) + f.high) ∨ f.sum > IntKind.i64.wrap (f.low + IntKind.i64.wrap (IntKind.i64.wrap (f.numbers - 1) * f.high))) := by
    by_cases h0 : f.numbers = 0
    · have := z h0
      simp [h0, this]
    · have o := o (by omega)
      have a := a (by omega)
      have b := b (by omega)
      have w1 : IntKind.i64.wrap (f.numbers - 1) = f.numbers - 1 := wrap_of (by omega) (by omega)
      have pb : ∀ y : Int, -1000000000000 ≤ y → y ≤ 1000000000000 → -1000000000000000 ≤ (f.numbers - 1) * y ∧ (f.numbers - 1) * y ≤ 1000000000000000 := by
        intro y hy1 hy2
        have q1 := Int.mul_le_mul_of_nonneg_left hy2 (show 0 ≤ f.numbers - 1 by omega)
        have q2 := Int.mul_le_mul_of_nonneg_left hy1 (show 0 ≤ f.numbers - 1 by omega)
        constructor <;> omega
      have b1 := pb f.low l1 l2
      have b2 := pb f.high h1 h2
      rw [if_neg h0, w1, wrap_of (n := (f.numbers - 1) * f.low) (by omega) (by omega), wrap_of (n := (f.numbers - 1) * f.high) (by omega) (by omega), wrap_of (n := (f.numbers - 1) * f.low + f.high) (by omega) (by omega), wrap_of (n := f.low + (f.numbers - 1) * f.high) (by omega) (by omega)]
      omega
  rw [if_neg e2]
  by_cases hc : f.count = 0
  · rw [if_pos hc, (zc hc).1, (zc hc).2]; rfl
  · rw [if_neg hc]
    have hlen : 0 < rows.length := by omega
    obtain ⟨e3, e4⟩ := hfl hlen
    have hk : ∀ i, i < rows.length → ((rows.getD i default).1.length : Int) ≤ 64 := by
      intro i hi
      have e : rows.getD i default = rows[i] := by simp [List.getD, hi]
      have := h.ok _ (List.getElem_mem hi)
      rw [e]
      simp only [rowOk, Bool.and_eq_true, decide_eq_true_eq] at this
      exact this.1
    have k1 := hk 0 hlen
    have k2 := hk (rows.length - 1) (by omega)
    rw [e3, e4]
    simp only [k1, k2, decide_true, Bool.true_and, Bool.and_eq_true, Bool.not_eq_true']
    by_cases h1' : rows.length = 1
    · have : f.count = 1 := by omega
      simp [h1', this, bl_irrefl]
    · have hs := List.pairwise_iff_getElem.1 h.sorted 0 (rows.length - 1) hlen (by omega) (by omega)
      have e5 : rows.getD 0 default = rows[0] := by simp [List.getD, hlen]
      have e6 : rows.getD (rows.length - 1) default = rows[rows.length - 1] := by simp only [List.getD, List.getElem?_eq_getElem (show rows.length - 1 < rows.length by omega), Option.getD_some]
      rw [e5, e6]
      have hne := bl_ne hs
      have hc1 : ¬ f.count = 1 := by omega
      refine ⟨bl_asymm hs, ?_⟩
      rw [beq_eq_false_iff_ne.2 hne, beq_eq_false_iff_ne.2 hc1]
      rfl

abbrev foldA (c n s l h : Int) (f la : List UInt8) : SV := .agg [.d (.int .i64 c), .d (.int .i64 n), .d (.int .i64 s), .d (.int .i64 l), .d (.int .i64 h), .d (.str f), .d (.str la)]

end Go.Sx

namespace Go.Sx
open Go
set_option linter.unusedVariables false
set_option linter.unusedSimpArgs false

theorem jlt3 {p : Nat → Prop} (h0 : p 0) (h1 : p 1) (h2 : p 2) : ∀ j, j < 3 → p j
  | 0, _ => h0
  | 1, _ => h1
  | 2, _ => h2
  | j + 3, h => absurd h (by omega)
theorem dle_lit {α : Type} [Inhabited α] {enc : α → List D} {n K k : Nat} {g : Nat → Nat → D} {L : List α} (hk : K = k) (hn : n = L.length) (h : RowLe n k g (cellOf enc L)) : DLe (.list n K g) (encL enc k L) := by
  subst hk
  subst hn
  exact DLe.rows rfl h
theorem getD_len {α : Type} {L : List (List α)} {n : Nat} (h : ∀ x ∈ L, x.length ≤ n) (i : Nat) : (L.getD i default).length ≤ n := by
  rcases Nat.lt_or_ge i L.length with hi | hi
  · have e : L.getD i default = L[i] := by simp [List.getD, hi]
    rw [e]; exact h _ (List.getElem_mem hi)
  · have e : L.getD i default = default := by simp [List.getD, hi]
    rw [e]; exact Nat.zero_le _
def encS (s : List UInt8) : List D := [.str s]
def encLL (x : List Row) : List D := [encL encRow 2 x]
/-! the place of a bound in a table -/
def placeF (rows : List Row) (k : List UInt8) (t : Bool) : Nat := (rows.takeWhile fun r => decide (cmpB r.1 false k t < 0)).length
theorem place_le {rows : List Row} {k : List UInt8} {t : Bool} : placeF rows k t ≤ rows.length := (List.takeWhile_sublist _).length_le
theorem cmp_mono {a b k : List UInt8} {t : Bool} (h : Op.bytesLess a b = true) (hb : cmpB b false k t < 0) : cmpB a false k t < 0 := by
  cases t with
  | true => simp [cmpB]
  | false =>
    have h1 : Op.bytesLess b k = true := by
      by_cases e : Op.bytesLess b k = true
      · exact e
      · exfalso
        simp only [cmpB, Bool.false_and, Bool.false_eq_true, if_false, Bool.false_or, e] at hb
        split at hb <;> omega
    have h2 := bl_trans h h1
    simp [cmpB, h2]
theorem place_iff {rows : List Row} {k : List UInt8} {t : Bool} (hs : Sorted rows) {i : Nat} (hi : i < rows.length) : i < placeF rows k t ↔ cmpB (rows.getD i default).1 false k t < 0 := by
  induction rows generalizing i with
  | nil => simp at hi
  | cons r l ih =>
    simp only [placeF, List.takeWhile_cons]
    have hs' := List.pairwise_cons.1 hs
    by_cases hr : cmpB r.1 false k t < 0
    · simp only [hr, decide_true, if_true, List.length_cons]
      cases i with
      | zero => simp [hr]
      | succ i =>
        have := ih hs'.2 (i := i) (by simpa using hi)
        simp only [placeF] at this
        simp only [List.getD_cons_succ]
        rw [← this]
        omega
    · simp only [hr, decide_false, Bool.false_eq_true, if_false, List.length_nil, Nat.not_lt_zero, false_iff]
      cases i with
      | zero => simpa using hr
      | succ i =>
        intro h
        have hi' : i < l.length := by simpa using hi
        have hm : l.getD i default ∈ l := by
          have e : l.getD i default = l[i] := by simp [List.getD, hi']
          rw [e]; exact List.getElem_mem hi'
        exact hr (cmp_mono (hs'.1 _ hm) (by simpa using h))
theorem cmp_low {a k : List UInt8} {t : Bool} : (cmpB a false k t < 0) ↔ (t = true ∨ Op.bytesLess a k = true) := by
  cases t with
  | true => simp [cmpB]
  | false =>
    simp only [cmpB, Bool.false_and, Bool.false_eq_true, if_false, Bool.false_or, false_or]
    split <;> rename_i h
    · simp [h]
    · simp only [h]
      split <;> simp
def aboveF (rows : List Row) (k : List UInt8) (t : Bool) : Row × Bool :=
  if validT rows && validB k t && decide (placeF rows k t < rows.length) then (rows.getD (placeF rows k t) default, true) else (([], []), false)
def lastF (rows : List Row) (n : Nat) : Row × Bool := if n = 0 then (([], []), false) else (rows.getD (n - 1) default, true)
def belowB (rows : List Row) (k : List UInt8) (t : Bool) : Row × Bool :=
  if validT rows && validB k t then lastF rows (placeF rows k t) else (([], []), false)
theorem above_bad {rows : List Row} {k : List UInt8} {t : Bool} (h : validT rows = false ∨ validB k t = false ∨ placeF rows k t = rows.length) : aboveF rows k t = (([], []), false) := by
  unfold aboveF
  rcases h with h | h | h <;> simp [h]
theorem above_at {rows : List Row} {k : List UInt8} {t : Bool} (h1 : validT rows = true) (h2 : validB k t = true) (h3 : placeF rows k t < rows.length) : aboveF rows k t = (rows.getD (placeF rows k t) default, true) := by
  unfold aboveF
  rw [if_pos (by simp [h1, h2, h3])]
theorem below_bad {rows : List Row} {k : List UInt8} {t : Bool} (h : validT rows = false ∨ validB k t = false) : belowB rows k t = (([], []), false) := by
  unfold belowB
  rcases h with h | h <;> simp [h]
theorem below_ok {rows : List Row} {k : List UInt8} {t : Bool} (h1 : validT rows = true) (h2 : validB k t = true) : belowB rows k t = lastF rows (placeF rows k t) := by
  unfold belowB
  rw [if_pos (by simp [h1, h2])]
theorem last_zero {rows : List Row} : lastF rows 0 = (([], []), false) := rfl
theorem last_pos {rows : List Row} {n : Nat} (h : 0 < n) : lastF rows n = (rows.getD (n - 1) default, true) := by
  unfold lastF
  rw [if_neg (by omega)]
/-- the middle of two places -/
theorem mid_eq {i j : Nat} (hi : i ≤ 2000000000000) (hj : j ≤ 2000000000000) : IntKind.i64.wrap ((IntKind.u64.wrap (IntKind.i64.wrap ((i : Int) + (j : Int)))).fdiv (2 ^ min (Int.toNat 1) IntKind.u64.bits)) = (((i + j) / 2 : Nat) : Int) := by
  have e2 : IntKind.i64.wrap ((i : Int) + (j : Int)) = (i : Int) + (j : Int) := wrap_of (by omega) (by omega)
  have e1 : IntKind.u64.wrap ((i : Int) + (j : Int)) = ((i : Int) + (j : Int)) := by
    have e0 : ∀ n : Int, IntKind.u64.wrap n = n % 18446744073709551616 := fun n => rfl
    rw [e0]; omega
  rw [e2, e1, show (2 : Int) ^ min (Int.toNat 1) IntKind.u64.bits = 2 by decide, Int.fdiv_eq_ediv_of_nonneg _ (by omega), wrap_of (by omega) (by omega)]
  omega
/-! reading a table -/
def getF (rows : List Row) (k : List UInt8) : List UInt8 × Bool :=
  match rows.find? (fun r => r.1 == k) with
  | some r => (r.2, true)
  | none => ([], false)
theorem get_here {rows : List Row} {k : List UInt8} {i : Nat} (hi : i < rows.length) (h : ∀ j, j < i → ((rows.getD j default).1 == k) = false) (he : ((rows.getD i default).1 == k) = true) : getF rows k = ((rows.getD i default).2, true) := by
  have e : rows.find? (fun r => r.1 == k) = some (rows.getD i default) := by
    have g : ∀ j (hj : j < rows.length), rows.getD j default = rows[j] := fun j hj => by simp [List.getD, hj]
    rw [g i hi] at he ⊢
    rw [List.find?_eq_some_iff_getElem]
    refine ⟨he, i, hi, rfl, fun j hj => ?_⟩
    have := h j hj
    rw [g j (by omega)] at this
    simp [this]
  simp only [getF, e]
theorem get_none {rows : List Row} {k : List UInt8} (h : ∀ j, j < rows.length → ((rows.getD j default).1 == k) = false) : getF rows k = ([], false) := by
  have e : rows.find? (fun r => r.1 == k) = none := by
    rw [List.find?_eq_none]
    intro r hr
    obtain ⟨j, hj, rfl⟩ := List.getElem_of_mem hr
    have := h j hj
    have g : rows.getD j default = rows[j] := by simp [List.getD, hj]
    rw [g] at this
    simp [this]
  simp only [getF, e]
def cutF (rows : List Row) (n : Int) : List UInt8 × Bool × Bool :=
  if !(validT rows) || decide (n < 0) || decide (n > rows.length) then ([], false, false) else if n = rows.length then ([], true, true) else ((rows.getD n.toNat default).1, false, true)
theorem cut_bad {rows : List Row} {n : Int} (h : validT rows = false ∨ n < 0 ∨ n > rows.length) : cutF rows n = ([], false, false) := by
  unfold cutF
  rcases h with h | h | h <;> simp [h]
theorem cut_full {rows : List Row} {n : Int} (h : validT rows = true) (e : n = rows.length) : cutF rows n = ([], true, true) := by
  unfold cutF
  subst e
  have h1 : ¬ (rows.length : Int) < 0 := by omega
  simp [h, h1]
theorem cut_at {rows : List Row} {n : Int} (h : validT rows = true) (h0 : ¬ n < 0) (h1 : ¬ n > rows.length) (e : ¬ n = rows.length) : cutF rows n = ((rows.getD n.toNat default).1, false, true) := by
  unfold cutF
  simp [h, h0, h1, e]
/-! writes -/
abbrev Wr := List UInt8 × List UInt8 × Bool
def encWr (w : Wr) : List D := [.str w.1, .str w.2.1, .bool w.2.2]
def validW (k v : List UInt8) (d : Bool) : Bool := decide ((k.length : Int) ≤ 64) && decide ((v.length : Int) ≤ 64) && (!d || v == [])
/-- what a loop collects -/
def collect {α β : Type} (p : α → Bool) (f : α → β) (l : List α) : List β := (l.filter p).map f
theorem collect_keep {α β : Type} [Inhabited α] {p : α → Bool} {f : α → β} {l : List α} {i : Nat} (h : i < l.length) (hp : p (l.getD i default) = true) : collect p f (l.take (i + 1)) = collect p f (l.take i) ++ [f (l.getD i default)] := by
  rw [take_succ' h, collect, List.filter_append, List.map_append, List.filter_cons, if_pos hp, List.filter_nil]; rfl
theorem collect_drop {α β : Type} [Inhabited α] {p : α → Bool} {f : α → β} {l : List α} {i : Nat} (h : i < l.length) (hp : p (l.getD i default) = false) : collect p f (l.take (i + 1)) = collect p f (l.take i) := by
  rw [take_succ' h, collect, List.filter_append, List.map_append, List.filter_cons, if_neg (by rw [hp]; simp), List.filter_nil, List.map_nil, List.append_nil]; rfl
theorem collect_len {α β : Type} {p : α → Bool} {f : α → β} {l : List α} : (collect p f l).length ≤ l.length := by
  rw [collect, List.length_map]; exact List.length_filter_le _ _
def goneP (b : List Row) (r : Row) : Bool := !(getF b r.1).2
def goneW (r : Row) : Wr := (r.1, [], true)
def newP' (a : List Row) (r : Row) : Bool := !(getF a r.1).2 || !((getF a r.1).1 == r.2)
def newW (r : Row) : Wr := (r.1, r.2, false)
def diffF (a b : List Row) : List Wr := if validT a && validT b then collect (goneP b) goneW a ++ collect (newP' a) newW b else []
theorem diff_valid {a b : List Row} (h1 : validT a = true) (h2 : validT b = true) : diffF a b = collect (goneP b) goneW a ++ collect (newP' a) newW b := by
  unfold diffF
  rw [h1, h2]
  rfl
theorem diff_bad {a b : List Row} (h : validT a = false ∨ validT b = false) : diffF a b = [] := by
  unfold diffF
  rcases h with h | h <;> simp [h]
def sameF {α : Type} [DecidableEq α] (a b : List α) : Bool := decide (a = b)
theorem same_true {α : Type} [DecidableEq α] [Inhabited α] {a b : List α} (hl : a.length = b.length) (h : ∀ i, i < a.length → a.getD i default = b.getD i default) : sameF a b = true := by
  rw [sameF, decide_eq_true_eq]
  apply List.ext_getElem hl
  intro i h1 h2
  have := h i h1
  simpa [List.getD, h1, h2] using this
theorem same_false {α : Type} [DecidableEq α] [Inhabited α] {a b : List α} {i : Nat} (h : ¬ a.getD i default = b.getD i default) : sameF a b = false := by
  rw [sameF, decide_eq_false_iff_not]
  rintro rfl
  exact h rfl
theorem same_len {α : Type} [DecidableEq α] {a b : List α} (h : ¬ a.length = b.length) : sameF a b = false := by
  rw [sameF, decide_eq_false_iff_not]
  rintro rfl
  exact h rfl
theorem same_refl {α : Type} [DecidableEq α] (a : List α) : sameF a a = true := by simp [sameF]
end Go.Sx

namespace Go.Sx
open Go
set_option linter.unusedVariables false
set_option linter.unusedSimpArgs false

/-! a table cut at the place of a bound -/
theorem below_len {rows : List Row} {k : List UInt8} {t : Bool} (hs : Sorted rows) : (belowF rows k t).length = placeF rows k t := by
  induction rows with
  | nil => rfl
  | cons r l ih =>
    have hs' := List.pairwise_cons.1 hs
    have ih := ih hs'.2
    simp only [belowF, placeF] at ih ⊢
    by_cases hr : cmpB r.1 false k t < 0
    · simp only [List.filter_cons, List.takeWhile_cons, hr, decide_true, if_true, List.length_cons, ih]
    · have hno : l.filter (fun r => decide (cmpB r.1 false k t < 0)) = [] := by
        rw [List.filter_eq_nil_iff]
        intro s hs h
        exact hr (cmp_mono (hs'.1 s hs) (by simpa using h))
      simp only [List.filter_cons, List.takeWhile_cons, hr, decide_false, Bool.false_eq_true, if_false, hno, List.length_nil]
theorem slice_low {rows : List Row} (h : TabOk rows) {k : List UInt8} {t : Bool} (hb : validB k t = true) : sliceF rows [] false k t = belowF rows k t := by
  by_cases hc : cmpB [] false k t < 0
  · have := below_split h (ak := []) (a := false) (by decide) hb hc
    rw [below_first, List.nil_append] at this
    exact this.symm
  · have h1 : t = false ∧ k = [] := by
      rw [cmp_lt] at hc
      cases t with
      | true => simp at hc
      | false =>
        cases k with
        | nil => exact ⟨rfl, rfl⟩
        | cons c k => simp [Op.bytesLess] at hc
    obtain ⟨rfl, rfl⟩ := h1
    rw [below_first]
    unfold sliceF
    rw [List.filter_eq_nil_iff]
    intro r _
    simp [containsR, emptyR, validR, validB, cmpB, bl_irrefl]
/-- the bound with n rows below it -/
def bndK (rows : List Row) (n : Nat) : List UInt8 := if n < rows.length then (rows.getD n default).1 else []
def bndT (rows : List Row) (n : Nat) : Bool := decide (¬ n < rows.length)
theorem bnd_valid {rows : List Row} (h : TabOk rows) (n : Nat) : validB (bndK rows n) (bndT rows n) = true := by
  unfold bndK bndT
  by_cases hn : n < rows.length
  · have e : rows.getD n default = rows[n] := by simp [List.getD, hn]
    have := h.ok _ (List.getElem_mem hn)
    rw [← e] at this
    simp only [rowOk, Bool.and_eq_true, decide_eq_true_eq] at this
    simp only [hn, if_true, not_true_eq_false, decide_false]
    simp only [validB, this.1, decide_true, Bool.not_false, Bool.true_or, Bool.and_true]
  · simp [hn, validB]
theorem bnd_cut {rows : List Row} (h : TabOk rows) {n : Nat} (hn : n ≤ rows.length) : cutF rows n = (bndK rows n, bndT rows n, true) := by
  have hv := validT_iff.2 h
  unfold bndK bndT
  by_cases e : n = rows.length
  · subst e
    rw [cut_full hv rfl]
    simp
  · have h1 : n < rows.length := by omega
    rw [cut_at hv (by omega) (by omega) (by omega)]
    simp [h1]
theorem bnd_place {rows : List Row} (h : TabOk rows) {n : Nat} (hn : n ≤ rows.length) : placeF rows (bndK rows n) (bndT rows n) = n := by
  have hp : ∀ i, i < rows.length → (i < placeF rows (bndK rows n) (bndT rows n) ↔ i < n) := by
    intro i hi
    rw [place_iff h.sorted hi, cmp_low]
    unfold bndK bndT
    by_cases e : n < rows.length
    · simp only [e, if_true, not_true_eq_false, decide_false, Bool.false_eq_true, false_or]
      have g : ∀ j (hj : j < rows.length), rows.getD j default = rows[j] := fun j hj => by simp [List.getD, hj]
      rw [g i hi, g n e]
      have hpw := List.pairwise_iff_getElem.1 h.sorted
      constructor
      · intro hlt
        rcases Nat.lt_trichotomy i n with h1 | h1 | h1
        · exact h1
        · subst h1; rw [bl_irrefl] at hlt; cases hlt
        · have := bl_trans hlt (hpw n i e hi h1)
          rw [bl_irrefl] at this; cases this
      · intro h1; exact hpw i n hi e h1
    · simp only [e, not_false_eq_true, decide_true, true_or, true_iff]
      omega
  have hle : placeF rows (bndK rows n) (bndT rows n) ≤ rows.length := place_le
  rcases Nat.lt_trichotomy (placeF rows (bndK rows n) (bndT rows n)) n with h1 | h1 | h1
  · have := (hp _ (by omega)).2 h1; omega
  · exact h1
  · have := (hp n (by omega)).1 h1; omega
theorem bnd_slice {rows : List Row} (h : TabOk rows) {n : Nat} (hn : n ≤ rows.length) : (sliceF rows [] false (bndK rows n) (bndT rows n)).length = n := by
  rw [slice_low h (bnd_valid h n), below_len h.sorted, bnd_place h hn]
/-! what stands before and behind a key -/
theorem place_app {rows : List Row} {k : List UInt8} (hs : Sorted rows) : ∃ A B, rows = A ++ B ∧ A.length = placeF rows k false ∧ (∀ r ∈ A, Op.bytesLess r.1 k = true) ∧ (∀ r ∈ B, Op.bytesLess r.1 k = false) := by
  induction rows with
  | nil => exact ⟨[], [], rfl, rfl, by simp, by simp⟩
  | cons r l ih =>
    have hs' := List.pairwise_cons.1 hs
    by_cases hr : Op.bytesLess r.1 k = true
    · obtain ⟨A, B, h1, h2, h3, h4⟩ := ih hs'.2
      have hc : cmpB r.1 false k false < 0 := cmp_low.2 (.inr hr)
      refine ⟨r :: A, B, by rw [h1]; rfl, ?_, ?_, h4⟩
      · simp only [placeF, List.takeWhile_cons, hc, decide_true, if_true, List.length_cons]
        rw [h2]; rfl
      · intro s hs
        rcases List.mem_cons.1 hs with rfl | hs
        · exact hr
        · exact h3 s hs
    · have hc : ¬ cmpB r.1 false k false < 0 := by
        rw [cmp_low]; simpa using hr
      refine ⟨[], r :: l, rfl, ?_, by simp, ?_⟩
      · simp only [placeF, List.takeWhile_cons, hc, decide_false, Bool.false_eq_true, if_false, List.length_nil]
      · intro s hs
        rcases List.mem_cons.1 hs with rfl | hs
        · simpa using hr
        · by_cases e : Op.bytesLess s.1 k = true
          · exact absurd (bl_trans (hs'.1 s hs) e) hr
          · simpa using e
theorem ins_app {x : Row} : ∀ {A B : List Row}, (∀ r ∈ A, Op.bytesLess r.1 x.1 = true) → (∀ r ∈ B, Op.bytesLess x.1 r.1 = true) → insF x (A ++ B) = A ++ x :: B
  | [], [], _, _ => rfl
  | [], b :: B, _, h => by simp [insF, h b (by simp)]
  | a :: A, B, h1, h2 => by
    have ha := bl_asymm (h1 a (by simp))
    simp only [List.cons_append, insF, ha, Bool.false_eq_true, if_false]
    rw [ins_app (fun r hr => h1 r (by simp [hr])) h2]
theorem without_app {A B : List Row} {k : List UInt8} : withoutF (A ++ B) k = withoutF A k ++ withoutF B k := by simp [withoutF]
theorem without_self {A : List Row} {k : List UInt8} (h : ∀ r ∈ A, r.1 ≠ k) : withoutF A k = A := by
  rw [withoutF, List.filter_eq_self]
  intro r hr
  simp [h r hr]
theorem bl_tot {a b : List UInt8} (h1 : Op.bytesLess a b = false) (h2 : a ≠ b) : Op.bytesLess b a = true := by
  by_cases h : Op.bytesLess b a = true
  · exact h
  · exact absurd (bl_tri h1 (by simpa using h)) h2
/-- the row with the key is there -/
theorem place_found {rows : List Row} {k v : List UInt8} (hs : Sorted rows) (hi : placeF rows k false < rows.length) (he : (rows.getD (placeF rows k false) default).1 = k) :
    withoutF rows k = rows.take (placeF rows k false) ++ rows.drop (placeF rows k false + 1) ∧ withF rows (k, v) = rows.take (placeF rows k false) ++ (k, v) :: rows.drop (placeF rows k false + 1) := by
  obtain ⟨A, B, h1, h2, h3, h4⟩ := place_app (k := k) hs
  rw [← h2] at hi he ⊢
  subst h1
  cases B with
  | nil => simp at hi
  | cons b B =>
    have hb : b.1 = k := by simpa [List.getD] using he
    have hA : ∀ r ∈ A, r.1 ≠ k := fun r hr e => by have := h3 r hr; rw [e, bl_irrefl] at this; cases this
    have hB : ∀ r ∈ B, Op.bytesLess k r.1 = true := fun r hr => by
      have := List.pairwise_append.1 hs
      rw [← hb]; exact (List.pairwise_cons.1 this.2.1).1 r hr
    have hB' : ∀ r ∈ B, r.1 ≠ k := fun r hr e => by have := hB r hr; rw [e, bl_irrefl] at this; cases this
    have e1 : withoutF (A ++ b :: B) k = A ++ B := by
      rw [show A ++ b :: B = A ++ ([b] ++ B) by simp, without_app, without_app, without_self hA, without_self hB']
      simp [withoutF, hb]
    have e2 : (A ++ b :: B).drop (A.length + 1) = B := by
      rw [show A ++ b :: B = (A ++ [b]) ++ B by simp, List.drop_append_of_le_length (by simp)]
      simp
    rw [e1, e2, List.take_left]
    exact ⟨rfl, by rw [withF, e1]; exact ins_app h3 hB⟩
/-- no row has the key -/
theorem place_new {rows : List Row} {k v : List UInt8} (hs : Sorted rows) (he : ¬ (placeF rows k false < rows.length ∧ (rows.getD (placeF rows k false) default).1 = k)) :
    withoutF rows k = rows ∧ withF rows (k, v) = rows.take (placeF rows k false) ++ (k, v) :: rows.drop (placeF rows k false) := by
  obtain ⟨A, B, h1, h2, h3, h4⟩ := place_app (k := k) hs
  rw [← h2] at he ⊢
  subst h1
  have hA : ∀ r ∈ A, r.1 ≠ k := fun r hr e => by have := h3 r hr; rw [e, bl_irrefl] at this; cases this
  have hB : ∀ r ∈ B, Op.bytesLess k r.1 = true := by
    cases B with
    | nil => simp
    | cons b B =>
      have hb : b.1 ≠ k := fun e => he ⟨by simp, by simpa [List.getD] using e⟩
      have hb1 := bl_tot (h4 b (by simp)) hb
      have := (List.pairwise_cons.1 (List.pairwise_append.1 hs).2.1).1
      intro r hr
      rcases List.mem_cons.1 hr with rfl | hr
      · exact hb1
      · exact bl_trans hb1 (this r hr)
  have hB' : ∀ r ∈ B, r.1 ≠ k := fun r hr e => by have := hB r hr; rw [e, bl_irrefl] at this; cases this
  have e1 : withoutF (A ++ B) k = A ++ B := by rw [without_app, without_self hA, without_self hB']
  rw [List.take_left, List.drop_left]
  exact ⟨e1, by rw [withF, e1]; exact ins_app h3 hB⟩
/-- Get finds what stands at the place -/
theorem get_place {rows : List Row} {k : List UInt8} (hs : Sorted rows) : (getF rows k).2 = decide (placeF rows k false < rows.length ∧ (rows.getD (placeF rows k false) default).1 = k) := by
  by_cases he : placeF rows k false < rows.length ∧ (rows.getD (placeF rows k false) default).1 = k
  · rw [decide_eq_true he]
    have hp := fun i hi => place_iff (k := k) (t := false) hs (i := i) hi
    simp only [cmp_low, Bool.false_eq_true, false_or] at hp
    rw [get_here he.1 (fun j hj => ?_) (by rw [he.2]; exact beq_self_eq_true k)]
    have := (hp j (by omega)).1 hj
    simp only [beq_eq_false_iff_ne, ne_eq]
    intro e
    rw [e, bl_irrefl] at this; cases this
  · rw [decide_eq_false he]
    obtain ⟨e, _⟩ := place_new (v := []) hs he
    rw [get_none]
    intro j hj
    have hm : rows.getD j default ∈ withoutF rows k := by
      rw [e]
      have g : rows.getD j default = rows[j] := by simp [List.getD, hj]
      rw [g]; exact List.getElem_mem hj
    have := (without_ne hm).2
    simpa using this
/-! cells of a list that was cut -/
theorem getD_cut {α : Type} [Inhabited α] {l : List α} {p q i : Nat} (hp : p ≤ l.length) : (l.take p ++ l.drop q).getD i default = if i < p then l.getD i default else l.getD (q + (i - p)) default := by
  simp only [List.getD_eq_getElem?_getD]
  have hl : (l.take p).length = p := by simp; omega
  by_cases h : i < p
  · rw [if_pos h, List.getElem?_append_left (by omega), List.getElem?_take, if_pos h]
  · rw [if_neg h, List.getElem?_append_right (by omega), hl, List.getElem?_drop]
theorem getD_ins {α : Type} [Inhabited α] {l : List α} {x : α} {p q i : Nat} (hp : p ≤ l.length) : (l.take p ++ x :: l.drop q).getD i default = if i < p then l.getD i default else if i = p then x else l.getD (q + (i - p - 1)) default := by
  simp only [List.getD_eq_getElem?_getD]
  have hl : (l.take p).length = p := by simp; omega
  by_cases h : i < p
  · rw [if_pos h, List.getElem?_append_left (by omega), List.getElem?_take, if_pos h]
  · rw [if_neg h, List.getElem?_append_right (by omega), hl]
    by_cases e : i = p
    · rw [if_pos e, e, Nat.sub_self]; rfl
    · rw [if_neg e, show i - p = (i - p - 1) + 1 by omega, List.getElem?_cons_succ, List.getElem?_drop]
      rw [show i - p - 1 + 1 - 1 = i - p - 1 by omega]
theorem les_list {α : Type} [Inhabited α] {enc : α → List D} {n K k : Nat} {g : Nat → Nat → D} {L : List α} (hK : K = k) (hn : n = L.length) (h : ∀ i j, i < n → j < k → g i j = cellOf enc L i j) : LeS (.d (.list n K g)) (.d (encL enc k L)) :=
  LeS.d (dle_lit hK hn (.of_eq h))
theorem RowLe.allD {len sz : Nat} {get get' : Nat → Nat → D} (h : AllLt (fun i => AllLt (fun j => DLe (get i j) (get' i j)) sz) len) : RowLe len sz get get' :=
  ⟨fun i j hi hj => (h.out i hi).out j hj⟩
end Go.Sx

namespace Go.Sx
open Go
set_option linter.unusedVariables false
set_option linter.unusedSimpArgs false

/-! Diff leads from a table to another one -/
theorem find_ins {x : Row} {q : List UInt8} (hq : (x.1 == q) = false) : ∀ {l : List Row}, (insF x l).find? (fun r => r.1 == q) = l.find? (fun r => r.1 == q)
  | [] => by simp [insF, hq]
  | r :: l => by
    simp only [insF]
    split
    · simp only [List.find?_cons, hq]
    · simp only [List.find?_cons]
      rw [find_ins hq]
theorem find_ins_self {x : Row} : ∀ {l : List Row}, (∀ r ∈ l, r.1 ≠ x.1) → (insF x l).find? (fun r => r.1 == x.1) = some x
  | [], _ => by simp [insF]
  | r :: l, h => by
    simp only [insF]
    split
    · simp
    · have : (r.1 == x.1) = false := by simpa using h r (by simp)
      rw [List.find?_cons, this]
      exact find_ins_self (fun s hs => h s (by simp [hs]))
theorem find_without {k q : List UInt8} (hq : ¬ q = k) : ∀ {l : List Row}, (withoutF l k).find? (fun r => r.1 == q) = l.find? (fun r => r.1 == q)
  | [] => rfl
  | r :: l => by
    have ih := find_without hq (l := l)
    simp only [withoutF] at ih ⊢
    by_cases hr : r.1 = k
    · have : (r.1 == q) = false := by
        simp only [beq_eq_false_iff_ne, ne_eq]
        intro e; exact hq (e.symm.trans hr)
      rw [List.filter_cons, if_neg (by simp [hr]), ih, List.find?_cons, this]
    · rw [List.filter_cons, if_pos (by simp [hr]), List.find?_cons, List.find?_cons, ih]
theorem get_with {r : List Row} {k v q : List UInt8} : getF (withF r (k, v)) q = if q = k then (v, true) else getF r q := by
  by_cases h : q = k
  · subst h
    have := find_ins_self (x := (q, v)) (l := withoutF r q) (fun r hr => (without_ne hr).2)
    simp only [getF, withF, this, if_true]
  · have hk : (k == q) = false := by simpa using fun e : k = q => h e.symm
    simp only [getF, withF, find_ins (x := (k, v)) hk, find_without h, if_neg h]
theorem get_without {r : List Row} {k q : List UInt8} : getF (withoutF r k) q = if q = k then ([], false) else getF r q := by
  by_cases h : q = k
  · subst h
    have : (withoutF r q).find? (fun r => r.1 == q) = none := by
      rw [List.find?_eq_none]
      intro s hs
      simpa using (without_ne hs).2
    simp only [getF, this, if_true]
  · simp only [getF, find_without h, if_neg h]
theorem get_memT {rows : List Row} (hs : Sorted rows) {q : Row} (hq : q ∈ rows) : getF rows q.1 = (q.2, true) := by
  induction rows with
  | nil => cases hq
  | cons r l ih =>
    have hs' := List.pairwise_cons.1 hs
    unfold getF at ih ⊢
    rw [List.find?_cons]
    rcases List.mem_cons.1 hq with rfl | hq
    · simp
    · have hne : (r.1 == q.1) = false := by
        simp only [beq_eq_false_iff_ne, ne_eq]
        exact bl_ne (hs'.1 q hq)
      rw [hne]
      exact ih hs'.2 hq
theorem get_true {rows : List Row} {k : List UInt8} (h : (getF rows k).2 = true) : ∃ r ∈ rows, r.1 = k ∧ getF rows k = (r.2, true) := by
  unfold getF at h ⊢
  split at h
  · rename_i r hr
    exact ⟨r, List.mem_of_find?_eq_some hr, by simpa using List.find?_some hr, by simp⟩
  · cases h
theorem get_false {rows : List Row} {k : List UInt8} (h : (getF rows k).2 = false) : getF rows k = ([], false) := by
  unfold getF at h ⊢
  split at h
  · cases h
  · rfl
theorem get_key {rows : List Row} {r : Row} (h : r ∈ rows) : (getF rows r.1).2 = true := by
  unfold getF
  split
  · rfl
  · rename_i hn
    rw [List.find?_eq_none] at hn
    exact absurd (hn r h) (by simp)
theorem nodup_len {α : Type} [DecidableEq α] : ∀ {l m : List α}, l.Nodup → (∀ x ∈ l, x ∈ m) → l.length ≤ m.length
  | [], _, _, _ => Nat.zero_le _
  | x :: l, m, h, hm => by
    have h' := List.nodup_cons.1 h
    have hx := hm x (by simp)
    have := nodup_len (l := l) (m := m.erase x) h'.2 (fun y hy => (List.mem_erase_of_ne (by rintro rfl; exact h'.1 hy)).2 (hm y (by simp [hy])))
    have e := List.length_erase_of_mem hx
    have hp : 0 < m.length := List.length_pos_of_mem hx
    simp only [List.length_cons]
    omega
theorem sorted_keys {rows : List Row} (h : Sorted rows) : (rows.map (·.1)).Nodup := by
  rw [List.Nodup, List.pairwise_map]
  exact h.imp (fun h => bl_ne h)
theorem sub_len {a b : List Row} (ha : Sorted a) (h : ∀ q, (getF a q).2 = true → (getF b q).2 = true) : a.length ≤ b.length := by
  have := nodup_len (l := a.map (·.1)) (m := b.map (·.1)) (sorted_keys ha) (fun x hx => by
    obtain ⟨r, hr, rfl⟩ := List.mem_map.1 hx
    obtain ⟨s, hs, e, _⟩ := get_true (h r.1 (get_key hr))
    exact List.mem_map.2 ⟨s, hs, e⟩)
  simpa using this
theorem sorted_ext : ∀ {a b : List Row}, Sorted a → Sorted b → (∀ q, getF a q = getF b q) → a = b
  | [], [], _, _, _ => rfl
  | [], r :: b, _, hb, h => by
    have := h r.1
    rw [get_memT hb (q := r) (by simp)] at this
    simp [getF] at this
  | r :: a, [], ha, _, h => by
    have := h r.1
    rw [get_memT ha (q := r) (by simp)] at this
    simp [getF] at this
  | r :: a, s :: b, ha, hb, h => by
    have ha' := List.pairwise_cons.1 ha
    have hb' := List.pairwise_cons.1 hb
    have h1 := h r.1
    rw [get_memT ha (q := r) (by simp)] at h1
    have h2 := h s.1
    rw [get_memT hb (q := s) (by simp)] at h2
    have hk : r.1 = s.1 := by
      obtain ⟨x, hx, ex, _⟩ := get_true (by rw [← h1] : (getF (s :: b) r.1).2 = true)
      obtain ⟨y, hy, ey, _⟩ := get_true (by rw [h2] : (getF (r :: a) s.1).2 = true)
      rcases List.mem_cons.1 hx with rfl | hx
      · exact ex.symm
      · rcases List.mem_cons.1 hy with rfl | hy
        · exact ey
        · have g1 := hb'.1 x hx
          have g2 := ha'.1 y hy
          rw [ex] at g1
          rw [ey] at g2
          have := bl_trans g1 g2
          rw [bl_irrefl] at this
          cases this
    have hv : r.2 = s.2 := by
      rw [hk, get_memT hb (q := s) (by simp)] at h1
      simpa using h1
    have hrs : r = s := Prod.ext hk hv
    subst hrs
    congr 1
    refine sorted_ext ha'.2 hb'.2 (fun q => ?_)
    have := h q
    by_cases hq : (r.1 == q) = true
    · have hq' : r.1 = q := by simpa using hq
      subst hq'
      have e1 : a.find? (fun x => x.1 == r.1) = none := by
        rw [List.find?_eq_none]
        intro x hx e
        have e : x.1 = r.1 := by simpa using e
        have := ha'.1 x hx
        rw [e, bl_irrefl] at this
        cases this
      have e2 : b.find? (fun x => x.1 == r.1) = none := by
        rw [List.find?_eq_none]
        intro x hx e
        have e : x.1 = r.1 := by simpa using e
        have := hb'.1 x hx
        rw [e, bl_irrefl] at this
        cases this
      simp only [getF, e1, e2]
    · have hq : (r.1 == q) = false := by simpa using hq
      simpa only [getF, List.find?_cons, hq] using this
end Go.Sx

namespace Go.Sx
open Go
set_option linter.unusedVariables false
set_option linter.unusedSimpArgs false

/-! writes to tables -/
theorem putW_bad {rows : List Row} {k v : List UInt8} (h : validT rows = false ∨ rowOk (k, v) = false) : putF rows k v = ([], 1) := by
  unfold putF
  rw [validT_one]
  rcases h with h | h <;> simp [h]
theorem putW_full {rows : List Row} {k v : List UInt8} (h1 : validT rows = true) (h2 : rowOk (k, v) = true) (h : (withF rows (k, v)).length > 1024) : putF rows k v = ([], 16) := by
  unfold putF
  rw [validT_one]
  simp [h1, h2, h]
theorem putW_ok {rows : List Row} {k v : List UInt8} (h1 : validT rows = true) (h2 : rowOk (k, v) = true) (h : ¬ (withF rows (k, v)).length > 1024) : putF rows k v = (withF rows (k, v), 0) := by
  unfold putF
  rw [validT_one]
  simp [h1, h2, h]
/-! writes -/
def doF (rows : List Row) (w : Wr) : List Row × Int :=
  if !(validW w.1 w.2.1 w.2.2) then ([], 1) else if w.2.2 then (withoutF rows w.1, 0) else putF rows w.1 w.2.1
def goF : List Row → List Wr → List Row × Int
  | rows, [] => (rows, 0)
  | rows, w :: ws => if (doF rows w).2 = 0 then goF (doF rows w).1 ws else ([], (doF rows w).2)
def applyF (rows : List Row) (ws : List Wr) : List Row × Int := if validT rows then goF rows ws else ([], 1)
theorem validW_row {k v : List UInt8} {d : Bool} (h : validW k v d = true) : rowOk (k, v) = true := by
  simp only [validW, rowOk, Bool.and_eq_true] at h ⊢
  exact h.1
theorem do_tab {rows : List Row} {w : Wr} (h : TabOk rows) (he : (doF rows w).2 = 0) : TabOk (doF rows w).1 := by
  obtain ⟨k, v, d⟩ := w
  unfold doF at he ⊢
  by_cases hw : validW k v d = true
  · simp only [hw, Bool.not_true, Bool.false_eq_true, if_false] at he ⊢
    cases d with
    | true => exact ⟨Nat.le_trans without_len h.len, fun r hr => h.ok r (without_ne hr).1, h.sorted.sub without_sub⟩
    | false =>
      simp only [Bool.false_eq_true, if_false] at he ⊢
      have hr := validW_row hw
      by_cases hl : (withF rows (k, v)).length > 1024
      · rw [putW_full (validT_iff.2 h) hr hl] at he; cases he
      · rw [putW_ok (validT_iff.2 h) hr hl]
        obtain ⟨h1, h2, _⟩ := with_ok h hr
        exact ⟨by simp only; omega, h1, h2⟩
  · simp [hw] at he
theorem go_step {rows : List Row} {ws : List Wr} {i : Nat} (h : i < ws.length) : goF rows (ws.drop i) = if (doF rows (ws.getD i default)).2 = 0 then goF (doF rows (ws.getD i default)).1 (ws.drop (i + 1)) else ([], (doF rows (ws.getD i default)).2) := by
  have e : ws.drop i = ws.getD i default :: ws.drop (i + 1) := by
    rw [List.drop_eq_getElem_cons h]
    simp [List.getD, h]
  rw [e, goF]
theorem do_bad {r : List Row} {k v : List UInt8} {d : Bool} (h : validW k v d = false) : doF r (k, v, d) = ([], 1) := by simp [doF, h]
theorem do_gone {r : List Row} {k v : List UInt8} (hs : Sorted r) (hw : validW k v true = true) (hi : placeF r k false < r.length) (he : (r.getD (placeF r k false) default).1 = k) : doF r (k, v, true) = (r.take (placeF r k false) ++ r.drop (placeF r k false + 1), 0) := by
  simp [doF, hw, (place_found (v := v) hs hi he).1]
theorem do_same {r : List Row} {k v : List UInt8} (hs : Sorted r) (hw : validW k v true = true) (he : ¬ (placeF r k false < r.length ∧ (r.getD (placeF r k false) default).1 = k)) : doF r (k, v, true) = (r, 0) := by
  simp [doF, hw, (place_new (v := v) hs he).1]
theorem do_set {r : List Row} {k v : List UInt8} (ht : TabOk r) (hw : validW k v false = true) (hi : placeF r k false < r.length) (he : (r.getD (placeF r k false) default).1 = k) : doF r (k, v, false) = (r.take (placeF r k false) ++ (k, v) :: r.drop (placeF r k false + 1), 0) := by
  have e := (place_found (v := v) ht.sorted hi he).2
  have hl := ht.len
  have : putF r k v = (withF r (k, v), 0) := putW_ok (validT_iff.2 ht) (validW_row hw) (by rw [e]; simp only [List.length_append, List.length_take, List.length_cons, List.length_drop]; omega)
  simp [doF, hw, this, e]
theorem do_full {r : List Row} {k v : List UInt8} (ht : TabOk r) (hw : validW k v false = true) (he : ¬ (placeF r k false < r.length ∧ (r.getD (placeF r k false) default).1 = k)) (hl : r.length = 1024) : doF r (k, v, false) = ([], 16) := by
  have e := (place_new (v := v) ht.sorted he).2
  have : putF r k v = ([], 16) := putW_full (validT_iff.2 ht) (validW_row hw) (by rw [e]; simp only [List.length_append, List.length_take, List.length_cons, List.length_drop]; have := place_le (rows := r) (k := k) (t := false); omega)
  simp [doF, hw, this]
theorem do_add {r : List Row} {k v : List UInt8} (ht : TabOk r) (hw : validW k v false = true) (he : ¬ (placeF r k false < r.length ∧ (r.getD (placeF r k false) default).1 = k)) (hl : ¬ r.length = 1024) : doF r (k, v, false) = (r.take (placeF r k false) ++ (k, v) :: r.drop (placeF r k false), 0) := by
  have e := (place_new (v := v) ht.sorted he).2
  have h1 := ht.len
  have : putF r k v = (withF r (k, v), 0) := putW_ok (validT_iff.2 ht) (validW_row hw) (by rw [e]; simp only [List.length_append, List.length_take, List.length_cons, List.length_drop]; omega)
  simp [doF, hw, this, e]
theorem dw_bad {r : List Row} {w : Wr} (h : validW w.1 w.2.1 w.2.2 = false) : doF r w = ([], 1) := do_bad h
theorem dw_gone {r : List Row} {w : Wr} (ht : TabOk r) (hd : w.2.2 = true) (hw : validW w.1 w.2.1 w.2.2 = true) (hi : placeF r w.1 false < r.length) (he : (r.getD (placeF r w.1 false) default).1 = w.1) : doF r w = (r.take (placeF r w.1 false) ++ r.drop (placeF r w.1 false + 1), 0) := by
  obtain ⟨k, v, d⟩ := w
  simp only at hd; subst hd
  exact do_gone ht.sorted hw hi he
theorem dw_same {r : List Row} {w : Wr} (ht : TabOk r) (hd : w.2.2 = true) (hw : validW w.1 w.2.1 w.2.2 = true) (he : ¬ (placeF r w.1 false < r.length ∧ (r.getD (placeF r w.1 false) default).1 = w.1)) : doF r w = (r, 0) := by
  obtain ⟨k, v, d⟩ := w
  simp only at hd; subst hd
  exact do_same ht.sorted hw he
theorem dw_set {r : List Row} {w : Wr} (ht : TabOk r) (hd : w.2.2 = false) (hw : validW w.1 w.2.1 w.2.2 = true) (hi : placeF r w.1 false < r.length) (he : (r.getD (placeF r w.1 false) default).1 = w.1) : doF r w = (r.take (placeF r w.1 false) ++ (w.1, w.2.1) :: r.drop (placeF r w.1 false + 1), 0) := by
  obtain ⟨k, v, d⟩ := w
  simp only at hd; subst hd
  exact do_set ht hw hi he
theorem dw_full {r : List Row} {w : Wr} (ht : TabOk r) (hd : w.2.2 = false) (hw : validW w.1 w.2.1 w.2.2 = true) (he : ¬ (placeF r w.1 false < r.length ∧ (r.getD (placeF r w.1 false) default).1 = w.1)) (hl : r.length = 1024) : doF r w = ([], 16) := by
  obtain ⟨k, v, d⟩ := w
  simp only at hd; subst hd
  exact do_full ht hw he hl
theorem dw_add {r : List Row} {w : Wr} (ht : TabOk r) (hd : w.2.2 = false) (hw : validW w.1 w.2.1 w.2.2 = true) (he : ¬ (placeF r w.1 false < r.length ∧ (r.getD (placeF r w.1 false) default).1 = w.1)) (hl : ¬ r.length = 1024) : doF r w = (r.take (placeF r w.1 false) ++ (w.1, w.2.1) :: r.drop (placeF r w.1 false), 0) := by
  obtain ⟨k, v, d⟩ := w
  simp only at hd; subst hd
  exact do_add ht hw he hl
theorem row_set {r : List Row} {p n : Nat} {x : Row} (hp : p ≤ r.length) (he : (r.getD p default).1 = x.1) : RowLe n 2 (fun i' j' => if i' = p then if j' < 1 then cellOf encRow r i' j' else if j' < 1 + [D.str x.2].length then [D.str x.2].getD (j' - 1) default else cellOf encRow r i' j' else cellOf encRow r i' j') (cellOf encRow (r.take p ++ x :: r.drop (p + 1))) := by
  refine .of_eq fun a j _ hj => ?_
  simp only [cellOf, getD_ins hp]
  rcases Nat.lt_trichotomy a p with h | h | h
  · rw [if_neg (by omega), if_pos h]
  · subst h
    simp only [if_true, Nat.lt_irrefl, if_false]
    refine jlt2 (p := fun j => (if j < 1 then (encRow (r.getD a default)).getD j default else if j < 1 + [D.str x.2].length then [D.str x.2].getD (j - 1) default else (encRow (r.getD a default)).getD j default) = (encRow x).getD j default) ?_ rfl j hj
    show D.str (r.getD a default).1 = D.str x.1
    rw [he]
  · rw [if_neg (by omega), if_neg (by omega), if_neg (by omega), show p + 1 + (a - p - 1) = a by omega]
theorem row_add {r : List Row} {p n : Nat} {x : Row} (hp : p ≤ r.length) (hn : n = r.length + 1) : RowLe n 2 (fun i' j' => if i' = p then (if j' < 0 then (if p + 1 ≤ i' ∧ i' < p + 1 + min (((r.length + 1 : Nat) : Int) - (p : Int)).toNat (((r.length + 1 : Nat) : Int) - ((p + 1 : Nat) : Int)).toNat then (if p + (i' - (p + 1)) < r.length then cellOf encRow r (p + (i' - (p + 1))) j' else tabF (fun x j => [D.str [], D.str []].getD j default) [(0, [D.str [], D.str []])] (p + (i' - (p + 1)) - r.length) j') else (if i' < r.length then cellOf encRow r i' j' else tabF (fun x j => [D.str [], D.str []].getD j default) [(0, [D.str [], D.str []])] (i' - r.length) j')) else if j' < [D.str x.1, D.str x.2].length then [D.str x.1, D.str x.2].getD (j' - 0) default else (if p + 1 ≤ i' ∧ i' < p + 1 + min (((r.length + 1 : Nat) : Int) - (p : Int)).toNat (((r.length + 1 : Nat) : Int) - ((p + 1 : Nat) : Int)).toNat then (if p + (i' - (p + 1)) < r.length then cellOf encRow r (p + (i' - (p + 1))) j' else tabF (fun x j => [D.str [], D.str []].getD j default) [(0, [D.str [], D.str []])] (p + (i' - (p + 1)) - r.length) j') else (if i' < r.length then cellOf encRow r i' j' else tabF (fun x j => [D.str [], D.str []].getD j default) [(0, [D.str [], D.str []])] (i' - r.length) j'))) else (if p + 1 ≤ i' ∧ i' < p + 1 + min (((r.length + 1 : Nat) : Int) - (p : Int)).toNat (((r.length + 1 : Nat) : Int) - ((p + 1 : Nat) : Int)).toNat then (if p + (i' - (p + 1)) < r.length then cellOf encRow r (p + (i' - (p + 1))) j' else tabF (fun x j => [D.str [], D.str []].getD j default) [(0, [D.str [], D.str []])] (p + (i' - (p + 1)) - r.length) j') else (if i' < r.length then cellOf encRow r i' j' else tabF (fun x j => [D.str [], D.str []].getD j default) [(0, [D.str [], D.str []])] (i' - r.length) j'))) (cellOf encRow (r.take p ++ x :: r.drop p)) := by
  subst hn
  refine .of_eq fun a j ha hj => ?_
  simp only [cellOf, getD_ins hp]
  rcases Nat.lt_trichotomy a p with h | h | h
  · rw [if_neg (by omega), if_neg (by omega), if_pos (by omega), if_pos h]
  · rw [if_pos h, if_neg (by omega), if_pos (by simpa using hj), if_neg (by omega), if_pos h]
    exact jlt2 (p := fun j => [D.str x.1, D.str x.2].getD (j - 0) default = (encRow x).getD j default) rfl rfl j hj
  · rw [if_neg (by omega), if_pos (by omega), if_pos (by omega), if_neg (by omega), if_neg (by omega), show p + (a - (p + 1)) = p + (a - p - 1) by omega]

theorem go_len {ws : List Wr} : ∀ {rows : List Row}, TabOk rows → (goF rows ws).1.length ≤ 1024 := by
  induction ws with
  | nil => intro rows h; simpa [goF] using h.len
  | cons w ws ih =>
    intro rows h
    simp only [goF]
    split
    · exact ih (do_tab h (by assumption))
    · simp
theorem apply_len {rows : List Row} {ws : List Wr} : (applyF rows ws).1.length ≤ 1024 := by
  unfold applyF
  split
  · exact go_len (validT_iff.1 (by assumption))
  · simp
theorem diff_len {a b : List Row} : (diffF a b).length ≤ a.length + b.length := by
  unfold diffF
  split
  · rw [List.length_append]
    exact Nat.add_le_add collect_len collect_len
  · simp

theorem lead_del {ws2 : List Wr} : ∀ {ws1 : List Wr} {r : List Row}, TabOk r → (∀ w ∈ ws1, w.2.2 = true ∧ validW w.1 w.2.1 w.2.2 = true) →
    ∃ r', TabOk r' ∧ goF r (ws1 ++ ws2) = goF r' ws2 ∧ ∀ q, getF r' q = if q ∈ ws1.map (·.1) then ([], false) else getF r q
  | [], r, h, _ => ⟨r, h, rfl, fun q => by simp⟩
  | w :: ws1, r, h, hw => by
    have h1 := hw w (by simp)
    have hv := h1.2
    rw [h1.1] at hv
    have hd : doF r w = (withoutF r w.1, 0) := by simp [doF, h1.1, hv]
    have ht := do_tab (w := w) h (by rw [hd])
    rw [hd] at ht
    obtain ⟨r', k1, k2, k3⟩ := lead_del (ws1 := ws1) ht (fun x hx => hw x (by simp [hx]))
    refine ⟨r', k1, ?_, fun q => ?_⟩
    · simp only [List.cons_append, goF, hd, if_true]
      exact k2
    · rw [k3, get_without]
      simp only [List.map_cons, List.mem_cons]
      by_cases e1 : q ∈ ws1.map (·.1)
      · simp [e1]
      · by_cases e2 : q = w.1
        · simp [e2]
        · simp [e1, e2]
theorem lead_put {y : List Row} (hy : TabOk y) : ∀ {ws : List Wr} {r : List Row}, TabOk r → (∀ w ∈ ws, w.2.2 = false ∧ validW w.1 w.2.1 w.2.2 = true) → (∀ w ∈ ws, getF y w.1 = (w.2.1, true)) →
    (∀ q, getF r q = getF y q ∨ ∃ w ∈ ws, w.1 = q) → (∀ q, (getF r q).2 = true → (getF y q).2 = true) → goF r ws = (y, 0)
  | [], r, h, _, _, hB, _ => by
    have : r = y := sorted_ext h.sorted hy.sorted (fun q => (hB q).resolve_right (by simp))
    subst this
    rfl
  | w :: ws, r, h, hw, hA, hB, hC => by
    have h1 := hw w (by simp)
    have hr := validW_row h1.2
    have hwt := with_ok h hr
    have hC' : ∀ q, (getF (withF r (w.1, w.2.1)) q).2 = true → (getF y q).2 = true := by
      intro q hq
      rw [get_with] at hq
      by_cases e : q = w.1
      · subst e; rw [hA w (by simp)]
      · rw [if_neg e] at hq; exact hC q hq
    have hl := sub_len hwt.2.1 hC'
    have hyl := hy.len
    have hd : doF r w = (withF r (w.1, w.2.1), 0) := by
      have : putF r w.1 w.2.1 = (withF r (w.1, w.2.1), 0) := putW_ok (validT_iff.2 h) hr (by omega)
      have hv := h1.2
      rw [h1.1] at hv
      simp [doF, h1.1, hv, this]
    have ht := do_tab (w := w) h (by rw [hd])
    rw [hd] at ht
    simp only [goF, hd, if_true]
    refine lead_put hy ht (fun x hx => hw x (by simp [hx])) (fun x hx => hA x (by simp [hx])) (fun q => ?_) hC'
    simp only [get_with]
    by_cases e : q = w.1
    · subst e; rw [if_pos rfl]; exact .inl (hA w (by simp)).symm
    · rw [if_neg e]
      rcases hB q with hB | ⟨x, hx, ex⟩
      · exact .inl hB
      · rcases List.mem_cons.1 hx with rfl | hx
        · exact absurd ex.symm e
        · exact .inr ⟨x, hx, ex⟩
theorem apply_diff {x y : List Row} (hx : TabOk x) (hy : TabOk y) : applyF x (diffF x y) = (y, 0) := by
  have vx := validT_iff.2 hx
  have vy := validT_iff.2 hy
  rw [applyF, if_pos vx, diff_valid vx vy]
  have rowV : ∀ {rows : List Row}, TabOk rows → ∀ r ∈ rows, ((r.1.length : Int) ≤ 64) ∧ ((r.2.length : Int) ≤ 64) := by
    intro rows h r hr
    have := h.ok r hr
    simpa [rowOk] using this
  obtain ⟨r, h1, h2, h3⟩ := lead_del (ws1 := collect (goneP y) goneW x) (ws2 := collect (newP' x) newW y) hx (by
    intro w hw
    simp only [collect, List.mem_map, List.mem_filter] at hw
    obtain ⟨s, ⟨hs, _⟩, rfl⟩ := hw
    have := rowV hx s hs
    exact ⟨rfl, by simp [validW, goneW, this.1]⟩)
  have hgone : ∀ q, q ∈ (collect (goneP y) goneW x).map (·.1) ↔ (getF x q).2 = true ∧ (getF y q).2 = false := by
    intro q
    simp only [collect, List.map_map, List.mem_map, List.mem_filter, goneP, Bool.not_eq_true', Function.comp, goneW]
    constructor
    · rintro ⟨s, ⟨hs, hg⟩, rfl⟩
      exact ⟨get_key hs, hg⟩
    · rintro ⟨h1, h2⟩
      obtain ⟨s, hs, e, _⟩ := get_true h1
      subst e
      exact ⟨s, ⟨hs, h2⟩, rfl⟩
  rw [h2]
  refine lead_put hy h1 ?_ ?_ ?_ ?_
  · intro w hw
    simp only [collect, List.mem_map, List.mem_filter] at hw
    obtain ⟨s, ⟨hs, _⟩, rfl⟩ := hw
    have := rowV hy s hs
    exact ⟨rfl, by simp [validW, newW, this.1, this.2]⟩
  · intro w hw
    simp only [collect, List.mem_map, List.mem_filter] at hw
    obtain ⟨s, ⟨hs, _⟩, rfl⟩ := hw
    exact get_memT hy.sorted hs
  · intro q
    rw [h3]
    cases hyq : (getF y q).2 with
    | false =>
      left
      rw [get_false hyq]
      split
      · rfl
      · rename_i hn
        rw [hgone] at hn
        cases hxq : (getF x q).2 with
        | false => exact get_false hxq
        | true => exact absurd ⟨hxq, hyq⟩ hn
    | true =>
      obtain ⟨s, hs, e, hv⟩ := get_true hyq
      have hn : ¬ q ∈ (collect (goneP y) goneW x).map (·.1) := by
        rw [hgone, hyq]; simp
      rw [if_neg hn]
      by_cases hp : newP' x s = true
      · exact .inr ⟨newW s, by simp only [collect, List.mem_map, List.mem_filter]; exact ⟨s, ⟨hs, hp⟩, rfl⟩, e⟩
      · left
        simp only [newP', Bool.or_eq_true, Bool.not_eq_true', not_or, Bool.not_eq_false, beq_iff_eq] at hp
        rw [hv, ← e]
        exact Prod.ext hp.2 hp.1
  · intro q hq
    rw [h3] at hq
    split at hq
    · cases hq
    · rename_i hn
      rw [hgone] at hn
      cases hyq : (getF y q).2 with
      | true => rfl
      | false => exact absurd ⟨hq, hyq⟩ hn
theorem diff_self {x : List Row} (h : TabOk x) : diffF x x = [] := by
  have v := validT_iff.2 h
  rw [diff_valid v v]
  have h1 : collect (goneP x) goneW x = [] := by
    rw [collect, List.map_eq_nil_iff, List.filter_eq_nil_iff]
    intro r hr
    simp [goneP, get_key hr]
  have h2 : collect (newP' x) newW x = [] := by
    rw [collect, List.map_eq_nil_iff, List.filter_eq_nil_iff]
    intro r hr
    simp [newP', get_memT h.sorted hr]
  rw [h1, h2]; rfl

end Go.Sx

namespace Go.Sx
open Go
set_option linter.unusedVariables false
set_option linter.unusedSimpArgs false

/-! ranges as such -/
def emptyR' (r : Rng) : Bool := emptyR r.1 r.2.1 r.2.2.1 r.2.2.2
def validR' (r : Rng) : Bool := validR r.1 r.2.1 r.2.2.1 r.2.2.2
def hasR (r : Rng) (k : List UInt8) : Bool := containsR r.1 r.2.1 r.2.2.1 r.2.2.2 k
def cmpBB (a b : Bnd) : Int := cmpB a.1 a.2 b.1 b.2
def maxB (a b : Bnd) : Bnd := if cmpBB b a > 0 then b else a
def minB (a b : Bnd) : Bnd := if cmpBB b a < 0 then b else a
def zeroR : Rng := ([], false, [], false)
def meetR (a b : Rng) : Rng :=
  let lo := maxB (a.1, a.2.1) (b.1, b.2.1)
  let hi := minB (a.2.2.1, a.2.2.2) (b.2.2.1, b.2.2.2)
  (lo.1, lo.2, hi.1, hi.2)
def interR (a b : Rng) : Rng := if emptyR' a || emptyR' b || emptyR' (meetR a b) then zeroR else meetR a b
theorem cmp_neg (a b : Bnd) : cmpBB b a = -(cmpBB a b) := by
  obtain ⟨ak, at_⟩ := a
  obtain ⟨bk, bt⟩ := b
  simp only [cmpBB, cmpB]
  cases at_ <;> cases bt <;> cases h : Op.bytesLess ak bk <;> cases h2 : Op.bytesLess bk ak <;> simp
  exact absurd (bl_trans h h2) (by rw [bl_irrefl]; simp)
theorem emptyR_zero : emptyR' zeroR = true := by simp [emptyR', zeroR, emptyR, validR, validB, cmpB, bl_irrefl]
theorem cmp_eq {a b : Bnd} (ha : validB a.1 a.2 = true) (hb : validB b.1 b.2 = true) (h : cmpBB a b = 0) : a = b := by
  obtain ⟨ak, at_⟩ := a
  obtain ⟨bk, bt⟩ := b
  simp only [cmpBB, cmpB, validB, Bool.and_eq_true, decide_eq_true_eq] at *
  cases at_ <;> cases bt <;> simp at h ha hb ⊢
  · have h1 : Op.bytesLess ak bk = false := by
      cases e : Op.bytesLess ak bk with
      | false => rfl
      | true => rw [e] at h; simp at h
    have h2 : Op.bytesLess bk ak = false := by
      cases e : Op.bytesLess bk ak with
      | false => rfl
      | true => rw [e, h1] at h; simp at h
    exact bl_tri h1 h2
  · rw [ha.2, hb.2]
theorem empty_false {r : Rng} (h : emptyR' r = false) : validB r.1 r.2.1 = true ∧ validB r.2.2.1 r.2.2.2 = true ∧ cmpB r.1 r.2.1 r.2.2.1 r.2.2.2 < 0 := by
  simp only [emptyR', emptyR, validR, Bool.or_eq_false_iff, Bool.not_eq_false', Bool.and_eq_true, decide_eq_true_eq, beq_eq_false_iff_ne, ne_eq] at h
  obtain ⟨⟨⟨h1, h2⟩, h3⟩, h4⟩ := h
  exact ⟨h1, h2, by omega⟩
theorem maxB_comm {a b : Bnd} (ha : validB a.1 a.2 = true) (hb : validB b.1 b.2 = true) : maxB a b = maxB b a := by
  unfold maxB
  rw [cmp_neg a b]
  by_cases h : cmpBB a b = 0
  · rw [cmp_eq ha hb h]; simp
  · by_cases h1 : cmpBB a b < 0
    · rw [if_pos (by omega), if_neg (by omega)]
    · rw [if_neg (by omega), if_pos (by omega)]
theorem minB_comm {a b : Bnd} (ha : validB a.1 a.2 = true) (hb : validB b.1 b.2 = true) : minB a b = minB b a := by
  unfold minB
  rw [cmp_neg a b]
  by_cases h : cmpBB a b = 0
  · rw [cmp_eq ha hb h]; simp
  · by_cases h1 : cmpBB a b < 0
    · rw [if_neg (by omega), if_pos (by omega)]
    · rw [if_pos (by omega), if_neg (by omega)]
theorem interR_comm (a b : Rng) : interR a b = interR b a := by
  unfold interR
  cases ha : emptyR' a with
  | true => simp
  | false =>
    cases hb : emptyR' b with
    | true => simp
    | false =>
      obtain ⟨a1, a2, _⟩ := empty_false ha
      obtain ⟨b1, b2, _⟩ := empty_false hb
      have e : meetR a b = meetR b a := by
        simp only [meetR]
        rw [maxB_comm (a := (a.1, a.2.1)) (b := (b.1, b.2.1)) a1 b1, minB_comm (a := (a.2.2.1, a.2.2.2)) (b := (b.2.2.1, b.2.2.2)) a2 b2]
      rw [e]

theorem all_true {α : Type} [Inhabited α] {l : List α} {p : α → Bool} (h : ∀ j, j < l.length → p (l.getD j default) = true) : l.all p = true := by
  rw [List.all_eq_true]
  intro x hx
  obtain ⟨j, hj, rfl⟩ := List.getElem_of_mem hx
  have := h j hj
  rwa [show l.getD j default = l[j] by simp [List.getD, hj]] at this
theorem all_false {α : Type} [Inhabited α] {l : List α} {p : α → Bool} {i : Nat} (hi : i < l.length) (h : p (l.getD i default) = false) : l.all p = false := by
  cases e : l.all p with
  | false => rfl
  | true =>
    have := List.all_eq_true.1 e _ (List.getElem_mem hi)
    rw [show l.getD i default = l[i] by simp [List.getD, hi]] at h
    rw [h] at this
    cases this

def lowR (a m : Rng) : Rng := (a.1, a.2.1, m.1, m.2.1)
def highR (a m : Rng) : Rng := (m.2.2.1, m.2.2.2, a.2.2.1, a.2.2.2)
/-- what a range has more than another one -/
def subR (a b : Rng) : List Rng :=
  if emptyR' a then [] else if emptyR' (interR a b) then [a]
  else (if emptyR' (lowR a (interR a b)) then [] else [lowR a (interR a b)]) ++ (if emptyR' (highR a (interR a b)) then [] else [highR a (interR a b)])
theorem subR_len {a b : Rng} : (subR a b).length ≤ 2 := by
  unfold subR
  split
  · simp
  · split
    · simp
    · split <;> split <;> simp

/-! stamps, parts, copies -/
def numOk (n : Int) : Bool := decide (1 ≤ n) && decide (n ≤ 2147483647)
def serOk (n : Int) : Bool := decide (1 ≤ n) && decide (n ≤ 1099511627776)
def stampOk (e v : Int) : Bool := decide (0 ≤ e) && decide (e ≤ 1099511627776) && decide (0 ≤ v) && decide (v ≤ 1099511627776)
theorem ser_of {n : Int} (h0 : (n == 0) = false) (h1 : ¬ n < 0) (h2 : ¬ n > 1099511627776) : serOk n = true := by
  simp only [beq_eq_false_iff_ne, ne_eq] at h0
  simp only [serOk, Bool.and_eq_true, decide_eq_true_eq]
  omega
theorem ser_not {n : Int} (h : n < 0 ∨ n > 1099511627776) : serOk n = false := by
  simp only [serOk, Bool.and_eq_false_iff, decide_eq_false_iff_not]
  omega
structure PartT where
  serial : Int
  src : Int
  dst : Int
  se : Int
  sv : Int
  lk : List UInt8
  lt : Bool
  hk : List UInt8
  ht : Bool
  rows : List Row
instance : Inhabited PartT := ⟨⟨0, 0, 0, 0, 0, [], false, [], false, []⟩⟩
structure CopyT where
  lk : List UInt8
  lt : Bool
  hk : List UInt8
  ht : Bool
  se : Int
  sv : Int
  rows : List Row
  pend : List Wr
  out : PartT
  inn : PartT
  took : Int
  src : Int
instance : Inhabited CopyT := ⟨⟨[], false, [], false, 0, 0, [], [], default, default, 0, 0⟩⟩
def noPart : PartT := ⟨0, 0, 0, 0, 0, [], false, [], false, []⟩
def noCopy : CopyT := ⟨[], false, [], false, 0, 0, [], [], noPart, noPart, 0, 0⟩
abbrev PartT.rng (p : PartT) : Rng := (p.lk, p.lt, p.hk, p.ht)
abbrev CopyT.rng (c : CopyT) : Rng := (c.lk, c.lt, c.hk, c.ht)
def encPart (p : PartT) : List D := [.int .i64 p.serial, .int .i64 p.src, .int .i64 p.dst, .int .i64 p.se, .int .i64 p.sv, .str p.lk, .bool p.lt, .str p.hk, .bool p.ht, encL encRow 2 p.rows]
def encCopy (c : CopyT) : List D := [.str c.lk, .bool c.lt, .str c.hk, .bool c.ht, .int .i64 c.se, .int .i64 c.sv, encL encRow 2 c.rows, encL encWr 3 c.pend,
  .int .i64 c.out.serial, .int .i64 c.out.src, .int .i64 c.out.dst, .int .i64 c.out.se, .int .i64 c.out.sv, .str c.out.lk, .bool c.out.lt, .str c.out.hk, .bool c.out.ht, encL encRow 2 c.out.rows,
  .int .i64 c.inn.serial, .int .i64 c.inn.src, .int .i64 c.inn.dst, .int .i64 c.inn.se, .int .i64 c.inn.sv, .str c.inn.lk, .bool c.inn.lt, .str c.inn.hk, .bool c.inn.ht, encL encRow 2 c.inn.rows,
  .int .i64 c.took, .int .i64 c.src]
abbrev partL (p : PartT) : List SV := [.d (.int .i64 p.serial), .d (.int .i64 p.src), .d (.int .i64 p.dst), .d (.int .i64 p.se), .d (.int .i64 p.sv), .d (.str p.lk), .d (.bool p.lt), .d (.str p.hk), .d (.bool p.ht), .d (encL encRow 2 p.rows)]
abbrev copyL (c : CopyT) : List SV := [.d (.str c.lk), .d (.bool c.lt), .d (.str c.hk), .d (.bool c.ht), .d (.int .i64 c.se), .d (.int .i64 c.sv), .d (encL encRow 2 c.rows), .d (encL encWr 3 c.pend),
  .d (.int .i64 c.out.serial), .d (.int .i64 c.out.src), .d (.int .i64 c.out.dst), .d (.int .i64 c.out.se), .d (.int .i64 c.out.sv), .d (.str c.out.lk), .d (.bool c.out.lt), .d (.str c.out.hk), .d (.bool c.out.ht), .d (encL encRow 2 c.out.rows),
  .d (.int .i64 c.inn.serial), .d (.int .i64 c.inn.src), .d (.int .i64 c.inn.dst), .d (.int .i64 c.inn.se), .d (.int .i64 c.inn.sv), .d (.str c.inn.lk), .d (.bool c.inn.lt), .d (.str c.inn.hk), .d (.bool c.inn.ht), .d (encL encRow 2 c.inn.rows),
  .d (.int .i64 c.took), .d (.int .i64 c.src)]
/-- a copy whose list of writes is the function's own -/
abbrev copyP (m : Nat) (c : CopyT) : List SV := [.d (.str c.lk), .d (.bool c.lt), .d (.str c.hk), .d (.bool c.ht), .d (.int .i64 c.se), .d (.int .i64 c.sv), .d (encL encRow 2 c.rows), .osl m 3 0 c.pend.length,
  .d (.int .i64 c.out.serial), .d (.int .i64 c.out.src), .d (.int .i64 c.out.dst), .d (.int .i64 c.out.se), .d (.int .i64 c.out.sv), .d (.str c.out.lk), .d (.bool c.out.lt), .d (.str c.out.hk), .d (.bool c.out.ht), .d (encL encRow 2 c.out.rows),
  .d (.int .i64 c.inn.serial), .d (.int .i64 c.inn.src), .d (.int .i64 c.inn.dst), .d (.int .i64 c.inn.se), .d (.int .i64 c.inn.sv), .d (.str c.inn.lk), .d (.bool c.inn.lt), .d (.str c.inn.hk), .d (.bool c.inn.ht), .d (encL encRow 2 c.inn.rows),
  .d (.int .i64 c.took), .d (.int .i64 c.src)]
def I64 (n : Int) : Prop := -9223372036854775808 ≤ n ∧ n < 9223372036854775808
def inAll (r : Rng) (rows : List Row) : Bool := rows.all fun x => hasR r x.1
def withinF (r : Rng) (rows : List Row) : Bool := validT rows && inAll r rows
theorem within_len {r : Rng} {rows : List Row} : inAll r rows = decide ((sliceF rows r.1 r.2.1 r.2.2.1 r.2.2.2).length = rows.length) := by
  rw [Bool.eq_iff_iff, decide_eq_true_eq]
  unfold sliceF inAll
  rw [List.length_filter_eq_length_iff, List.all_eq_true]
  rfl
def validPart (p : PartT) : Bool := serOk p.serial && (numOk p.src && (numOk p.dst && (!(p.src == p.dst) && (stampOk p.se p.sv && (!(emptyR' p.rng) && withinF p.rng p.rows)))))
def outsideF (r : Rng) (p : PartT) : Bool := p.serial == 0 || (validPart p && emptyR' (interR r p.rng))
def pendOk (r : Rng) (w : Wr) : Bool := validW w.1 w.2.1 w.2.2 && hasR r w.1
def headC (c : CopyT) : Bool := validR' c.rng && (stampOk c.se c.sv && (withinF c.rng c.rows && (decide (c.pend.length ≤ 64) && decide (c.rows.length + c.pend.length ≤ 1024))))
def partsC (c : CopyT) : Bool := outsideF c.rng c.out && (outsideF c.rng c.inn && (c.inn.serial == 0 || c.out.serial == 0 || emptyR' (interR c.out.rng c.inn.rng)))
def tookC (c : CopyT) : Bool := (c.took == 0 && c.src == 0) || (serOk c.took && numOk c.src)
def validC (c : CopyT) : Bool := headC c && (c.pend.all (pendOk c.rng) && (partsC c && tookC c))
/-- bounds of what is in a copy, so that lengths and numbers are in the machine's limits -/
structure PartB (n : Nat) (p : PartT) : Prop where
  rows : p.rows.length ≤ n
  serial : I64 p.serial
  src : I64 p.src
  dst : I64 p.dst
  se : I64 p.se
  sv : I64 p.sv
structure CopyB (n : Nat) (c : CopyT) : Prop where
  rows : c.rows.length ≤ n
  pend : c.pend.length ≤ n
  out : PartB n c.out
  inn : PartB n c.inn
  took : I64 c.took
  src : I64 c.src
  se : I64 c.se
  sv : I64 c.sv
  lk : c.lk.length ≤ 200000000000000
  hk : c.hk.length ≤ 200000000000000
theorem PartB.mono {n m : Nat} {p : PartT} (h : n ≤ m) (hp : PartB n p) : PartB m p := ⟨Nat.le_trans hp.rows h, hp.serial, hp.src, hp.dst, hp.se, hp.sv⟩
theorem CopyB.mono {n m : Nat} {c : CopyT} (h : n ≤ m) (hc : CopyB n c) : CopyB m c := ⟨Nat.le_trans hc.rows h, Nat.le_trans hc.pend h, hc.out.mono h, hc.inn.mono h, hc.took, hc.src, hc.se, hc.sv, hc.lk, hc.hk⟩
theorem i64_zero : I64 0 := by unfold I64; omega
theorem i64_wrap (n : Int) : I64 (IntKind.i64.wrap n) := by
  obtain ⟨q, _, h1, h2⟩ := wrap_mod n
  exact ⟨h1, h2⟩
theorem noPart_b {n : Nat} : PartB n noPart := ⟨by simp [noPart], i64_zero, i64_zero, i64_zero, i64_zero, i64_zero⟩
theorem noCopy_b {n : Nat} : CopyB n noCopy := ⟨by simp [noCopy], by simp [noCopy], noPart_b, noPart_b, i64_zero, i64_zero, i64_zero, i64_zero, by simp [noCopy], by simp [noCopy]⟩
/-! Append, Commit, Settle -/
def appendC (c : CopyT) (w : Wr) : CopyT × Int :=
  if !(validC c && validW w.1 w.2.1 w.2.2) then (noCopy, 1) else if !(hasR c.rng w.1) then (noCopy, 12) else if c.pend.length = 64 ∨ c.rows.length + c.pend.length = 1024 then (noCopy, 16)
  else ({ c with pend := c.pend ++ [w] }, 0)
def commitC (c : CopyT) : CopyT × Int :=
  if !(validC c) then (noCopy, 1) else if c.pend.length = 0 then (noCopy, 7) else if c.sv = 1099511627776 then (noCopy, 16)
  else ({ c with rows := (doF c.rows (c.pend.getD 0 default)).1, pend := c.pend.drop 1, sv := c.sv + 1 }, 0)
theorem valid_head {c : CopyT} (h : validC c = true) : validR' c.rng = true ∧ stampOk c.se c.sv = true ∧ TabOk c.rows ∧ inAll c.rng c.rows = true ∧ c.pend.length ≤ 64 ∧ c.rows.length + c.pend.length ≤ 1024 := by
  simp only [validC, headC, withinF, Bool.and_eq_true, decide_eq_true_eq] at h
  obtain ⟨⟨h1, h2, ⟨h3, h4⟩, h5, h6⟩, _⟩ := h
  exact ⟨h1, h2, validT_iff.1 h3, h4, h5, h6⟩
theorem valid_pend {c : CopyT} (h : validC c = true) : ∀ w ∈ c.pend, validW w.1 w.2.1 w.2.2 = true ∧ hasR c.rng w.1 = true := by
  simp only [validC, Bool.and_eq_true, List.all_eq_true, pendOk] at h
  exact h.2.1
theorem valid_rest {c : CopyT} (h : validC c = true) : partsC c = true ∧ tookC c = true := by
  simp only [validC, Bool.and_eq_true] at h
  exact h.2.2
theorem valid_of {c : CopyT} (h1 : validR' c.rng = true) (h2 : stampOk c.se c.sv = true) (h3 : TabOk c.rows) (h4 : inAll c.rng c.rows = true) (h5 : c.pend.length ≤ 64) (h6 : c.rows.length + c.pend.length ≤ 1024)
    (h7 : ∀ w ∈ c.pend, validW w.1 w.2.1 w.2.2 = true ∧ hasR c.rng w.1 = true) (h8 : partsC c = true) (h9 : tookC c = true) : validC c = true := by
  simp only [validC, headC, withinF, Bool.and_eq_true, decide_eq_true_eq, List.all_eq_true, pendOk]
  exact ⟨⟨h1, h2, ⟨validT_iff.2 h3, h4⟩, h5, h6⟩, h7, h8, h9⟩
theorem stamp_of {e v : Int} : stampOk e v = true ↔ (0 ≤ e ∧ e ≤ 1099511627776) ∧ 0 ≤ v ∧ v ≤ 1099511627776 := by
  simp only [stampOk, Bool.and_eq_true, decide_eq_true_eq]
  constructor
  · rintro ⟨⟨⟨h1, h2⟩, h3⟩, h4⟩; exact ⟨⟨h1, h2⟩, h3, h4⟩
  · rintro ⟨⟨h1, h2⟩, h3, h4⟩; exact ⟨⟨⟨h1, h2⟩, h3⟩, h4⟩
/-- a write to a table that is not full succeeds -/
theorem do_room {rows : List Row} {w : Wr} (h : TabOk rows) (hw : validW w.1 w.2.1 w.2.2 = true) (hl : rows.length < 1024) : (doF rows w).2 = 0 ∧ (doF rows w).1.length ≤ rows.length + 1 := by
  obtain ⟨k, v, d⟩ := w
  have hw' : validW k v d = true := hw
  unfold doF
  simp only [hw', Bool.not_true, Bool.false_eq_true, if_false]
  cases d with
  | true => exact ⟨rfl, Nat.le_trans without_len (by omega)⟩
  | false =>
    have hr := validW_row hw'
    have := (with_ok h hr).2.2
    simp only [Bool.false_eq_true, if_false]
    rw [putW_ok (validT_iff.2 h) hr (by omega)]
    exact ⟨rfl, this⟩
theorem do_mem {rows : List Row} {w : Wr} {r : Row} (hr : r ∈ (doF rows w).1) : r ∈ rows ∨ r.1 = w.1 := by
  obtain ⟨k, v, d⟩ := w
  unfold doF at hr
  split at hr
  · simp at hr
  · split at hr
    · exact .inl (without_ne hr).1
    · unfold putF at hr
      split at hr
      · simp at hr
      · split at hr
        · simp at hr
        · rcases ins_mem.1 hr with rfl | hr
          · exact .inr rfl
          · exact .inl (without_ne hr).1
theorem inAll_iff {r : Rng} {rows : List Row} : inAll r rows = true ↔ ∀ x ∈ rows, hasR r x.1 = true := by
  simp only [inAll, List.all_eq_true]
theorem inAll_do {r : Rng} {rows : List Row} {w : Wr} (h : inAll r rows = true) (hw : hasR r w.1 = true) : inAll r (doF rows w).1 = true := by
  rw [inAll_iff] at *
  intro x hx
  rcases do_mem hx with hx | hx
  · exact h x hx
  · rw [hx]; exact hw
theorem getD_mem {α : Type} [Inhabited α] {l : List α} {i : Nat} (h : i < l.length) : l.getD i default ∈ l := by
  rw [show l.getD i default = l[i] by simp [List.getD, h]]
  exact List.getElem_mem h
theorem apply_one {rows : List Row} {w : Wr} (h : validT rows = true) : applyF rows [w] = if (doF rows w).2 = 0 then ((doF rows w).1, 0) else ([], (doF rows w).2) := by
  rw [applyF, if_pos h]
  simp only [goF]
theorem commit_valid {c : CopyT} (h : validC c = true) (hp : c.pend.length ≠ 0) (hs : c.sv ≠ 1099511627776) :
    (doF c.rows (c.pend.getD 0 default)).2 = 0 ∧ validC { c with rows := (doF c.rows (c.pend.getD 0 default)).1, pend := c.pend.drop 1, sv := c.sv + 1 } = true := by
  obtain ⟨h1, h2, h3, h4, h5, h6⟩ := valid_head h
  have hm := getD_mem (l := c.pend) (i := 0) (by omega)
  obtain ⟨hw1, hw2⟩ := valid_pend h _ hm
  obtain ⟨hr1, hr2⟩ := do_room h3 hw1 (by omega)
  obtain ⟨hq1, hq2⟩ := valid_rest h
  refine ⟨hr1, valid_of h1 ?_ (do_tab h3 hr1) (inAll_do h4 hw2) ?_ ?_ ?_ hq1 hq2⟩
  · have := stamp_of.1 h2
    exact stamp_of.2 ⟨this.1, by simp only; omega, by simp only; omega⟩
  · simp only [List.length_drop]; omega
  · simp only [List.length_drop]; omega
  · intro w hw
    exact valid_pend h w (List.mem_of_mem_drop hw)
def settleC : Nat → CopyT → CopyT × Int
  | 0, c => (c, 0)
  | n + 1, c => if c.pend.length = 0 then (c, 0) else if (commitC c).2 = 0 then settleC n (commitC c).1 else (noCopy, (commitC c).2)
def settleF (c : CopyT) : CopyT × Int := if !(validC c) then (noCopy, 1) else settleC c.pend.length c
/-! Detach, Attach -/
def partR (c : CopyT) (bk : List UInt8) (bt : Bool) (side : Int) : Rng := if side = 0 then (c.lk, c.lt, bk, bt) else (bk, bt, c.hk, c.ht)
def restR (c : CopyT) (bk : List UInt8) (bt : Bool) (side : Int) : Rng := if side = 0 then (bk, bt, c.hk, c.ht) else (c.lk, c.lt, bk, bt)
def sliceR (rows : List Row) (r : Rng) : List Row := sliceF rows r.1 r.2.1 r.2.2.1 r.2.2.2
def detOk (c : CopyT) (bk : List UInt8) (bt : Bool) (side ser frm to_ : Int) : Bool :=
  validC c && (validB bk bt && ((side == 0 || side == 1) && (serOk ser && (numOk frm && (numOk to_ && !(frm == to_))))))
def quietC (c : CopyT) : Bool := decide (c.pend.length = 0) && (c.out.serial == 0 && (c.inn.serial == 0 && c.took == 0))
def detBad (c : CopyT) (bk : List UInt8) (bt : Bool) (side : Int) : Bool := decide (cmpB bk bt c.lk c.lt < 0) || (decide (cmpB bk bt c.hk c.ht > 0) || emptyR' (partR c bk bt side))
def detNew (c : CopyT) (bk : List UInt8) (bt : Bool) (side ser frm to_ : Int) : CopyT :=
  { c with out := ⟨ser, frm, to_, c.se, c.sv, (partR c bk bt side).1, (partR c bk bt side).2.1, (partR c bk bt side).2.2.1, (partR c bk bt side).2.2.2, sliceR c.rows (partR c bk bt side)⟩,
           lk := (restR c bk bt side).1, lt := (restR c bk bt side).2.1, hk := (restR c bk bt side).2.2.1, ht := (restR c bk bt side).2.2.2, rows := sliceR c.rows (restR c bk bt side) }
def detachC (c : CopyT) (bk : List UInt8) (bt : Bool) (side ser frm to_ : Int) : CopyT × Int :=
  if detOk c bk bt side ser frm to_ = false then (noCopy, 1) else if quietC c = false then (noCopy, 7) else if detBad c bk bt side = true then (noCopy, 2) else (detNew c bk bt side ser frm to_, 0)
def joinC (c : CopyT) (p : PartT) : CopyT × Int :=
  if validC c = false then (noCopy, 1) else if p.serial = 0 ∨ c.pend.length > 0 then (noCopy, 7)
  else if cmpB p.hk p.ht c.lk c.lt = 0 then (if c.rows.length + p.rows.length > 1024 then (noCopy, 16) else ({ c with lk := p.lk, lt := p.lt, rows := p.rows ++ c.rows }, 0))
  else if cmpB p.lk p.lt c.hk c.ht = 0 then (if c.rows.length + p.rows.length > 1024 then (noCopy, 16) else ({ c with hk := p.hk, ht := p.ht, rows := c.rows ++ p.rows }, 0))
  else (noCopy, 9)
def attachC (c : CopyT) : CopyT × Int := if (joinC c c.inn).2 = 0 then ({ (joinC c c.inn).1 with took := c.inn.serial, src := c.inn.src, inn := noPart }, 0) else (noCopy, (joinC c c.inn).2)
def reattachC (c : CopyT) : CopyT × Int := if (joinC c c.out).2 = 0 then ({ (joinC c c.out).1 with out := noPart }, 0) else (noCopy, (joinC c c.out).2)
theorem join_err {c : CopyT} {p : PartT} (h : ¬ (joinC c p).2 = 0) : (joinC c p).1 = noCopy := by
  unfold joinC at h ⊢
  repeat' split at h
  all_goals first
    | exact absurd rfl h
    | simp only [*, if_true, if_false, Bool.false_eq_true, Bool.true_eq_false, reduceCtorEq]
/-! which copies are the same -/
def sameRng (a b : Rng) : Bool := cmpB a.1 a.2.1 b.1 b.2.1 == 0 && cmpB a.2.2.1 a.2.2.2 b.2.2.1 b.2.2.2 == 0
def samePart (p q : PartT) : Bool := p.serial == q.serial && (p.serial == 0 || (p.src == q.src && (p.dst == q.dst && ((p.se == q.se && p.sv == q.sv) && (sameRng p.rng q.rng && sameF p.rows q.rows)))))
def sameC (a b : CopyT) : Bool := sameRng a.rng b.rng && ((a.se == b.se && a.sv == b.sv) && (a.took == b.took && (a.src == b.src && (sameF a.rows b.rows && (sameF a.pend b.pend && (samePart a.out b.out && samePart a.inn b.inn))))))
theorem sameRng_refl (a : Rng) : sameRng a a = true := by simp [sameRng, cmp_self]
theorem samePart_refl (p : PartT) : samePart p p = true := by simp [samePart, sameRng_refl, same_refl]
theorem sameC_refl (c : CopyT) : sameC c c = true := by simp [sameC, sameRng_refl, same_refl, samePart_refl]
/-- the part of a valid copy that is beside it -/
theorem part_valid {c : CopyT} (h : validC c = true) (p : PartT) (hp : p = c.out ∨ p = c.inn) (hs : ¬ p.serial = 0) : validPart p = true ∧ emptyR' (interR c.rng p.rng) = true := by
  have hq := (valid_rest h).1
  simp only [partsC, Bool.and_eq_true] at hq
  have : outsideF c.rng p = true := by
    rcases hp with rfl | rfl
    · exact hq.1
    · exact hq.2.1
  simp only [outsideF, Bool.or_eq_true, beq_iff_eq, Bool.and_eq_true] at this
  exact this.resolve_left hs
theorem validPart_range {p : PartT} (h : validPart p = true) : emptyR' p.rng = false ∧ p.rows.length ≤ 1024 := by
  simp only [validPart, withinF, Bool.and_eq_true, Bool.not_eq_true'] at h
  obtain ⟨_, _, _, _, _, h1, h2, _⟩ := h
  exact ⟨h1, validT_len h2⟩
/-- a part that ends where the range begins does not begin where the range ends -/
theorem not_both {c : CopyT} (h : validC c = true) {p : PartT} (hp : validPart p = true) (h1 : cmpB p.hk p.ht c.lk c.lt = 0) : ¬ cmpB p.lk p.lt c.hk c.ht = 0 := by
  intro h2
  obtain ⟨hv, _⟩ := valid_head h
  obtain ⟨he, _⟩ := validPart_range hp
  obtain ⟨g1, g2, g3⟩ := empty_false he
  simp only [validR', validR, Bool.and_eq_true, decide_eq_true_eq] at hv
  obtain ⟨⟨hv1, hv2⟩, hv3⟩ := hv
  have e1 := cmp_eq (a := (p.hk, p.ht)) (b := (c.lk, c.lt)) g2 hv1 h1
  have e2 := cmp_eq (a := (p.lk, p.lt)) (b := (c.hk, c.ht)) g1 hv2 h2
  simp only [Prod.mk.injEq] at e1 e2
  simp only [PartT.rng, CopyT.rng] at g3 hv3
  rw [e1.1, e1.2, e2.1, e2.2] at g3
  have := cmp_neg (c.hk, c.ht) (c.lk, c.lt)
  simp only [cmpBB] at this
  omega
theorem rows_empty {c : CopyT} (h : validC c = true) (he : cmpB c.lk c.lt c.hk c.ht = 0) : c.rows = [] := by
  obtain ⟨hv, _, _, ha, _⟩ := valid_head h
  cases hr : c.rows with
  | nil => rfl
  | cons r l =>
    rw [inAll_iff] at ha
    have := ha r (by rw [hr]; simp)
    simp only [hasR, containsR, emptyR, he, BEq.rfl, Bool.or_true, Bool.not_true, Bool.false_and] at this
    cases this
theorem row_app2 {α : Type} [Inhabited α] {enc : α → List D} {k n : Nat} {xs ys : List α} : RowLe n k (fun i j => if 0 + i < xs.length then cellOf enc xs (0 + i) j else cellOf enc ys (0 + i - xs.length) j) (cellOf enc (xs ++ ys)) := by
  refine .of_eq fun i j _ _ => ?_
  simp only [Nat.zero_add, cellOf]
  split
  · rename_i h; rw [getD_append_left h]
  · rename_i h; rw [getD_append_right h]
theorem row_app3 {α : Type} [Inhabited α] {enc : α → List D} {k n : Nat} {xs ys : List α} : RowLe n k (fun i j => if 0 + i < xs.length then cellOf enc xs (0 + i) j else cellOf enc ys (0 + (0 + i - xs.length)) j) (cellOf enc (xs ++ ys)) := by
  refine .of_eq fun i j _ _ => ?_
  simp only [Nat.zero_add, cellOf]
  split
  · rename_i h; rw [getD_append_left h]
  · rename_i h; rw [getD_append_right h]
theorem sub_keys {a b r : Rng} {n : Nat} (ha1 : a.1.length ≤ n) (ha : a.2.2.1.length ≤ n) (hb : b.2.2.1.length ≤ n) (h : r ∈ subR a b) : r.1.length ≤ n := by
  have hm : (interR a b).2.2.1.length ≤ n := by
    unfold interR
    split
    · simp [zeroR]
    · simp only [meetR, minB]
      split
      · exact hb
      · exact ha
  unfold subR at h
  split at h
  · simp at h
  · split at h
    · simp only [List.mem_cons, List.not_mem_nil, or_false] at h
      subst h; exact ha1
    · rcases List.mem_append.1 h with h | h
      · split at h
        · simp at h
        · simp only [List.mem_cons, List.not_mem_nil, or_false] at h
          subst h; exact ha1
      · split at h
        · simp at h
        · simp only [List.mem_cons, List.not_mem_nil, or_false] at h
          subst h; exact hm
end Go.Sx

namespace Go.Sx
open Go
set_option linter.unusedVariables false
set_option linter.unusedSimpArgs false

variable {P : Program} {G : Nat → Option (Nat × (Nat → D))}

/-- a new own slice may be taken for data -/
theorem Spec.pub1 {f : FuncId} {args : List SV} {m E sz n : Nat} {get : Nat → Nat → D} (h : Spec P G f args [] (.osl m sz 0 n) [(m, .row E sz n get)]) : Spec P G f args [] (.d (.list n sz get)) [] where
  keys := rfl
  apart := by intro n hn; simp [newP, keysP] at hn
  rnames := by intro n hn; simp [inS] at hn
  pnames := by intro n b m hn; simp at hn
  kind := by intro n b c hn; simp at hn
  enter := h.enter
  calls := by
    intro w I ρ vs hr hp hi hl hg
    refine Calls.mono (h.calls w I ρ vs hr hp hi hl hg) ?_
    rintro e w' ⟨v, I', ρ', rfl, ha⟩
    have hown := ha.own m (Blk.row E sz n get) (List.mem_singleton.2 rfl)
    have hres := ha.res
    simp only [RepS] at hres
    obtain ⟨h1, h2, h3, ad, rfl, h4⟩ := hres
    obtain ⟨k1, k2, k3, k4⟩ := hown
    have hnew : m ∈ newP ([] : List (Nat × Blk)) [(m, Blk.row E sz n get)] := by simp [newP, keysP]
    refine ⟨_, fun b => I' b ∨ (0 < (ρ' m).cap ∧ b = (ρ' m).b), ρ', rfl, ⟨fun n hn => by simp [keysP] at hn, ?_, fun n b hn => by simp at hn, fun b hb => .inl (ha.i0 b hb), ?_, ?_, ?_, fun n b hn => by simp at hn, fun n m b c hn => by simp at hn⟩⟩
    · simp only [RepS, RepD]
      refine ⟨ad, (ρ' m).cap - 0, rfl, by omega, fun hn => ?_⟩
      have hc : 0 < (ρ' m).cap := by omega
      have h5 := h4.resolve_right (by omega)
      obtain ⟨arr, g1, g2, g3⟩ := k4 hc
      refine ⟨(ρ' m).b, (ρ' m).o + 0 * sz, h5, .inr ⟨hc, rfl⟩, fun i j hi hj => ?_⟩
      obtain ⟨u, hu, hr⟩ := g3 i j (by omega) hj
      refine ⟨u, ?_, hr.mono (fun b hb => .inl hb) (fun _ _ _ => rfl)⟩
      rw [g1.cell]; simpa [Nat.add_assoc] using hu
    · rintro b (hb | ⟨hc, rfl⟩)
      · exact ha.i1 b hb
      · exact .inr (ha.sep m _ (List.mem_singleton.2 rfl) hnew hc).2
    · rintro b (hb | ⟨hc, rfl⟩)
      · exact ha.ilt b hb
      · obtain ⟨arr, g1, _⟩ := k4 hc
        exact g1.lt
    · exact ha.keep
end Go.Sx
