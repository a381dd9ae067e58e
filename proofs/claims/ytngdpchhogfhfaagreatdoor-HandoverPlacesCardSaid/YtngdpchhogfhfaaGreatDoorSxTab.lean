/- Part of a symbolic executor over the model, proved sound, with plain laws: SxTab. Written for these claims. -/
import Derived.Test.YtngdpchhogfhfaaGreatDoorSxArg
set_option linter.unusedVariables false
set_option linter.unusedSimpArgs false
namespace Go.Sx
open Go
def validB (k : List UInt8) (t : Bool) : Bool := decide ((k.length : Int) ≤ 64) && (!t || k == [])
def cmpB (ak : List UInt8) (at_ : Bool) (bk : List UInt8) (bt : Bool) : Int :=
  if at_ && bt then 0 else if at_ then 1 else if bt || Op.bytesLess ak bk then -1 else if Op.bytesLess bk ak then 1 else 0
def validR (lk : List UInt8) (lt : Bool) (hk : List UInt8) (ht : Bool) : Bool := validB lk lt && validB hk ht && decide (cmpB lk lt hk ht ≤ 0)
def emptyR (lk : List UInt8) (lt : Bool) (hk : List UInt8) (ht : Bool) : Bool := !(validR lk lt hk ht) || cmpB lk lt hk ht == 0
def containsR (lk : List UInt8) (lt : Bool) (hk : List UInt8) (ht : Bool) (k : List UInt8) : Bool :=
  !(emptyR lk lt hk ht) && decide ((k.length : Int) ≤ 64) && decide (cmpB lk lt k false ≤ 0) && decide (cmpB k false hk ht < 0)
abbrev Row := List UInt8 × List UInt8
def encRow (r : Row) : List D := [.str r.1, .str r.2]
def rowOk (r : Row) : Bool := decide ((r.1.length : Int) ≤ 64) && decide ((r.2.length : Int) ≤ 64)
def chkT (rows : List Row) (i : Nat) : Bool := rowOk (rows.getD i default) && (i == 0 || Op.bytesLess (rows.getD (i - 1) default).1 (rows.getD i default).1)
def validT (rows : List Row) : Bool := decide (rows.length ≤ 1024) && (List.range rows.length).all (chkT rows)
theorem validT_false {rows : List Row} {i : Nat} (hi : i < rows.length) (h : chkT rows i = false) : validT rows = false := by
  unfold validT
  cases h1 : (List.range rows.length).all (chkT rows) with
  | false => simp
  | true =>
    have := List.all_eq_true.1 h1 i (List.mem_range.2 hi)
    rw [h] at this
    cases this
theorem validT_true {rows : List Row} (hl : rows.length ≤ 1024) (h : ∀ i, i < rows.length → chkT rows i = true) : validT rows = true := by
  unfold validT
  rw [List.all_eq_true.2 (fun i hi => h i (List.mem_range.1 hi))]
  simp [hl]
def withoutF (rows : List Row) (k : List UInt8) : List Row := rows.filter fun r => !(r.1 == k)
theorem without_keep {rows : List Row} {k : List UInt8} {i : Nat} (h : i < rows.length) (hk : (!((rows.getD i default).1 == k)) = true) : withoutF (rows.take (i + 1)) k = withoutF (rows.take i) k ++ [rows.getD i default] := by
  rw [take_succ' h, withoutF, List.filter_append, List.filter_cons, if_pos hk, List.filter_nil]; rfl
theorem without_drop {rows : List Row} {k : List UInt8} {i : Nat} (h : i < rows.length) (hk : (!((rows.getD i default).1 == k)) = false) : withoutF (rows.take (i + 1)) k = withoutF (rows.take i) k := by
  rw [take_succ' h, withoutF, List.filter_append, List.filter_cons, if_neg (by rw [hk]; simp), List.filter_nil, List.append_nil]; rfl
def insF (x : Row) : List Row → List Row
  | [] => [x]
  | r :: l => if Op.bytesLess x.1 r.1 then x :: r :: l else r :: insF x l
def withF (rows : List Row) (x : Row) : List Row := insF x (withoutF rows x.1)
theorem without_len {rows : List Row} {k : List UInt8} : (withoutF rows k).length ≤ rows.length := List.length_filter_le _ _
theorem ins_len {x : Row} : ∀ {l : List Row}, (insF x l).length = l.length + 1
  | [] => rfl
  | r :: l => by
    simp only [insF]
    split
    · rfl
    · simp [ins_len (l := l)]
def putF (rows : List Row) (k v : List UInt8) : List Row × Int :=
  if !(validT rows) || !(validT [(k, v)]) then ([], 1) else if (withF rows (k, v)).length > 1024 then ([], 16) else (withF rows (k, v), 0)
theorem validT_len {rows : List Row} (h : validT rows = true) : rows.length ≤ 1024 := by
  simp only [validT, Bool.and_eq_true, decide_eq_true_eq] at h
  exact h.1
def Sorted (rows : List Row) : Prop := rows.Pairwise fun a b => Op.bytesLess a.1 b.1 = true
structure TabOk (rows : List Row) : Prop where
  len : rows.length ≤ 1024
  ok : ∀ r ∈ rows, rowOk r = true
  sorted : Sorted rows
theorem validT_iff {rows : List Row} : validT rows = true ↔ TabOk rows := by
  constructor
  · intro h
    simp only [validT, Bool.and_eq_true, decide_eq_true_eq, List.all_eq_true, List.mem_range] at h
    obtain ⟨h1, h2⟩ := h
    have ok : ∀ i (hi : i < rows.length), rowOk rows[i] = true ∧ (∀ j (hj : j + 1 = i), Op.bytesLess (rows[j]'(by omega)).1 rows[i].1 = true) := by
      intro i hi
      have := h2 i hi
      simp only [chkT, Bool.and_eq_true, Bool.or_eq_true, beq_iff_eq] at this
      refine ⟨by simpa [List.getD, hi] using this.1, fun j hj => ?_⟩
      subst hj
      have h3 := this.2.resolve_left (by omega)
      simpa [List.getD, hi, show j < rows.length by omega] using h3
    refine ⟨h1, fun r hr => ?_, ?_⟩
    · obtain ⟨i, hi, rfl⟩ := List.getElem_of_mem hr
      exact (ok i hi).1
    · rw [Sorted, List.pairwise_iff_getElem]
      intro i j hi hj hij
      induction j with
      | zero => omega
      | succ j ih =>
        have hs := (ok (j + 1) hj).2 j rfl
        rcases Nat.lt_or_ge i j with h | h
        · exact bl_trans (ih (by omega) h) hs
        · have : i = j := by omega
          subst this
          exact hs
  · intro h
    refine validT_true h.len (fun i hi => ?_)
    have h1 : rowOk (rows.getD i default) = true := by
      have e : rows.getD i default = rows[i] := by simp [List.getD, hi]
      rw [e]
      exact h.ok _ (List.getElem_mem hi)
    simp only [chkT, h1, Bool.true_and, Bool.or_eq_true, beq_iff_eq]
    rcases Nat.eq_zero_or_pos i with h0 | h0
    · exact .inl h0
    · right
      have := List.pairwise_iff_getElem.1 h.sorted (i - 1) i (by omega) hi (by omega)
      simpa [List.getD, hi, show i - 1 < rows.length by omega] using this
theorem Sorted.sub {l m : List Row} (h : Sorted m) (hs : l.Sublist m) : Sorted l := List.Pairwise.sublist hs h
theorem without_sub {rows : List Row} {k : List UInt8} : (withoutF rows k).Sublist rows := List.filter_sublist
theorem without_ne {rows : List Row} {k : List UInt8} {r : Row} (h : r ∈ withoutF rows k) : r ∈ rows ∧ r.1 ≠ k := by
  simp only [withoutF, List.mem_filter, Bool.not_eq_true', beq_eq_false_iff_ne, ne_eq] at h
  exact h
theorem ins_mem {x r : Row} : ∀ {l : List Row}, r ∈ insF x l ↔ r = x ∨ r ∈ l
  | [] => by simp [insF]
  | y :: l => by
    simp only [insF]
    split
    · simp
    · simp only [List.mem_cons, ins_mem (l := l)]
      constructor
      · rintro (h | h | h)
        · exact .inr (.inl h)
        · exact .inl h
        · exact .inr (.inr h)
      · rintro (h | h | h)
        · exact .inr (.inl h)
        · exact .inl h
        · exact .inr (.inr h)
theorem ins_sorted {x : Row} : ∀ {l : List Row}, Sorted l → (∀ r ∈ l, r.1 ≠ x.1) → Sorted (insF x l)
  | [], _, _ => by simp [insF, Sorted]
  | y :: l, h, hn => by
    simp only [Sorted, List.pairwise_cons] at h
    simp only [insF]
    split
    · rename_i hx
      simp only [Sorted, List.pairwise_cons]
      refine ⟨fun r hr => ?_, h⟩
      rcases List.mem_cons.1 hr with rfl | hr
      · exact hx
      · exact bl_trans hx (h.1 r hr)
    · rename_i hx
      have hx : Op.bytesLess x.1 y.1 = false := by simpa using hx
      have hyx : Op.bytesLess y.1 x.1 = true := by
        cases h2 : Op.bytesLess y.1 x.1 with
        | true => rfl
        | false => exact absurd (bl_tri h2 hx) (hn y (by simp))
      simp only [Sorted, List.pairwise_cons]
      refine ⟨fun r hr => ?_, ins_sorted h.2 (fun r hr => hn r (by simp [hr]))⟩
      rcases ins_mem.1 hr with rfl | hr
      · exact hyx
      · exact h.1 r hr
theorem with_ok {rows : List Row} {x : Row} (h : TabOk rows) (hx : rowOk x = true) : (∀ r ∈ withF rows x, rowOk r = true) ∧ Sorted (withF rows x) ∧ (withF rows x).length ≤ rows.length + 1 := by
  refine ⟨fun r hr => ?_, ?_, ?_⟩
  · rcases ins_mem.1 hr with rfl | hr
    · exact hx
    · exact h.ok r (without_ne hr).1
  · exact ins_sorted (h.sorted.sub without_sub) (fun r hr => (without_ne hr).2)
  · unfold withF
    rw [ins_len]
    have := without_len (rows := rows) (k := x.1)
    omega
theorem tabOk_nil : TabOk [] := ⟨by simp, by simp, .nil⟩
theorem validT_one {k v : List UInt8} : validT [(k, v)] = rowOk (k, v) := by
  simp [validT, chkT, List.range_succ]
theorem put_ok {rows : List Row} {k v : List UInt8} (h : TabOk rows) : TabOk (putF rows k v).1 ∧ (putF rows k v).1.length ≤ rows.length + 1 := by
  unfold putF
  split
  · exact ⟨tabOk_nil, by simp⟩
  · rename_i hv
    split
    · exact ⟨tabOk_nil, by simp⟩
    · rename_i hl
      simp only [Bool.or_eq_true, Bool.not_eq_true', not_or, Bool.not_eq_false, validT_one] at hv
      have hk := with_ok h hv.2
      exact ⟨⟨by simp only; omega, hk.1, hk.2.1⟩, hk.2.2⟩
theorem cmp_self {k : List UInt8} {t : Bool} : cmpB k t k t = 0 := by cases t <;> simp [cmpB, bl_irrefl]
/-- the lower bound of a range that is not empty is one of its keys -/
theorem keyIn_low {lk : List UInt8} {lt : Bool} {hk : List UInt8} {ht : Bool} (h : emptyR lk lt hk ht = false) : (lk.length : Int) ≤ 64 ∧ containsR lk lt hk ht lk = true := by
  have h0 := h
  simp only [emptyR, validR, validB, Bool.or_eq_false_iff, Bool.not_eq_false', Bool.and_eq_true, decide_eq_true_eq, beq_eq_false_iff_ne] at h
  obtain ⟨⟨⟨⟨h1, h2⟩, h3, h4⟩, h5⟩, h6⟩ := h
  have hlt : lt = false := by
    cases lt with
    | false => rfl
    | true =>
      exfalso
      cases ht with
      | true => exact h6 (by simp [cmpB])
      | false => simp [cmpB] at h5
  subst hlt
  refine ⟨h1, ?_⟩
  simp only [containsR, h0, Bool.not_false, Bool.true_and, Bool.and_eq_true, decide_eq_true_eq]
  exact ⟨⟨h1, by rw [cmp_self]; decide⟩, by omega⟩
abbrev Bnd := List UInt8 × Bool
abbrev Rng := List UInt8 × Bool × List UInt8 × Bool
def encBnd (b : Bnd) : List D := [.str b.1, .bool b.2]
def sliceF (rows : List Row) (lk : List UInt8) (lt : Bool) (hk : List UInt8) (ht : Bool) : List Row := rows.filter fun r => containsR lk lt hk ht r.1
theorem slice_keep {rows : List Row} {lk : List UInt8} {lt : Bool} {hk : List UInt8} {ht : Bool} {i : Nat} (h : i < rows.length) (hc : containsR lk lt hk ht (rows.getD i default).1 = true) : sliceF (rows.take (i + 1)) lk lt hk ht = sliceF (rows.take i) lk lt hk ht ++ [rows.getD i default] := by
  rw [take_succ' h, sliceF, List.filter_append, List.filter_cons, if_pos hc, List.filter_nil]; rfl
theorem slice_drop {rows : List Row} {lk : List UInt8} {lt : Bool} {hk : List UInt8} {ht : Bool} {i : Nat} (h : i < rows.length) (hc : containsR lk lt hk ht (rows.getD i default).1 = false) : sliceF (rows.take (i + 1)) lk lt hk ht = sliceF (rows.take i) lk lt hk ht := by
  rw [take_succ' h, sliceF, List.filter_append, List.filter_cons, if_neg (by rw [hc]; simp), List.filter_nil, List.append_nil]; rfl
theorem slice_len {rows : List Row} {lk : List UInt8} {lt : Bool} {hk : List UInt8} {ht : Bool} : (sliceF rows lk lt hk ht).length ≤ rows.length := List.length_filter_le _ _
theorem cmp_lt {ak : List UInt8} {a : Bool} {bk : List UInt8} {b : Bool} : cmpB ak a bk b < 0 ↔ (a = false ∧ (b = true ∨ Op.bytesLess ak bk = true)) := by
  unfold cmpB
  cases a <;> cases b <;> cases h : Op.bytesLess ak bk <;> simp
  split <;> omega
theorem cmp_le {ak : List UInt8} {a : Bool} {bk : List UInt8} {b : Bool} : cmpB ak a bk b ≤ 0 ↔ (b = true ∨ (a = false ∧ Op.bytesLess bk ak = false)) := by
  unfold cmpB
  cases a <;> cases b <;> cases h : Op.bytesLess ak bk <;> cases h2 : Op.bytesLess bk ak <;> simp
  exact absurd (bl_trans h h2) (by rw [bl_irrefl]; simp)
theorem cmp_le_not {ak : List UInt8} {a : Bool} {bk : List UInt8} {b : Bool} : cmpB ak a bk b ≤ 0 ↔ ¬ cmpB bk b ak a < 0 := by
  rw [cmp_le, cmp_lt]
  cases a <;> cases b <;> simp
end Go.Sx

namespace Go.Sx
open Go
structure FoldR where
  count : Int
  numbers : Int
  sum : Int
  low : Int
  high : Int
  first : List UInt8
  last : List UInt8
def numLoop (s : List UInt8) : Nat → Nat → Int → Option Int
  | 0, _, acc => some acc
  | f + 1, pos, acc => if pos < s.length then
      (if ((runeAt s pos).1 : Int) < 48 ∨ ((runeAt s pos).1 : Int) > 57 then none
       else
         if IntKind.i64.wrap (IntKind.i64.wrap (acc * 10) + IntKind.i64.wrap (IntKind.i32.wrap ((runeAt s pos).1 - 48))) > 1000000000000 then none
         else numLoop s f (pos + (runeAt s pos).2) (IntKind.i64.wrap (IntKind.i64.wrap (acc * 10) + IntKind.i64.wrap (IntKind.i32.wrap ((runeAt s pos).1 - 48)))))
    else some acc
def numTail (s : List UInt8) (neg : Bool) : Int × Bool :=
  if s = [] then (0, false)
  else if ((s.getD 0 0).toNat : Int) = 48 ∧ ((s.length : Int) > 1 ∨ neg = true) then (0, false)
  else match numLoop s s.length 0 0 with
    | none => (0, false)
    | some v => (if neg then IntKind.i64.wrap (0 - v) else v, true)
def number (l : List UInt8) : Int × Bool :=
  if (l.length : Int) > 0 ∧ ((l.getD 0 0).toNat : Int) = 45 then numTail (l.drop 1) true else numTail l false
abbrev cells (f : FoldR) : List SV := [.d (.int .i64 f.count), .d (.int .i64 f.numbers), .d (.int .i64 f.sum), .d (.int .i64 f.low), .d (.int .i64 f.high), .d (.str f.first), .d (.str f.last)]
def addF (f : FoldR) (k v : List UInt8) : FoldR :=
  if (number v).2 = true then
    { count := IntKind.i64.wrap (f.count + 1), first := if f.count = 0 then k else f.first, last := k, numbers := IntKind.i64.wrap (f.numbers + 1), sum := IntKind.i64.wrap (f.sum + (number v).1),
      low := if f.numbers = 0 ∨ (number v).1 < f.low then (number v).1 else f.low, high := if f.numbers = 0 ∨ (number v).1 > f.high then (number v).1 else f.high }
  else { count := IntKind.i64.wrap (f.count + 1), first := if f.count = 0 then k else f.first, last := k, numbers := f.numbers, sum := f.sum, low := f.low, high := f.high }
theorem refPre_drop {s : List UInt8} {i : Nat} (h : i < s.length) : s.drop i = s.getD i 0 :: s.drop (i + 1) := by
  rw [List.drop_eq_getElem_cons h]
  simp [List.getD, h]
def byteLoop : List UInt8 → Int → Option Int
  | [], acc => some acc
  | b :: l, acc => if (b.toNat : Int) < 48 ∨ (b.toNat : Int) > 57 then none else if acc * 10 + (b.toNat - 48) > 1000000000000 then none else byteLoop l (acc * 10 + (b.toNat - 48))
theorem wrap32_of {n : Int} (h1 : -2147483648 ≤ n) (h2 : n < 2147483648) : IntKind.i32.wrap n = n := by
  simp [IntKind.wrap, IntKind.bits, IntKind.signed]
  split <;> omega
theorem runeAt_low {s : List UInt8} {pos : Nat} (h : pos < s.length) (hb : (s.getD pos 0).toNat < 128) : runeAt s pos = ((s.getD pos 0).toNat, 1) := by
  have e : (s.getD pos 0) = (ByteArray.mk ⟨s⟩)[pos]'h := by simp [List.getD, h]; rfl
  rw [e] at hb ⊢
  exact decode_ascii ⟨⟨s⟩⟩ pos h hb
theorem runeAt_high {s : List UInt8} {pos : Nat} (h : pos < s.length) (hb : ¬ (s.getD pos 0).toNat < 128) : 128 ≤ (runeAt s pos).1 := by
  have e : (s.getD pos 0) = (ByteArray.mk ⟨s⟩)[pos]'h := by simp [List.getD, h]; rfl
  rw [e] at hb
  exact (decode_high ⟨⟨s⟩⟩ pos h (by omega)).1
theorem numLoop_bytes {s : List UInt8} : ∀ (f pos : Nat) (acc : Int), s.length ≤ pos + f → 0 ≤ acc → acc ≤ 1000000000000 → numLoop s f pos acc = byteLoop (s.drop pos) acc
  | 0, pos, acc, h, _, _ => by rw [List.drop_eq_nil_of_le (by omega)]; rfl
  | f + 1, pos, acc, h, h0, h1 => by
    by_cases hp : pos < s.length
    · rw [refPre_drop hp]
      by_cases hb : (s.getD pos 0).toNat < 128
      · simp only [numLoop, hp, if_true, runeAt_low hp hb, byteLoop]
        generalize (s.getD pos 0).toNat = b at *
        by_cases hd : (b : Int) < 48 ∨ (b : Int) > 57
        · simp only [hd, if_true]
        · simp only [hd, if_false]
          have w1 : IntKind.i64.wrap (acc * 10) = acc * 10 := wrap_of (by omega) (by omega)
          have w2 : IntKind.i32.wrap ((b : Int) - 48) = (b : Int) - 48 := wrap32_of (by omega) (by omega)
          have w3 : IntKind.i64.wrap ((b : Int) - 48) = (b : Int) - 48 := wrap_of (by omega) (by omega)
          have w4 : IntKind.i64.wrap (acc * 10 + ((b : Int) - 48)) = acc * 10 + ((b : Int) - 48) := wrap_of (by omega) (by omega)
          rw [w1, w2, w3, w4]
          by_cases hbig : acc * 10 + ((b : Int) - 48) > 1000000000000
          · simp only [hbig, if_true]
          · simp only [hbig, if_false]
            exact numLoop_bytes f (pos + 1) _ (by omega) (by omega) (by omega)
      · have hr := runeAt_high hp hb
        simp only [numLoop, hp, if_true, byteLoop]
        rw [if_pos (Or.inr (show ((runeAt s pos).1 : Int) > 57 by omega)), if_pos (Or.inr (show ((s.getD pos 0).toNat : Int) > 57 by omega))]
    · rw [List.drop_eq_nil_of_le (by omega)]
      simp only [numLoop, hp, if_false, byteLoop]
theorem numLoop_all (s : List UInt8) : numLoop s s.length 0 0 = byteLoop s 0 := by
  rw [numLoop_bytes s.length 0 0 (by omega) (by decide) (by decide)]; rfl
theorem byteLoop_low : ∀ {l : List UInt8} {acc v : Int}, byteLoop l acc = some v → 0 ≤ acc → acc * 10 ^ l.length ≤ v ∧ (acc ≤ 1000000000000 → v ≤ 1000000000000)
  | [], acc, v, h, _ => by
    simp only [byteLoop, Option.some.injEq] at h
    subst h
    simp
  | b :: l, acc, v, h, h0 => by
    simp only [byteLoop] at h
    split at h
    · cases h
    · rename_i hd
      split at h
      · cases h
      · rename_i hb
        obtain ⟨h1, h2⟩ := byteLoop_low h (by omega)
        refine ⟨?_, fun _ => h2 (by omega)⟩
        rw [List.length_cons, Int.pow_succ]
        have hp : (0 : Int) ≤ 10 ^ l.length := Int.pow_nonneg (by decide)
        have h3 : acc * 10 * 10 ^ l.length ≤ (acc * 10 + ((b.toNat : Int) - 48)) * 10 ^ l.length := Int.mul_le_mul_of_nonneg_right (by omega) hp
        have h4 : acc * (10 ^ l.length * 10) = acc * 10 * 10 ^ l.length := by rw [Int.mul_comm (10 ^ l.length) 10, Int.mul_assoc]
        rw [h4]
        omega
def foldZ : FoldR := ⟨0, 0, 0, 0, 0, [], []⟩
def foldOf (rows : List Row) : FoldR := rows.foldl (fun f r => addF f r.1 r.2) foldZ
def joinF (a b : FoldR) : FoldR :=
  { count := IntKind.i64.wrap (a.count + b.count), numbers := IntKind.i64.wrap (a.numbers + b.numbers), sum := IntKind.i64.wrap (a.sum + b.sum),
    low := if a.numbers = 0 then b.low else if b.numbers = 0 then a.low else if b.low < a.low then b.low else a.low,
    high := if a.numbers = 0 then b.high else if b.numbers = 0 then a.high else if b.high > a.high then b.high else a.high,
    first := if a.count = 0 then b.first else a.first, last := if b.count = 0 then a.last else b.last }
def oneF (k v : List UInt8) : FoldR :=
  if (number v).2 = true then ⟨1, 1, (number v).1, (number v).1, (number v).1, k, k⟩ else ⟨1, 0, 0, 0, 0, k, k⟩
def refOf (rows : List Row) : FoldR := rows.foldl (fun f r => joinF f (oneF r.1 r.2)) foldZ
structure FoldB (m : Nat) (f : FoldR) : Prop where
  c : f.count = m
  n1 : 0 ≤ f.numbers
  n2 : f.numbers ≤ m
  s1 : -(m * 1000000000000) ≤ f.sum
  s2 : f.sum ≤ m * 1000000000000
  l1 : -1000000000000 ≤ f.low
  l2 : f.low ≤ 1000000000000
  h1 : -1000000000000 ≤ f.high
  h2 : f.high ≤ 1000000000000
  z : f.numbers = 0 → f.sum = 0 ∧ f.low = 0 ∧ f.high = 0
  zc : f.count = 0 → f.first = [] ∧ f.last = []
theorem number_in (v : List UInt8) : -1000000000000 ≤ (number v).1 ∧ (number v).1 ≤ 1000000000000 := by
  have key : ∀ (s : List UInt8) (neg : Bool), -1000000000000 ≤ (numTail s neg).1 ∧ (numTail s neg).1 ≤ 1000000000000 := by
    intro s neg
    unfold numTail
    split
    · exact ⟨by decide, by decide⟩
    · split
      · exact ⟨by decide, by decide⟩
      · rw [numLoop_all]
        cases hv : byteLoop s 0 with
        | none => exact ⟨by simp, by simp⟩
        | some v =>
          obtain ⟨h1, h2⟩ := byteLoop_low hv (by decide)
          have h2 := h2 (by decide)
          simp only
          split
          · rw [wrap_of (by omega) (by omega)]; omega
          · omega
  unfold number
  split
  · exact key _ _
  · exact key _ _
theorem add_join {f : FoldR} {m : Nat} {k v : List UInt8} (hm : m ≤ 9000000) (h : FoldB m f) : addF f k v = joinF f (oneF k v) := by
  have hn := number_in v
  have h1 := h.n1
  have h2 := h.n2
  have h3 := h.s1
  have h4 := h.s2
  unfold addF joinF oneF
  by_cases hv : (number v).2 = true
  · simp only [hv, if_true]
    by_cases h0 : f.numbers = 0
    · simp [h0]
    · simp [h0]
  · simp only [hv, if_false, Bool.false_eq_true, if_true]
    have w1 : IntKind.i64.wrap (f.numbers + 0) = f.numbers := by rw [Int.add_zero]; exact wrap_of (by omega) (by omega)
    have w2 : IntKind.i64.wrap (f.sum + 0) = f.sum := by rw [Int.add_zero]; exact wrap_of (by omega) (by omega)
    rw [w1, w2]
    by_cases h0 : f.numbers = 0
    · simp [h0, h.z h0]
    · simp [h0]
theorem add_b {f : FoldR} {m : Nat} {k v : List UInt8} (hm : m < 9000000) (h : FoldB m f) : FoldB (m + 1) (addF f k v) := by
  have hn := number_in v
  obtain ⟨c, n1, n2, s1, s2, l1, l2, h1, h2, z, zc⟩ := h
  have wc : IntKind.i64.wrap (f.count + 1) = f.count + 1 := wrap_of (by omega) (by omega)
  have wn : IntKind.i64.wrap (f.numbers + 1) = f.numbers + 1 := wrap_of (by omega) (by omega)
  have ws : IntKind.i64.wrap (f.sum + (number v).1) = f.sum + (number v).1 := wrap_of (by omega) (by omega)
  unfold addF
  by_cases hv : (number v).2 = true
  · simp only [hv, if_true, wc, wn, ws]
    constructor <;> simp only <;> first | (intro hz; exfalso; omega) | omega | (split <;> omega)
  · simp only [hv, if_false, Bool.false_eq_true, wc]
    constructor <;> simp only <;> first | omega | exact z | (intro hz; exfalso; omega)
theorem foldOf_b : ∀ (rows : List Row) (m : Nat) (f : FoldR), FoldB m f → m + rows.length ≤ 9000000 →
    rows.foldl (fun f r => addF f r.1 r.2) f = rows.foldl (fun f r => joinF f (oneF r.1 r.2)) f ∧ FoldB (m + rows.length) (rows.foldl (fun f r => addF f r.1 r.2) f)
  | [], m, f, h, _ => ⟨rfl, h⟩
  | r :: rows, m, f, h, hm => by
    simp only [List.length_cons] at hm
    obtain ⟨h1, h2⟩ := foldOf_b rows (m + 1) (addF f r.1 r.2) (add_b (by omega) h) (by omega)
    simp only [List.foldl_cons, List.length_cons]
    rw [← add_join (by omega) h]
    rw [show m + (rows.length + 1) = m + 1 + rows.length by omega]
    exact ⟨h1, h2⟩
theorem foldZ_b : FoldB 0 foldZ := by constructor <;> simp [foldZ]
theorem of_eq {rows : List Row} (h : rows.length ≤ 9000000) : refOf rows = foldOf rows := (foldOf_b rows 0 foldZ foldZ_b (by omega)).1.symm
instance : Inhabited FoldR := ⟨foldZ⟩
end Go.Sx

namespace Go.Sx
open Go
theorem jlt3 {p : Nat → Prop} (h0 : p 0) (h1 : p 1) (h2 : p 2) : ∀ j, j < 3 → p j
  | 0, _ => h0
  | 1, _ => h1
  | 2, _ => h2
  | j + 3, h => absurd h (by omega)
theorem dle_lit {α : Type} [Inhabited α] {enc : α → List D} {n K k : Nat} {g : Nat → Nat → D} {L : List α} (hk : K = k) (hn : n = L.length) (h : RowLe n k g (cellOf enc L)) : DLe (.list n K g) (encL enc k L) := by
  subst hk
  subst hn
  exact DLe.rows rfl h
def placeF (rows : List Row) (k : List UInt8) (t : Bool) : Nat := (rows.takeWhile fun r => decide (cmpB r.1 false k t < 0)).length
theorem place_le {rows : List Row} {k : List UInt8} {t : Bool} : placeF rows k t ≤ rows.length := (List.takeWhile_sublist _).length_le
theorem cmp_mono {a b k : List UInt8} {t : Bool} (h : Op.bytesLess a b = true) (hb : cmpB b false k t < 0) : cmpB a false k t < 0 := by
  cases t with
  | true => simp [cmpB]
  | false =>
    have h1 : Op.bytesLess b k = true := by
      by_cases e : Op.bytesLess b k = true
      · exact e
      · exfalso
        simp only [cmpB, Bool.false_and, Bool.false_eq_true, if_false, Bool.false_or, e] at hb
        split at hb <;> omega
    have h2 := bl_trans h h1
    simp [cmpB, h2]
theorem place_iff {rows : List Row} {k : List UInt8} {t : Bool} (hs : Sorted rows) {i : Nat} (hi : i < rows.length) : i < placeF rows k t ↔ cmpB (rows.getD i default).1 false k t < 0 := by
  induction rows generalizing i with
  | nil => simp at hi
  | cons r l ih =>
    simp only [placeF, List.takeWhile_cons]
    have hs' := List.pairwise_cons.1 hs
    by_cases hr : cmpB r.1 false k t < 0
    · simp only [hr, decide_true, if_true, List.length_cons]
      cases i with
      | zero => simp [hr]
      | succ i =>
        have := ih hs'.2 (i := i) (by simpa using hi)
        simp only [placeF] at this
        simp only [List.getD_cons_succ]
        rw [← this]
        omega
    · simp only [hr, decide_false, Bool.false_eq_true, if_false, List.length_nil, Nat.not_lt_zero, false_iff]
      cases i with
      | zero => simpa using hr
      | succ i =>
        intro h
        have hi' : i < l.length := by simpa using hi
        have hm : l.getD i default ∈ l := by
          have e : l.getD i default = l[i] := by simp [List.getD, hi']
          rw [e]; exact List.getElem_mem hi'
        exact hr (cmp_mono (hs'.1 _ hm) (by simpa using h))
theorem cmp_low {a k : List UInt8} {t : Bool} : (cmpB a false k t < 0) ↔ (t = true ∨ Op.bytesLess a k = true) := by
  cases t with
  | true => simp [cmpB]
  | false =>
    simp only [cmpB, Bool.false_and, Bool.false_eq_true, if_false, Bool.false_or, false_or]
    split <;> rename_i h
    · simp [h]
    · simp only [h]
      split <;> simp
/-- the middle of two places -/
theorem mid_eq {i j : Nat} (hi : i ≤ 2000000000000) (hj : j ≤ 2000000000000) : IntKind.i64.wrap ((IntKind.u64.wrap (IntKind.i64.wrap ((i : Int) + (j : Int)))).fdiv (2 ^ min (Int.toNat 1) IntKind.u64.bits)) = (((i + j) / 2 : Nat) : Int) := by
  have e2 : IntKind.i64.wrap ((i : Int) + (j : Int)) = (i : Int) + (j : Int) := wrap_of (by omega) (by omega)
  have e1 : IntKind.u64.wrap ((i : Int) + (j : Int)) = ((i : Int) + (j : Int)) := by
    have e0 : ∀ n : Int, IntKind.u64.wrap n = n % 18446744073709551616 := fun n => rfl
    rw [e0]; omega
  rw [e2, e1, show (2 : Int) ^ min (Int.toNat 1) IntKind.u64.bits = 2 by decide, Int.fdiv_eq_ediv_of_nonneg _ (by omega), wrap_of (by omega) (by omega)]
  omega
abbrev Wr := List UInt8 × List UInt8 × Bool
def encWr (w : Wr) : List D := [.str w.1, .str w.2.1, .bool w.2.2]
def validW (k v : List UInt8) (d : Bool) : Bool := decide ((k.length : Int) ≤ 64) && decide ((v.length : Int) ≤ 64) && (!d || v == [])
def sameF {α : Type} [DecidableEq α] (a b : List α) : Bool := decide (a = b)
theorem same_true {α : Type} [DecidableEq α] [Inhabited α] {a b : List α} (hl : a.length = b.length) (h : ∀ i, i < a.length → a.getD i default = b.getD i default) : sameF a b = true := by
  rw [sameF, decide_eq_true_eq]
  apply List.ext_getElem hl
  intro i h1 h2
  have := h i h1
  simpa [List.getD, h1, h2] using this
theorem same_false {α : Type} [DecidableEq α] [Inhabited α] {a b : List α} {i : Nat} (h : ¬ a.getD i default = b.getD i default) : sameF a b = false := by
  rw [sameF, decide_eq_false_iff_not]
  rintro rfl
  exact h rfl
theorem same_len {α : Type} [DecidableEq α] {a b : List α} (h : ¬ a.length = b.length) : sameF a b = false := by
  rw [sameF, decide_eq_false_iff_not]
  rintro rfl
  exact h rfl
theorem same_refl {α : Type} [DecidableEq α] (a : List α) : sameF a a = true := by simp [sameF]
end Go.Sx

namespace Go.Sx
open Go
theorem place_app {rows : List Row} {k : List UInt8} (hs : Sorted rows) : ∃ A B, rows = A ++ B ∧ A.length = placeF rows k false ∧ (∀ r ∈ A, Op.bytesLess r.1 k = true) ∧ (∀ r ∈ B, Op.bytesLess r.1 k = false) := by
  induction rows with
  | nil => exact ⟨[], [], rfl, rfl, by simp, by simp⟩
  | cons r l ih =>
    have hs' := List.pairwise_cons.1 hs
    by_cases hr : Op.bytesLess r.1 k = true
    · obtain ⟨A, B, h1, h2, h3, h4⟩ := ih hs'.2
      have hc : cmpB r.1 false k false < 0 := cmp_low.2 (.inr hr)
      refine ⟨r :: A, B, by rw [h1]; rfl, ?_, ?_, h4⟩
      · simp only [placeF, List.takeWhile_cons, hc, decide_true, if_true, List.length_cons]
        rw [h2]; rfl
      · intro s hs
        rcases List.mem_cons.1 hs with rfl | hs
        · exact hr
        · exact h3 s hs
    · have hc : ¬ cmpB r.1 false k false < 0 := by
        rw [cmp_low]; simpa using hr
      refine ⟨[], r :: l, rfl, ?_, by simp, ?_⟩
      · simp only [placeF, List.takeWhile_cons, hc, decide_false, Bool.false_eq_true, if_false, List.length_nil]
      · intro s hs
        rcases List.mem_cons.1 hs with rfl | hs
        · simpa using hr
        · by_cases e : Op.bytesLess s.1 k = true
          · exact absurd (bl_trans (hs'.1 s hs) e) hr
          · simpa using e
theorem ins_app {x : Row} : ∀ {A B : List Row}, (∀ r ∈ A, Op.bytesLess r.1 x.1 = true) → (∀ r ∈ B, Op.bytesLess x.1 r.1 = true) → insF x (A ++ B) = A ++ x :: B
  | [], [], _, _ => rfl
  | [], b :: B, _, h => by simp [insF, h b (by simp)]
  | a :: A, B, h1, h2 => by
    have ha := bl_asymm (h1 a (by simp))
    simp only [List.cons_append, insF, ha, Bool.false_eq_true, if_false]
    rw [ins_app (fun r hr => h1 r (by simp [hr])) h2]
theorem without_app {A B : List Row} {k : List UInt8} : withoutF (A ++ B) k = withoutF A k ++ withoutF B k := by simp [withoutF]
theorem without_self {A : List Row} {k : List UInt8} (h : ∀ r ∈ A, r.1 ≠ k) : withoutF A k = A := by
  rw [withoutF, List.filter_eq_self]
  intro r hr
  simp [h r hr]
theorem bl_tot {a b : List UInt8} (h1 : Op.bytesLess a b = false) (h2 : a ≠ b) : Op.bytesLess b a = true := by
  by_cases h : Op.bytesLess b a = true
  · exact h
  · exact absurd (bl_tri h1 (by simpa using h)) h2
/-- the row with the key is there -/
theorem place_found {rows : List Row} {k v : List UInt8} (hs : Sorted rows) (hi : placeF rows k false < rows.length) (he : (rows.getD (placeF rows k false) default).1 = k) :
    withoutF rows k = rows.take (placeF rows k false) ++ rows.drop (placeF rows k false + 1) ∧ withF rows (k, v) = rows.take (placeF rows k false) ++ (k, v) :: rows.drop (placeF rows k false + 1) := by
  obtain ⟨A, B, h1, h2, h3, h4⟩ := place_app (k := k) hs
  rw [← h2] at hi he ⊢
  subst h1
  cases B with
  | nil => simp at hi
  | cons b B =>
    have hb : b.1 = k := by simpa [List.getD] using he
    have hA : ∀ r ∈ A, r.1 ≠ k := fun r hr e => by have := h3 r hr; rw [e, bl_irrefl] at this; cases this
    have hB : ∀ r ∈ B, Op.bytesLess k r.1 = true := fun r hr => by
      have := List.pairwise_append.1 hs
      rw [← hb]; exact (List.pairwise_cons.1 this.2.1).1 r hr
    have hB' : ∀ r ∈ B, r.1 ≠ k := fun r hr e => by have := hB r hr; rw [e, bl_irrefl] at this; cases this
    have e1 : withoutF (A ++ b :: B) k = A ++ B := by
      rw [show A ++ b :: B = A ++ ([b] ++ B) by simp, without_app, without_app, without_self hA, without_self hB']
      simp [withoutF, hb]
    have e2 : (A ++ b :: B).drop (A.length + 1) = B := by
      rw [show A ++ b :: B = (A ++ [b]) ++ B by simp, List.drop_append_of_le_length (by simp)]
      simp
    rw [e1, e2, List.take_left]
    exact ⟨rfl, by rw [withF, e1]; exact ins_app h3 hB⟩
/-- no row has the key -/
theorem place_new {rows : List Row} {k v : List UInt8} (hs : Sorted rows) (he : ¬ (placeF rows k false < rows.length ∧ (rows.getD (placeF rows k false) default).1 = k)) :
    withoutF rows k = rows ∧ withF rows (k, v) = rows.take (placeF rows k false) ++ (k, v) :: rows.drop (placeF rows k false) := by
  obtain ⟨A, B, h1, h2, h3, h4⟩ := place_app (k := k) hs
  rw [← h2] at he ⊢
  subst h1
  have hA : ∀ r ∈ A, r.1 ≠ k := fun r hr e => by have := h3 r hr; rw [e, bl_irrefl] at this; cases this
  have hB : ∀ r ∈ B, Op.bytesLess k r.1 = true := by
    cases B with
    | nil => simp
    | cons b B =>
      have hb : b.1 ≠ k := fun e => he ⟨by simp, by simpa [List.getD] using e⟩
      have hb1 := bl_tot (h4 b (by simp)) hb
      have := (List.pairwise_cons.1 (List.pairwise_append.1 hs).2.1).1
      intro r hr
      rcases List.mem_cons.1 hr with rfl | hr
      · exact hb1
      · exact bl_trans hb1 (this r hr)
  have hB' : ∀ r ∈ B, r.1 ≠ k := fun r hr e => by have := hB r hr; rw [e, bl_irrefl] at this; cases this
  have e1 : withoutF (A ++ B) k = A ++ B := by rw [without_app, without_self hA, without_self hB']
  rw [List.take_left, List.drop_left]
  exact ⟨e1, by rw [withF, e1]; exact ins_app h3 hB⟩
theorem getD_cut {α : Type} [Inhabited α] {l : List α} {p q i : Nat} (hp : p ≤ l.length) : (l.take p ++ l.drop q).getD i default = if i < p then l.getD i default else l.getD (q + (i - p)) default := by
  simp only [List.getD_eq_getElem?_getD]
  have hl : (l.take p).length = p := by simp; omega
  by_cases h : i < p
  · rw [if_pos h, List.getElem?_append_left (by omega), List.getElem?_take, if_pos h]
  · rw [if_neg h, List.getElem?_append_right (by omega), hl, List.getElem?_drop]
theorem getD_ins {α : Type} [Inhabited α] {l : List α} {x : α} {p q i : Nat} (hp : p ≤ l.length) : (l.take p ++ x :: l.drop q).getD i default = if i < p then l.getD i default else if i = p then x else l.getD (q + (i - p - 1)) default := by
  simp only [List.getD_eq_getElem?_getD]
  have hl : (l.take p).length = p := by simp; omega
  by_cases h : i < p
  · rw [if_pos h, List.getElem?_append_left (by omega), List.getElem?_take, if_pos h]
  · rw [if_neg h, List.getElem?_append_right (by omega), hl]
    by_cases e : i = p
    · rw [if_pos e, e, Nat.sub_self]; rfl
    · rw [if_neg e, show i - p = (i - p - 1) + 1 by omega, List.getElem?_cons_succ, List.getElem?_drop]
      rw [show i - p - 1 + 1 - 1 = i - p - 1 by omega]
theorem RowLe.allD {len sz : Nat} {get get' : Nat → Nat → D} (h : AllLt (fun i => AllLt (fun j => DLe (get i j) (get' i j)) sz) len) : RowLe len sz get get' :=
  ⟨fun i j hi hj => (h.out i hi).out j hj⟩
end Go.Sx

namespace Go.Sx
open Go
end Go.Sx

namespace Go.Sx
open Go
theorem putW_full {rows : List Row} {k v : List UInt8} (h1 : validT rows = true) (h2 : rowOk (k, v) = true) (h : (withF rows (k, v)).length > 1024) : putF rows k v = ([], 16) := by
  unfold putF
  rw [validT_one]
  simp [h1, h2, h]
theorem putW_ok {rows : List Row} {k v : List UInt8} (h1 : validT rows = true) (h2 : rowOk (k, v) = true) (h : ¬ (withF rows (k, v)).length > 1024) : putF rows k v = (withF rows (k, v), 0) := by
  unfold putF
  rw [validT_one]
  simp [h1, h2, h]
def doF (rows : List Row) (w : Wr) : List Row × Int :=
  if !(validW w.1 w.2.1 w.2.2) then ([], 1) else if w.2.2 then (withoutF rows w.1, 0) else putF rows w.1 w.2.1
def goF : List Row → List Wr → List Row × Int
  | rows, [] => (rows, 0)
  | rows, w :: ws => if (doF rows w).2 = 0 then goF (doF rows w).1 ws else ([], (doF rows w).2)
def applyF (rows : List Row) (ws : List Wr) : List Row × Int := if validT rows then goF rows ws else ([], 1)
theorem validW_row {k v : List UInt8} {d : Bool} (h : validW k v d = true) : rowOk (k, v) = true := by
  simp only [validW, rowOk, Bool.and_eq_true] at h ⊢
  exact h.1
theorem do_tab {rows : List Row} {w : Wr} (h : TabOk rows) (he : (doF rows w).2 = 0) : TabOk (doF rows w).1 := by
  obtain ⟨k, v, d⟩ := w
  unfold doF at he ⊢
  by_cases hw : validW k v d = true
  · simp only [hw, Bool.not_true, Bool.false_eq_true, if_false] at he ⊢
    cases d with
    | true => exact ⟨Nat.le_trans without_len h.len, fun r hr => h.ok r (without_ne hr).1, h.sorted.sub without_sub⟩
    | false =>
      simp only [Bool.false_eq_true, if_false] at he ⊢
      have hr := validW_row hw
      by_cases hl : (withF rows (k, v)).length > 1024
      · rw [putW_full (validT_iff.2 h) hr hl] at he; cases he
      · rw [putW_ok (validT_iff.2 h) hr hl]
        obtain ⟨h1, h2, _⟩ := with_ok h hr
        exact ⟨by simp only; omega, h1, h2⟩
  · simp [hw] at he
theorem go_step {rows : List Row} {ws : List Wr} {i : Nat} (h : i < ws.length) : goF rows (ws.drop i) = if (doF rows (ws.getD i default)).2 = 0 then goF (doF rows (ws.getD i default)).1 (ws.drop (i + 1)) else ([], (doF rows (ws.getD i default)).2) := by
  have e : ws.drop i = ws.getD i default :: ws.drop (i + 1) := by
    rw [List.drop_eq_getElem_cons h]
    simp [List.getD, h]
  rw [e, goF]
theorem do_bad {r : List Row} {k v : List UInt8} {d : Bool} (h : validW k v d = false) : doF r (k, v, d) = ([], 1) := by simp [doF, h]
theorem do_gone {r : List Row} {k v : List UInt8} (hs : Sorted r) (hw : validW k v true = true) (hi : placeF r k false < r.length) (he : (r.getD (placeF r k false) default).1 = k) : doF r (k, v, true) = (r.take (placeF r k false) ++ r.drop (placeF r k false + 1), 0) := by
  simp [doF, hw, (place_found (v := v) hs hi he).1]
theorem do_same {r : List Row} {k v : List UInt8} (hs : Sorted r) (hw : validW k v true = true) (he : ¬ (placeF r k false < r.length ∧ (r.getD (placeF r k false) default).1 = k)) : doF r (k, v, true) = (r, 0) := by
  simp [doF, hw, (place_new (v := v) hs he).1]
theorem do_set {r : List Row} {k v : List UInt8} (ht : TabOk r) (hw : validW k v false = true) (hi : placeF r k false < r.length) (he : (r.getD (placeF r k false) default).1 = k) : doF r (k, v, false) = (r.take (placeF r k false) ++ (k, v) :: r.drop (placeF r k false + 1), 0) := by
  have e := (place_found (v := v) ht.sorted hi he).2
  have hl := ht.len
  have : putF r k v = (withF r (k, v), 0) := putW_ok (validT_iff.2 ht) (validW_row hw) (by rw [e]; simp only [List.length_append, List.length_take, List.length_cons, List.length_drop]; omega)
  simp [doF, hw, this, e]
theorem do_full {r : List Row} {k v : List UInt8} (ht : TabOk r) (hw : validW k v false = true) (he : ¬ (placeF r k false < r.length ∧ (r.getD (placeF r k false) default).1 = k)) (hl : r.length = 1024) : doF r (k, v, false) = ([], 16) := by
  have e := (place_new (v := v) ht.sorted he).2
  have : putF r k v = ([], 16) := putW_full (validT_iff.2 ht) (validW_row hw) (by rw [e]; simp only [List.length_append, List.length_take, List.length_cons, List.length_drop]; have := place_le (rows := r) (k := k) (t := false); omega)
  simp [doF, hw, this]
theorem do_add {r : List Row} {k v : List UInt8} (ht : TabOk r) (hw : validW k v false = true) (he : ¬ (placeF r k false < r.length ∧ (r.getD (placeF r k false) default).1 = k)) (hl : ¬ r.length = 1024) : doF r (k, v, false) = (r.take (placeF r k false) ++ (k, v) :: r.drop (placeF r k false), 0) := by
  have e := (place_new (v := v) ht.sorted he).2
  have h1 := ht.len
  have : putF r k v = (withF r (k, v), 0) := putW_ok (validT_iff.2 ht) (validW_row hw) (by rw [e]; simp only [List.length_append, List.length_take, List.length_cons, List.length_drop]; omega)
  simp [doF, hw, this, e]
theorem dw_bad {r : List Row} {w : Wr} (h : validW w.1 w.2.1 w.2.2 = false) : doF r w = ([], 1) := do_bad h
theorem dw_gone {r : List Row} {w : Wr} (ht : TabOk r) (hd : w.2.2 = true) (hw : validW w.1 w.2.1 w.2.2 = true) (hi : placeF r w.1 false < r.length) (he : (r.getD (placeF r w.1 false) default).1 = w.1) : doF r w = (r.take (placeF r w.1 false) ++ r.drop (placeF r w.1 false + 1), 0) := by
  obtain ⟨k, v, d⟩ := w
  simp only at hd; subst hd
  exact do_gone ht.sorted hw hi he
theorem dw_same {r : List Row} {w : Wr} (ht : TabOk r) (hd : w.2.2 = true) (hw : validW w.1 w.2.1 w.2.2 = true) (he : ¬ (placeF r w.1 false < r.length ∧ (r.getD (placeF r w.1 false) default).1 = w.1)) : doF r w = (r, 0) := by
  obtain ⟨k, v, d⟩ := w
  simp only at hd; subst hd
  exact do_same ht.sorted hw he
theorem dw_set {r : List Row} {w : Wr} (ht : TabOk r) (hd : w.2.2 = false) (hw : validW w.1 w.2.1 w.2.2 = true) (hi : placeF r w.1 false < r.length) (he : (r.getD (placeF r w.1 false) default).1 = w.1) : doF r w = (r.take (placeF r w.1 false) ++ (w.1, w.2.1) :: r.drop (placeF r w.1 false + 1), 0) := by
  obtain ⟨k, v, d⟩ := w
  simp only at hd; subst hd
  exact do_set ht hw hi he
theorem dw_full {r : List Row} {w : Wr} (ht : TabOk r) (hd : w.2.2 = false) (hw : validW w.1 w.2.1 w.2.2 = true) (he : ¬ (placeF r w.1 false < r.length ∧ (r.getD (placeF r w.1 false) default).1 = w.1)) (hl : r.length = 1024) : doF r w = ([], 16) := by
  obtain ⟨k, v, d⟩ := w
  simp only at hd; subst hd
  exact do_full ht hw he hl
theorem dw_add {r : List Row} {w : Wr} (ht : TabOk r) (hd : w.2.2 = false) (hw : validW w.1 w.2.1 w.2.2 = true) (he : ¬ (placeF r w.1 false < r.length ∧ (r.getD (placeF r w.1 false) default).1 = w.1)) (hl : ¬ r.length = 1024) : doF r w = (r.take (placeF r w.1 false) ++ (w.1, w.2.1) :: r.drop (placeF r w.1 false), 0) := by
  obtain ⟨k, v, d⟩ := w
  simp only at hd; subst hd
  exact do_add ht hw he hl
theorem row_set {r : List Row} {p n : Nat} {x : Row} (hp : p ≤ r.length) (he : (r.getD p default).1 = x.1) : RowLe n 2 (fun i' j' => if i' = p then if j' < 1 then cellOf encRow r i' j' else if j' < 1 + [D.str x.2].length then [D.str x.2].getD (j' - 1) default else cellOf encRow r i' j' else cellOf encRow r i' j') (cellOf encRow (r.take p ++ x :: r.drop (p + 1))) := by
  refine .of_eq fun a j _ hj => ?_
  simp only [cellOf, getD_ins hp]
  rcases Nat.lt_trichotomy a p with h | h | h
  · rw [if_neg (by omega), if_pos h]
  · subst h
    simp only [if_true, Nat.lt_irrefl, if_false]
    refine jlt2 (p := fun j => (if j < 1 then (encRow (r.getD a default)).getD j default else if j < 1 + [D.str x.2].length then [D.str x.2].getD (j - 1) default else (encRow (r.getD a default)).getD j default) = (encRow x).getD j default) ?_ rfl j hj
    show D.str (r.getD a default).1 = D.str x.1
    rw [he]
  · rw [if_neg (by omega), if_neg (by omega), if_neg (by omega), show p + 1 + (a - p - 1) = a by omega]
theorem row_add {r : List Row} {p n : Nat} {x : Row} (hp : p ≤ r.length) (hn : n = r.length + 1) : RowLe n 2 (fun i' j' => if i' = p then (if j' < 0 then (if p + 1 ≤ i' ∧ i' < p + 1 + min (((r.length + 1 : Nat) : Int) - (p : Int)).toNat (((r.length + 1 : Nat) : Int) - ((p + 1 : Nat) : Int)).toNat then (if p + (i' - (p + 1)) < r.length then cellOf encRow r (p + (i' - (p + 1))) j' else tabF (fun x j => [D.str [], D.str []].getD j default) [(0, [D.str [], D.str []])] (p + (i' - (p + 1)) - r.length) j') else (if i' < r.length then cellOf encRow r i' j' else tabF (fun x j => [D.str [], D.str []].getD j default) [(0, [D.str [], D.str []])] (i' - r.length) j')) else if j' < [D.str x.1, D.str x.2].length then [D.str x.1, D.str x.2].getD (j' - 0) default else (if p + 1 ≤ i' ∧ i' < p + 1 + min (((r.length + 1 : Nat) : Int) - (p : Int)).toNat (((r.length + 1 : Nat) : Int) - ((p + 1 : Nat) : Int)).toNat then (if p + (i' - (p + 1)) < r.length then cellOf encRow r (p + (i' - (p + 1))) j' else tabF (fun x j => [D.str [], D.str []].getD j default) [(0, [D.str [], D.str []])] (p + (i' - (p + 1)) - r.length) j') else (if i' < r.length then cellOf encRow r i' j' else tabF (fun x j => [D.str [], D.str []].getD j default) [(0, [D.str [], D.str []])] (i' - r.length) j'))) else (if p + 1 ≤ i' ∧ i' < p + 1 + min (((r.length + 1 : Nat) : Int) - (p : Int)).toNat (((r.length + 1 : Nat) : Int) - ((p + 1 : Nat) : Int)).toNat then (if p + (i' - (p + 1)) < r.length then cellOf encRow r (p + (i' - (p + 1))) j' else tabF (fun x j => [D.str [], D.str []].getD j default) [(0, [D.str [], D.str []])] (p + (i' - (p + 1)) - r.length) j') else (if i' < r.length then cellOf encRow r i' j' else tabF (fun x j => [D.str [], D.str []].getD j default) [(0, [D.str [], D.str []])] (i' - r.length) j'))) (cellOf encRow (r.take p ++ x :: r.drop p)) := by
  subst hn
  refine .of_eq fun a j ha hj => ?_
  simp only [cellOf, getD_ins hp]
  rcases Nat.lt_trichotomy a p with h | h | h
  · rw [if_neg (by omega), if_neg (by omega), if_pos (by omega), if_pos h]
  · rw [if_pos h, if_neg (by omega), if_pos (by simpa using hj), if_neg (by omega), if_pos h]
    exact jlt2 (p := fun j => [D.str x.1, D.str x.2].getD (j - 0) default = (encRow x).getD j default) rfl rfl j hj
  · rw [if_neg (by omega), if_pos (by omega), if_pos (by omega), if_neg (by omega), if_neg (by omega), show p + (a - (p + 1)) = p + (a - p - 1) by omega]
end Go.Sx

namespace Go.Sx
open Go
def emptyR' (r : Rng) : Bool := emptyR r.1 r.2.1 r.2.2.1 r.2.2.2
def validR' (r : Rng) : Bool := validR r.1 r.2.1 r.2.2.1 r.2.2.2
def hasR (r : Rng) (k : List UInt8) : Bool := containsR r.1 r.2.1 r.2.2.1 r.2.2.2 k
def cmpBB (a b : Bnd) : Int := cmpB a.1 a.2 b.1 b.2
def maxB (a b : Bnd) : Bnd := if cmpBB b a > 0 then b else a
def minB (a b : Bnd) : Bnd := if cmpBB b a < 0 then b else a
def zeroR : Rng := ([], false, [], false)
def meetR (a b : Rng) : Rng :=
  let lo := maxB (a.1, a.2.1) (b.1, b.2.1)
  let hi := minB (a.2.2.1, a.2.2.2) (b.2.2.1, b.2.2.2)
  (lo.1, lo.2, hi.1, hi.2)
def interR (a b : Rng) : Rng := if emptyR' a || emptyR' b || emptyR' (meetR a b) then zeroR else meetR a b
theorem cmp_neg (a b : Bnd) : cmpBB b a = -(cmpBB a b) := by
  obtain ⟨ak, at_⟩ := a
  obtain ⟨bk, bt⟩ := b
  simp only [cmpBB, cmpB]
  cases at_ <;> cases bt <;> cases h : Op.bytesLess ak bk <;> cases h2 : Op.bytesLess bk ak <;> simp
  exact absurd (bl_trans h h2) (by rw [bl_irrefl]; simp)
theorem cmp_eq {a b : Bnd} (ha : validB a.1 a.2 = true) (hb : validB b.1 b.2 = true) (h : cmpBB a b = 0) : a = b := by
  obtain ⟨ak, at_⟩ := a
  obtain ⟨bk, bt⟩ := b
  simp only [cmpBB, cmpB, validB, Bool.and_eq_true, decide_eq_true_eq] at *
  cases at_ <;> cases bt <;> simp at h ha hb ⊢
  · have h1 : Op.bytesLess ak bk = false := by
      cases e : Op.bytesLess ak bk with
      | false => rfl
      | true => rw [e] at h; simp at h
    have h2 : Op.bytesLess bk ak = false := by
      cases e : Op.bytesLess bk ak with
      | false => rfl
      | true => rw [e, h1] at h; simp at h
    exact bl_tri h1 h2
  · rw [ha.2, hb.2]
theorem empty_false {r : Rng} (h : emptyR' r = false) : validB r.1 r.2.1 = true ∧ validB r.2.2.1 r.2.2.2 = true ∧ cmpB r.1 r.2.1 r.2.2.1 r.2.2.2 < 0 := by
  simp only [emptyR', emptyR, validR, Bool.or_eq_false_iff, Bool.not_eq_false', Bool.and_eq_true, decide_eq_true_eq, beq_eq_false_iff_ne, ne_eq] at h
  obtain ⟨⟨⟨h1, h2⟩, h3⟩, h4⟩ := h
  exact ⟨h1, h2, by omega⟩
theorem maxB_comm {a b : Bnd} (ha : validB a.1 a.2 = true) (hb : validB b.1 b.2 = true) : maxB a b = maxB b a := by
  unfold maxB
  rw [cmp_neg a b]
  by_cases h : cmpBB a b = 0
  · rw [cmp_eq ha hb h]; simp
  · by_cases h1 : cmpBB a b < 0
    · rw [if_pos (by omega), if_neg (by omega)]
    · rw [if_neg (by omega), if_pos (by omega)]
theorem minB_comm {a b : Bnd} (ha : validB a.1 a.2 = true) (hb : validB b.1 b.2 = true) : minB a b = minB b a := by
  unfold minB
  rw [cmp_neg a b]
  by_cases h : cmpBB a b = 0
  · rw [cmp_eq ha hb h]; simp
  · by_cases h1 : cmpBB a b < 0
    · rw [if_neg (by omega), if_pos (by omega)]
    · rw [if_pos (by omega), if_neg (by omega)]
theorem interR_comm (a b : Rng) : interR a b = interR b a := by
  unfold interR
  cases ha : emptyR' a with
  | true => simp
  | false =>
    cases hb : emptyR' b with
    | true => simp
    | false =>
      obtain ⟨a1, a2, _⟩ := empty_false ha
      obtain ⟨b1, b2, _⟩ := empty_false hb
      have e : meetR a b = meetR b a := by
        simp only [meetR]
        rw [maxB_comm (a := (a.1, a.2.1)) (b := (b.1, b.2.1)) a1 b1, minB_comm (a := (a.2.2.1, a.2.2.2)) (b := (b.2.2.1, b.2.2.2)) a2 b2]
      rw [e]
theorem all_true {α : Type} [Inhabited α] {l : List α} {p : α → Bool} (h : ∀ j, j < l.length → p (l.getD j default) = true) : l.all p = true := by
  rw [List.all_eq_true]
  intro x hx
  obtain ⟨j, hj, rfl⟩ := List.getElem_of_mem hx
  have := h j hj
  rwa [show l.getD j default = l[j] by simp [List.getD, hj]] at this
theorem all_false {α : Type} [Inhabited α] {l : List α} {p : α → Bool} {i : Nat} (hi : i < l.length) (h : p (l.getD i default) = false) : l.all p = false := by
  cases e : l.all p with
  | false => rfl
  | true =>
    have := List.all_eq_true.1 e _ (List.getElem_mem hi)
    rw [show l.getD i default = l[i] by simp [List.getD, hi]] at h
    rw [h] at this
    cases this
def numOk (n : Int) : Bool := decide (1 ≤ n) && decide (n ≤ 2147483647)
def serOk (n : Int) : Bool := decide (1 ≤ n) && decide (n ≤ 1099511627776)
def stampOk (e v : Int) : Bool := decide (0 ≤ e) && decide (e ≤ 1099511627776) && decide (0 ≤ v) && decide (v ≤ 1099511627776)
theorem ser_of {n : Int} (h0 : (n == 0) = false) (h1 : ¬ n < 0) (h2 : ¬ n > 1099511627776) : serOk n = true := by
  simp only [beq_eq_false_iff_ne, ne_eq] at h0
  simp only [serOk, Bool.and_eq_true, decide_eq_true_eq]
  omega
theorem ser_not {n : Int} (h : n < 0 ∨ n > 1099511627776) : serOk n = false := by
  simp only [serOk, Bool.and_eq_false_iff, decide_eq_false_iff_not]
  omega
structure PartT where
  serial : Int
  src : Int
  dst : Int
  se : Int
  sv : Int
  lk : List UInt8
  lt : Bool
  hk : List UInt8
  ht : Bool
  rows : List Row
instance : Inhabited PartT := ⟨⟨0, 0, 0, 0, 0, [], false, [], false, []⟩⟩
structure CopyT where
  lk : List UInt8
  lt : Bool
  hk : List UInt8
  ht : Bool
  se : Int
  sv : Int
  rows : List Row
  pend : List Wr
  out : PartT
  inn : PartT
  took : Int
  src : Int
instance : Inhabited CopyT := ⟨⟨[], false, [], false, 0, 0, [], [], default, default, 0, 0⟩⟩
def noPart : PartT := ⟨0, 0, 0, 0, 0, [], false, [], false, []⟩
def noCopy : CopyT := ⟨[], false, [], false, 0, 0, [], [], noPart, noPart, 0, 0⟩
abbrev PartT.rng (p : PartT) : Rng := (p.lk, p.lt, p.hk, p.ht)
abbrev CopyT.rng (c : CopyT) : Rng := (c.lk, c.lt, c.hk, c.ht)
def encCopy (c : CopyT) : List D := [.str c.lk, .bool c.lt, .str c.hk, .bool c.ht, .int .i64 c.se, .int .i64 c.sv, encL encRow 2 c.rows, encL encWr 3 c.pend,
  .int .i64 c.out.serial, .int .i64 c.out.src, .int .i64 c.out.dst, .int .i64 c.out.se, .int .i64 c.out.sv, .str c.out.lk, .bool c.out.lt, .str c.out.hk, .bool c.out.ht, encL encRow 2 c.out.rows,
  .int .i64 c.inn.serial, .int .i64 c.inn.src, .int .i64 c.inn.dst, .int .i64 c.inn.se, .int .i64 c.inn.sv, .str c.inn.lk, .bool c.inn.lt, .str c.inn.hk, .bool c.inn.ht, encL encRow 2 c.inn.rows,
  .int .i64 c.took, .int .i64 c.src]
abbrev partL (p : PartT) : List SV := [.d (.int .i64 p.serial), .d (.int .i64 p.src), .d (.int .i64 p.dst), .d (.int .i64 p.se), .d (.int .i64 p.sv), .d (.str p.lk), .d (.bool p.lt), .d (.str p.hk), .d (.bool p.ht), .d (encL encRow 2 p.rows)]
abbrev copyL (c : CopyT) : List SV := [.d (.str c.lk), .d (.bool c.lt), .d (.str c.hk), .d (.bool c.ht), .d (.int .i64 c.se), .d (.int .i64 c.sv), .d (encL encRow 2 c.rows), .d (encL encWr 3 c.pend),
  .d (.int .i64 c.out.serial), .d (.int .i64 c.out.src), .d (.int .i64 c.out.dst), .d (.int .i64 c.out.se), .d (.int .i64 c.out.sv), .d (.str c.out.lk), .d (.bool c.out.lt), .d (.str c.out.hk), .d (.bool c.out.ht), .d (encL encRow 2 c.out.rows),
  .d (.int .i64 c.inn.serial), .d (.int .i64 c.inn.src), .d (.int .i64 c.inn.dst), .d (.int .i64 c.inn.se), .d (.int .i64 c.inn.sv), .d (.str c.inn.lk), .d (.bool c.inn.lt), .d (.str c.inn.hk), .d (.bool c.inn.ht), .d (encL encRow 2 c.inn.rows),
  .d (.int .i64 c.took), .d (.int .i64 c.src)]
def I64 (n : Int) : Prop := -9223372036854775808 ≤ n ∧ n < 9223372036854775808
def inAll (r : Rng) (rows : List Row) : Bool := rows.all fun x => hasR r x.1
def withinF (r : Rng) (rows : List Row) : Bool := validT rows && inAll r rows
theorem within_len {r : Rng} {rows : List Row} : inAll r rows = decide ((sliceF rows r.1 r.2.1 r.2.2.1 r.2.2.2).length = rows.length) := by
  rw [Bool.eq_iff_iff, decide_eq_true_eq]
  unfold sliceF inAll
  rw [List.length_filter_eq_length_iff, List.all_eq_true]
  rfl
def validPart (p : PartT) : Bool := serOk p.serial && (numOk p.src && (numOk p.dst && (!(p.src == p.dst) && (stampOk p.se p.sv && (!(emptyR' p.rng) && withinF p.rng p.rows)))))
def outsideF (r : Rng) (p : PartT) : Bool := p.serial == 0 || (validPart p && emptyR' (interR r p.rng))
def pendOk (r : Rng) (w : Wr) : Bool := validW w.1 w.2.1 w.2.2 && hasR r w.1
def headC (c : CopyT) : Bool := validR' c.rng && (stampOk c.se c.sv && (withinF c.rng c.rows && (decide (c.pend.length ≤ 64) && decide (c.rows.length + c.pend.length ≤ 1024))))
def partsC (c : CopyT) : Bool := outsideF c.rng c.out && (outsideF c.rng c.inn && (c.inn.serial == 0 || c.out.serial == 0 || emptyR' (interR c.out.rng c.inn.rng)))
def tookC (c : CopyT) : Bool := (c.took == 0 && c.src == 0) || (serOk c.took && numOk c.src)
def validC (c : CopyT) : Bool := headC c && (c.pend.all (pendOk c.rng) && (partsC c && tookC c))
/-- bounds of what is in a copy, so that lengths and numbers are in the machine's limits -/
structure PartB (n : Nat) (p : PartT) : Prop where
  rows : p.rows.length ≤ n
  serial : I64 p.serial
  src : I64 p.src
  dst : I64 p.dst
  se : I64 p.se
  sv : I64 p.sv
structure CopyB (n : Nat) (c : CopyT) : Prop where
  rows : c.rows.length ≤ n
  pend : c.pend.length ≤ n
  out : PartB n c.out
  inn : PartB n c.inn
  took : I64 c.took
  src : I64 c.src
  se : I64 c.se
  sv : I64 c.sv
  lk : c.lk.length ≤ 200000000000000
  hk : c.hk.length ≤ 200000000000000
theorem PartB.mono {n m : Nat} {p : PartT} (h : n ≤ m) (hp : PartB n p) : PartB m p := ⟨Nat.le_trans hp.rows h, hp.serial, hp.src, hp.dst, hp.se, hp.sv⟩
theorem CopyB.mono {n m : Nat} {c : CopyT} (h : n ≤ m) (hc : CopyB n c) : CopyB m c := ⟨Nat.le_trans hc.rows h, Nat.le_trans hc.pend h, hc.out.mono h, hc.inn.mono h, hc.took, hc.src, hc.se, hc.sv, hc.lk, hc.hk⟩
theorem i64_zero : I64 0 := by unfold I64; omega
def appendC (c : CopyT) (w : Wr) : CopyT × Int :=
  if !(validC c && validW w.1 w.2.1 w.2.2) then (noCopy, 1) else if !(hasR c.rng w.1) then (noCopy, 12) else if c.pend.length = 64 ∨ c.rows.length + c.pend.length = 1024 then (noCopy, 16)
  else ({ c with pend := c.pend ++ [w] }, 0)
def commitC (c : CopyT) : CopyT × Int :=
  if !(validC c) then (noCopy, 1) else if c.pend.length = 0 then (noCopy, 7) else if c.sv = 1099511627776 then (noCopy, 16)
  else ({ c with rows := (doF c.rows (c.pend.getD 0 default)).1, pend := c.pend.drop 1, sv := c.sv + 1 }, 0)
theorem valid_head {c : CopyT} (h : validC c = true) : validR' c.rng = true ∧ stampOk c.se c.sv = true ∧ TabOk c.rows ∧ inAll c.rng c.rows = true ∧ c.pend.length ≤ 64 ∧ c.rows.length + c.pend.length ≤ 1024 := by
  simp only [validC, headC, withinF, Bool.and_eq_true, decide_eq_true_eq] at h
  obtain ⟨⟨h1, h2, ⟨h3, h4⟩, h5, h6⟩, _⟩ := h
  exact ⟨h1, h2, validT_iff.1 h3, h4, h5, h6⟩
theorem valid_pend {c : CopyT} (h : validC c = true) : ∀ w ∈ c.pend, validW w.1 w.2.1 w.2.2 = true ∧ hasR c.rng w.1 = true := by
  simp only [validC, Bool.and_eq_true, List.all_eq_true, pendOk] at h
  exact h.2.1
theorem valid_rest {c : CopyT} (h : validC c = true) : partsC c = true ∧ tookC c = true := by
  simp only [validC, Bool.and_eq_true] at h
  exact h.2.2
theorem valid_of {c : CopyT} (h1 : validR' c.rng = true) (h2 : stampOk c.se c.sv = true) (h3 : TabOk c.rows) (h4 : inAll c.rng c.rows = true) (h5 : c.pend.length ≤ 64) (h6 : c.rows.length + c.pend.length ≤ 1024)
    (h7 : ∀ w ∈ c.pend, validW w.1 w.2.1 w.2.2 = true ∧ hasR c.rng w.1 = true) (h8 : partsC c = true) (h9 : tookC c = true) : validC c = true := by
  simp only [validC, headC, withinF, Bool.and_eq_true, decide_eq_true_eq, List.all_eq_true, pendOk]
  exact ⟨⟨h1, h2, ⟨validT_iff.2 h3, h4⟩, h5, h6⟩, h7, h8, h9⟩
theorem stamp_of {e v : Int} : stampOk e v = true ↔ (0 ≤ e ∧ e ≤ 1099511627776) ∧ 0 ≤ v ∧ v ≤ 1099511627776 := by
  simp only [stampOk, Bool.and_eq_true, decide_eq_true_eq]
  constructor
  · rintro ⟨⟨⟨h1, h2⟩, h3⟩, h4⟩; exact ⟨⟨h1, h2⟩, h3, h4⟩
  · rintro ⟨⟨h1, h2⟩, h3, h4⟩; exact ⟨⟨⟨h1, h2⟩, h3⟩, h4⟩
/-- a write to a table that is not full succeeds -/
theorem do_room {rows : List Row} {w : Wr} (h : TabOk rows) (hw : validW w.1 w.2.1 w.2.2 = true) (hl : rows.length < 1024) : (doF rows w).2 = 0 ∧ (doF rows w).1.length ≤ rows.length + 1 := by
  obtain ⟨k, v, d⟩ := w
  have hw' : validW k v d = true := hw
  unfold doF
  simp only [hw', Bool.not_true, Bool.false_eq_true, if_false]
  cases d with
  | true => exact ⟨rfl, Nat.le_trans without_len (by omega)⟩
  | false =>
    have hr := validW_row hw'
    have := (with_ok h hr).2.2
    simp only [Bool.false_eq_true, if_false]
    rw [putW_ok (validT_iff.2 h) hr (by omega)]
    exact ⟨rfl, this⟩
theorem do_mem {rows : List Row} {w : Wr} {r : Row} (hr : r ∈ (doF rows w).1) : r ∈ rows ∨ r.1 = w.1 := by
  obtain ⟨k, v, d⟩ := w
  unfold doF at hr
  split at hr
  · simp at hr
  · split at hr
    · exact .inl (without_ne hr).1
    · unfold putF at hr
      split at hr
      · simp at hr
      · split at hr
        · simp at hr
        · rcases ins_mem.1 hr with rfl | hr
          · exact .inr rfl
          · exact .inl (without_ne hr).1
theorem inAll_iff {r : Rng} {rows : List Row} : inAll r rows = true ↔ ∀ x ∈ rows, hasR r x.1 = true := by
  simp only [inAll, List.all_eq_true]
theorem inAll_do {r : Rng} {rows : List Row} {w : Wr} (h : inAll r rows = true) (hw : hasR r w.1 = true) : inAll r (doF rows w).1 = true := by
  rw [inAll_iff] at *
  intro x hx
  rcases do_mem hx with hx | hx
  · exact h x hx
  · rw [hx]; exact hw
theorem getD_mem {α : Type} [Inhabited α] {l : List α} {i : Nat} (h : i < l.length) : l.getD i default ∈ l := by
  rw [show l.getD i default = l[i] by simp [List.getD, h]]
  exact List.getElem_mem h
theorem apply_one {rows : List Row} {w : Wr} (h : validT rows = true) : applyF rows [w] = if (doF rows w).2 = 0 then ((doF rows w).1, 0) else ([], (doF rows w).2) := by
  rw [applyF, if_pos h]
  simp only [goF]
theorem commit_valid {c : CopyT} (h : validC c = true) (hp : c.pend.length ≠ 0) (hs : c.sv ≠ 1099511627776) :
    (doF c.rows (c.pend.getD 0 default)).2 = 0 ∧ validC { c with rows := (doF c.rows (c.pend.getD 0 default)).1, pend := c.pend.drop 1, sv := c.sv + 1 } = true := by
  obtain ⟨h1, h2, h3, h4, h5, h6⟩ := valid_head h
  have hm := getD_mem (l := c.pend) (i := 0) (by omega)
  obtain ⟨hw1, hw2⟩ := valid_pend h _ hm
  obtain ⟨hr1, hr2⟩ := do_room h3 hw1 (by omega)
  obtain ⟨hq1, hq2⟩ := valid_rest h
  refine ⟨hr1, valid_of h1 ?_ (do_tab h3 hr1) (inAll_do h4 hw2) ?_ ?_ ?_ hq1 hq2⟩
  · have := stamp_of.1 h2
    exact stamp_of.2 ⟨this.1, by simp only; omega, by simp only; omega⟩
  · simp only [List.length_drop]; omega
  · simp only [List.length_drop]; omega
  · intro w hw
    exact valid_pend h w (List.mem_of_mem_drop hw)
def settleC : Nat → CopyT → CopyT × Int
  | 0, c => (c, 0)
  | n + 1, c => if c.pend.length = 0 then (c, 0) else if (commitC c).2 = 0 then settleC n (commitC c).1 else (noCopy, (commitC c).2)
def settleF (c : CopyT) : CopyT × Int := if !(validC c) then (noCopy, 1) else settleC c.pend.length c
def partR (c : CopyT) (bk : List UInt8) (bt : Bool) (side : Int) : Rng := if side = 0 then (c.lk, c.lt, bk, bt) else (bk, bt, c.hk, c.ht)
def restR (c : CopyT) (bk : List UInt8) (bt : Bool) (side : Int) : Rng := if side = 0 then (bk, bt, c.hk, c.ht) else (c.lk, c.lt, bk, bt)
def sliceR (rows : List Row) (r : Rng) : List Row := sliceF rows r.1 r.2.1 r.2.2.1 r.2.2.2
def detOk (c : CopyT) (bk : List UInt8) (bt : Bool) (side ser frm to_ : Int) : Bool :=
  validC c && (validB bk bt && ((side == 0 || side == 1) && (serOk ser && (numOk frm && (numOk to_ && !(frm == to_))))))
def quietC (c : CopyT) : Bool := decide (c.pend.length = 0) && (c.out.serial == 0 && (c.inn.serial == 0 && c.took == 0))
def detBad (c : CopyT) (bk : List UInt8) (bt : Bool) (side : Int) : Bool := decide (cmpB bk bt c.lk c.lt < 0) || (decide (cmpB bk bt c.hk c.ht > 0) || emptyR' (partR c bk bt side))
def detNew (c : CopyT) (bk : List UInt8) (bt : Bool) (side ser frm to_ : Int) : CopyT :=
  { c with out := ⟨ser, frm, to_, c.se, c.sv, (partR c bk bt side).1, (partR c bk bt side).2.1, (partR c bk bt side).2.2.1, (partR c bk bt side).2.2.2, sliceR c.rows (partR c bk bt side)⟩,
           lk := (restR c bk bt side).1, lt := (restR c bk bt side).2.1, hk := (restR c bk bt side).2.2.1, ht := (restR c bk bt side).2.2.2, rows := sliceR c.rows (restR c bk bt side) }
def detachC (c : CopyT) (bk : List UInt8) (bt : Bool) (side ser frm to_ : Int) : CopyT × Int :=
  if detOk c bk bt side ser frm to_ = false then (noCopy, 1) else if quietC c = false then (noCopy, 7) else if detBad c bk bt side = true then (noCopy, 2) else (detNew c bk bt side ser frm to_, 0)
def joinC (c : CopyT) (p : PartT) : CopyT × Int :=
  if validC c = false then (noCopy, 1) else if p.serial = 0 ∨ c.pend.length > 0 then (noCopy, 7)
  else if cmpB p.hk p.ht c.lk c.lt = 0 then (if c.rows.length + p.rows.length > 1024 then (noCopy, 16) else ({ c with lk := p.lk, lt := p.lt, rows := p.rows ++ c.rows }, 0))
  else if cmpB p.lk p.lt c.hk c.ht = 0 then (if c.rows.length + p.rows.length > 1024 then (noCopy, 16) else ({ c with hk := p.hk, ht := p.ht, rows := c.rows ++ p.rows }, 0))
  else (noCopy, 9)
def attachC (c : CopyT) : CopyT × Int := if (joinC c c.inn).2 = 0 then ({ (joinC c c.inn).1 with took := c.inn.serial, src := c.inn.src, inn := noPart }, 0) else (noCopy, (joinC c c.inn).2)
def reattachC (c : CopyT) : CopyT × Int := if (joinC c c.out).2 = 0 then ({ (joinC c c.out).1 with out := noPart }, 0) else (noCopy, (joinC c c.out).2)
theorem join_err {c : CopyT} {p : PartT} (h : ¬ (joinC c p).2 = 0) : (joinC c p).1 = noCopy := by
  unfold joinC at h ⊢
  repeat' split at h
  all_goals first
    | exact absurd rfl h
    | simp only [*, if_true, if_false, Bool.false_eq_true, Bool.true_eq_false, reduceCtorEq]
def sameRng (a b : Rng) : Bool := cmpB a.1 a.2.1 b.1 b.2.1 == 0 && cmpB a.2.2.1 a.2.2.2 b.2.2.1 b.2.2.2 == 0
def samePart (p q : PartT) : Bool := p.serial == q.serial && (p.serial == 0 || (p.src == q.src && (p.dst == q.dst && ((p.se == q.se && p.sv == q.sv) && (sameRng p.rng q.rng && sameF p.rows q.rows)))))
def sameC (a b : CopyT) : Bool := sameRng a.rng b.rng && ((a.se == b.se && a.sv == b.sv) && (a.took == b.took && (a.src == b.src && (sameF a.rows b.rows && (sameF a.pend b.pend && (samePart a.out b.out && samePart a.inn b.inn))))))
theorem sameRng_refl (a : Rng) : sameRng a a = true := by simp [sameRng, cmp_self]
theorem samePart_refl (p : PartT) : samePart p p = true := by simp [samePart, sameRng_refl, same_refl]
theorem sameC_refl (c : CopyT) : sameC c c = true := by simp [sameC, sameRng_refl, same_refl, samePart_refl]
/-- the part of a valid copy that is beside it -/
theorem part_valid {c : CopyT} (h : validC c = true) (p : PartT) (hp : p = c.out ∨ p = c.inn) (hs : ¬ p.serial = 0) : validPart p = true ∧ emptyR' (interR c.rng p.rng) = true := by
  have hq := (valid_rest h).1
  simp only [partsC, Bool.and_eq_true] at hq
  have : outsideF c.rng p = true := by
    rcases hp with rfl | rfl
    · exact hq.1
    · exact hq.2.1
  simp only [outsideF, Bool.or_eq_true, beq_iff_eq, Bool.and_eq_true] at this
  exact this.resolve_left hs
theorem validPart_range {p : PartT} (h : validPart p = true) : emptyR' p.rng = false ∧ p.rows.length ≤ 1024 := by
  simp only [validPart, withinF, Bool.and_eq_true, Bool.not_eq_true'] at h
  obtain ⟨_, _, _, _, _, h1, h2, _⟩ := h
  exact ⟨h1, validT_len h2⟩
theorem rows_empty {c : CopyT} (h : validC c = true) (he : cmpB c.lk c.lt c.hk c.ht = 0) : c.rows = [] := by
  obtain ⟨hv, _, _, ha, _⟩ := valid_head h
  cases hr : c.rows with
  | nil => rfl
  | cons r l =>
    rw [inAll_iff] at ha
    have := ha r (by rw [hr]; simp)
    simp only [hasR, containsR, emptyR, he, BEq.rfl, Bool.or_true, Bool.not_true, Bool.false_and] at this
    cases this
theorem row_app2 {α : Type} [Inhabited α] {enc : α → List D} {k n : Nat} {xs ys : List α} : RowLe n k (fun i j => if 0 + i < xs.length then cellOf enc xs (0 + i) j else cellOf enc ys (0 + i - xs.length) j) (cellOf enc (xs ++ ys)) := by
  refine .of_eq fun i j _ _ => ?_
  simp only [Nat.zero_add, cellOf]
  split
  · rename_i h; rw [getD_append_left h]
  · rename_i h; rw [getD_append_right h]
theorem row_app3 {α : Type} [Inhabited α] {enc : α → List D} {k n : Nat} {xs ys : List α} : RowLe n k (fun i j => if 0 + i < xs.length then cellOf enc xs (0 + i) j else cellOf enc ys (0 + (0 + i - xs.length)) j) (cellOf enc (xs ++ ys)) := by
  refine .of_eq fun i j _ _ => ?_
  simp only [Nat.zero_add, cellOf]
  split
  · rename_i h; rw [getD_append_left h]
  · rename_i h; rw [getD_append_right h]
end Go.Sx
