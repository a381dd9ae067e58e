/- Part of a symbolic executor over the model, proved sound, with plain laws: SxTab. Written for these claims. -/
import Derived.Test.YtfjiffbacallhaaDoorSxArg
import Derived.Sort.LotA
set_option linter.unusedVariables false
set_option linter.unusedSimpArgs false
namespace Go.Sx
open Go
def validB (k : List UInt8) (t : Bool) : Bool := decide ((k.length : Int) ≤ 64) && (!t || k == [])
def cmpB (ak : List UInt8) (at_ : Bool) (bk : List UInt8) (bt : Bool) : Int :=
  if at_ && bt then 0 else if at_ then 1 else if bt || Op.bytesLess ak bk then -1 else if Op.bytesLess bk ak then 1 else 0
def validR (lk : List UInt8) (lt : Bool) (hk : List UInt8) (ht : Bool) : Bool := validB lk lt && validB hk ht && decide (cmpB lk lt hk ht ≤ 0)
def emptyR (lk : List UInt8) (lt : Bool) (hk : List UInt8) (ht : Bool) : Bool := !(validR lk lt hk ht) || cmpB lk lt hk ht == 0
def containsR (lk : List UInt8) (lt : Bool) (hk : List UInt8) (ht : Bool) (k : List UInt8) : Bool :=
  !(emptyR lk lt hk ht) && decide ((k.length : Int) ≤ 64) && decide (cmpB lk lt k false ≤ 0) && decide (cmpB k false hk ht < 0)
abbrev Row := List UInt8 × List UInt8
def encRow (r : Row) : List D := [.str r.1, .str r.2]
def rowOk (r : Row) : Bool := decide ((r.1.length : Int) ≤ 64) && decide ((r.2.length : Int) ≤ 64)
def chkT (rows : List Row) (i : Nat) : Bool := rowOk (rows.getD i default) && (i == 0 || Op.bytesLess (rows.getD (i - 1) default).1 (rows.getD i default).1)
def validT (rows : List Row) : Bool := decide (rows.length ≤ 1024) && (List.range rows.length).all (chkT rows)
theorem validT_false {rows : List Row} {i : Nat} (hi : i < rows.length) (h : chkT rows i = false) : validT rows = false := by
  unfold validT
  cases h1 : (List.range rows.length).all (chkT rows) with
  | false => simp
  | true =>
    have := List.all_eq_true.1 h1 i (List.mem_range.2 hi)
    rw [h] at this
    cases this
theorem validT_true {rows : List Row} (hl : rows.length ≤ 1024) (h : ∀ i, i < rows.length → chkT rows i = true) : validT rows = true := by
  unfold validT
  rw [List.all_eq_true.2 (fun i hi => h i (List.mem_range.1 hi))]
  simp [hl]
def withoutF (rows : List Row) (k : List UInt8) : List Row := rows.filter fun r => !(r.1 == k)
theorem without_keep {rows : List Row} {k : List UInt8} {i : Nat} (h : i < rows.length) (hk : (!((rows.getD i default).1 == k)) = true) : withoutF (rows.take (i + 1)) k = withoutF (rows.take i) k ++ [rows.getD i default] := by
  rw [take_succ' h, withoutF, List.filter_append, List.filter_cons, if_pos hk, List.filter_nil]; rfl
theorem without_drop {rows : List Row} {k : List UInt8} {i : Nat} (h : i < rows.length) (hk : (!((rows.getD i default).1 == k)) = false) : withoutF (rows.take (i + 1)) k = withoutF (rows.take i) k := by
  rw [take_succ' h, withoutF, List.filter_append, List.filter_cons, if_neg (by rw [hk]; simp), List.filter_nil, List.append_nil]; rfl
def insF (x : Row) : List Row → List Row
  | [] => [x]
  | r :: l => if Op.bytesLess x.1 r.1 then x :: r :: l else r :: insF x l
def withF (rows : List Row) (x : Row) : List Row := insF x (withoutF rows x.1)
theorem without_len {rows : List Row} {k : List UInt8} : (withoutF rows k).length ≤ rows.length := List.length_filter_le _ _
theorem ins_len {x : Row} : ∀ {l : List Row}, (insF x l).length = l.length + 1
  | [] => rfl
  | r :: l => by
    simp only [insF]
    split
    · rfl
    · simp [ins_len (l := l)]
def putF (rows : List Row) (k v : List UInt8) : List Row × Int :=
  if !(validT rows) || !(validT [(k, v)]) then ([], 1) else if (withF rows (k, v)).length > 1024 then ([], 16) else (withF rows (k, v), 0)
theorem validT_len {rows : List Row} (h : validT rows = true) : rows.length ≤ 1024 := by
  simp only [validT, Bool.and_eq_true, decide_eq_true_eq] at h
  exact h.1
def Sorted (rows : List Row) : Prop := rows.Pairwise fun a b => Op.bytesLess a.1 b.1 = true
structure TabOk (rows : List Row) : Prop where
  len : rows.length ≤ 1024
  ok : ∀ r ∈ rows, rowOk r = true
  sorted : Sorted rows
theorem validT_iff {rows : List Row} : validT rows = true ↔ TabOk rows := by
  constructor
  · intro h
    simp only [validT, Bool.and_eq_true, decide_eq_true_eq, List.all_eq_true, List.mem_range] at h
    obtain ⟨h1, h2⟩ := h
    have ok : ∀ i (hi : i < rows.length), rowOk rows[i] = true ∧ (∀ j (hj : j + 1 = i), Op.bytesLess (rows[j]'(by omega)).1 rows[i].1 = true) := by
      intro i hi
      have := h2 i hi
      simp only [chkT, Bool.and_eq_true, Bool.or_eq_true, beq_iff_eq] at this
      refine ⟨by simpa [List.getD, hi] using this.1, fun j hj => ?_⟩
      subst hj
      have h3 := this.2.resolve_left (by omega)
      simpa [List.getD, hi, show j < rows.length by omega] using h3
    refine ⟨h1, fun r hr => ?_, ?_⟩
    · obtain ⟨i, hi, rfl⟩ := List.getElem_of_mem hr
      exact (ok i hi).1
    · rw [Sorted, List.pairwise_iff_getElem]
      intro i j hi hj hij
      induction j with
      | zero => omega
      | succ j ih =>
        have hs := (ok (j + 1) hj).2 j rfl
        rcases Nat.lt_or_ge i j with h | h
        · exact bl_trans (ih (by omega) h) hs
        · have : i = j := by omega
          subst this
          exact hs
  · intro h
    refine validT_true h.len (fun i hi => ?_)
    have h1 : rowOk (rows.getD i default) = true := by
      have e : rows.getD i default = rows[i] := by simp [List.getD, hi]
      rw [e]
      exact h.ok _ (List.getElem_mem hi)
    simp only [chkT, h1, Bool.true_and, Bool.or_eq_true, beq_iff_eq]
    rcases Nat.eq_zero_or_pos i with h0 | h0
    · exact .inl h0
    · right
      have := List.pairwise_iff_getElem.1 h.sorted (i - 1) i (by omega) hi (by omega)
      simpa [List.getD, hi, show i - 1 < rows.length by omega] using this
theorem Sorted.sub {l m : List Row} (h : Sorted m) (hs : l.Sublist m) : Sorted l := List.Pairwise.sublist hs h
theorem without_sub {rows : List Row} {k : List UInt8} : (withoutF rows k).Sublist rows := List.filter_sublist
theorem without_ne {rows : List Row} {k : List UInt8} {r : Row} (h : r ∈ withoutF rows k) : r ∈ rows ∧ r.1 ≠ k := by
  simp only [withoutF, List.mem_filter, Bool.not_eq_true', beq_eq_false_iff_ne, ne_eq] at h
  exact h
theorem ins_mem {x r : Row} : ∀ {l : List Row}, r ∈ insF x l ↔ r = x ∨ r ∈ l
  | [] => by simp [insF]
  | y :: l => by
    simp only [insF]
    split
    · simp
    · simp only [List.mem_cons, ins_mem (l := l)]
      constructor
      · rintro (h | h | h)
        · exact .inr (.inl h)
        · exact .inl h
        · exact .inr (.inr h)
      · rintro (h | h | h)
        · exact .inr (.inl h)
        · exact .inl h
        · exact .inr (.inr h)
theorem ins_sorted {x : Row} : ∀ {l : List Row}, Sorted l → (∀ r ∈ l, r.1 ≠ x.1) → Sorted (insF x l)
  | [], _, _ => by simp [insF, Sorted]
  | y :: l, h, hn => by
    simp only [Sorted, List.pairwise_cons] at h
    simp only [insF]
    split
    · rename_i hx
      simp only [Sorted, List.pairwise_cons]
      refine ⟨fun r hr => ?_, h⟩
      rcases List.mem_cons.1 hr with rfl | hr
      · exact hx
      · exact bl_trans hx (h.1 r hr)
    · rename_i hx
      have hx : Op.bytesLess x.1 y.1 = false := by simpa using hx
      have hyx : Op.bytesLess y.1 x.1 = true := by
        cases h2 : Op.bytesLess y.1 x.1 with
        | true => rfl
        | false => exact absurd (bl_tri h2 hx) (hn y (by simp))
      simp only [Sorted, List.pairwise_cons]
      refine ⟨fun r hr => ?_, ins_sorted h.2 (fun r hr => hn r (by simp [hr]))⟩
      rcases ins_mem.1 hr with rfl | hr
      · exact hyx
      · exact h.1 r hr
theorem with_ok {rows : List Row} {x : Row} (h : TabOk rows) (hx : rowOk x = true) : (∀ r ∈ withF rows x, rowOk r = true) ∧ Sorted (withF rows x) ∧ (withF rows x).length ≤ rows.length + 1 := by
  refine ⟨fun r hr => ?_, ?_, ?_⟩
  · rcases ins_mem.1 hr with rfl | hr
    · exact hx
    · exact h.ok r (without_ne hr).1
  · exact ins_sorted (h.sorted.sub without_sub) (fun r hr => (without_ne hr).2)
  · unfold withF
    rw [ins_len]
    have := without_len (rows := rows) (k := x.1)
    omega
theorem tabOk_nil : TabOk [] := ⟨by simp, by simp, .nil⟩
theorem validT_one {k v : List UInt8} : validT [(k, v)] = rowOk (k, v) := by
  simp [validT, chkT, List.range_succ]
theorem put_ok {rows : List Row} {k v : List UInt8} (h : TabOk rows) : TabOk (putF rows k v).1 ∧ (putF rows k v).1.length ≤ rows.length + 1 := by
  unfold putF
  split
  · exact ⟨tabOk_nil, by simp⟩
  · rename_i hv
    split
    · exact ⟨tabOk_nil, by simp⟩
    · rename_i hl
      simp only [Bool.or_eq_true, Bool.not_eq_true', not_or, Bool.not_eq_false, validT_one] at hv
      have hk := with_ok h hv.2
      exact ⟨⟨by simp only; omega, hk.1, hk.2.1⟩, hk.2.2⟩
theorem rows_of {n : Nat} {g : Nat → Nat → D} (h : ∀ i, i < n → ∃ k v, g i 0 = .str k ∧ g i 1 = .str v) : ∃ xs : List Row, xs.length = n ∧ LeS (.d (.list n 2 g)) (.d (encL encRow 2 xs)) := by
  obtain ⟨xs, h1, _, h2⟩ := list_of (α := Row) (enc := encRow) (Q := fun _ => True) (k := 2) (fun _ => rfl) (len := n) (get := g) (fun i hi => by
    obtain ⟨k, v, e1, e2⟩ := h i hi
    exact ⟨(k, v), trivial, by simp [List.range_succ, encRow, e1, e2]⟩)
  exact ⟨xs, h1, LeS.d h2⟩
theorem cmp_self {k : List UInt8} {t : Bool} : cmpB k t k t = 0 := by cases t <;> simp [cmpB, bl_irrefl]
/-- the lower bound of a range that is not empty is one of its keys -/
theorem keyIn_low {lk : List UInt8} {lt : Bool} {hk : List UInt8} {ht : Bool} (h : emptyR lk lt hk ht = false) : (lk.length : Int) ≤ 64 ∧ containsR lk lt hk ht lk = true := by
  have h0 := h
  simp only [emptyR, validR, validB, Bool.or_eq_false_iff, Bool.not_eq_false', Bool.and_eq_true, decide_eq_true_eq, beq_eq_false_iff_ne] at h
  obtain ⟨⟨⟨⟨h1, h2⟩, h3, h4⟩, h5⟩, h6⟩ := h
  have hlt : lt = false := by
    cases lt with
    | false => rfl
    | true =>
      exfalso
      cases ht with
      | true => exact h6 (by simp [cmpB])
      | false => simp [cmpB] at h5
  subst hlt
  refine ⟨h1, ?_⟩
  simp only [containsR, h0, Bool.not_false, Bool.true_and, Bool.and_eq_true, decide_eq_true_eq]
  exact ⟨⟨h1, by rw [cmp_self]; decide⟩, by omega⟩
abbrev Rng := List UInt8 × Bool × List UInt8 × Bool
def encRng (r : Rng) : List D := [.str r.1, .bool r.2.1, .str r.2.2.1, .bool r.2.2.2]
end Go.Sx

namespace Go.Sx
open Go
structure FoldR where
  count : Int
  numbers : Int
  sum : Int
  low : Int
  high : Int
  first : List UInt8
  last : List UInt8
def numLoop (s : List UInt8) : Nat → Nat → Int → Option Int
  | 0, _, acc => some acc
  | f + 1, pos, acc => if pos < s.length then
      (if ((runeAt s pos).1 : Int) < 48 ∨ ((runeAt s pos).1 : Int) > 57 then none
       else
         if IntKind.i64.wrap (IntKind.i64.wrap (acc * 10) + IntKind.i64.wrap (IntKind.i32.wrap ((runeAt s pos).1 - 48))) > 1000000000000 then none
         else numLoop s f (pos + (runeAt s pos).2) (IntKind.i64.wrap (IntKind.i64.wrap (acc * 10) + IntKind.i64.wrap (IntKind.i32.wrap ((runeAt s pos).1 - 48)))))
    else some acc
def numTail (s : List UInt8) (neg : Bool) : Int × Bool :=
  if s = [] then (0, false)
  else if ((s.getD 0 0).toNat : Int) = 48 ∧ ((s.length : Int) > 1 ∨ neg = true) then (0, false)
  else match numLoop s s.length 0 0 with
    | none => (0, false)
    | some v => (if neg then IntKind.i64.wrap (0 - v) else v, true)
def number (l : List UInt8) : Int × Bool :=
  if (l.length : Int) > 0 ∧ ((l.getD 0 0).toNat : Int) = 45 then numTail (l.drop 1) true else numTail l false
abbrev cells (f : FoldR) : List SV := [.d (.int .i64 f.count), .d (.int .i64 f.numbers), .d (.int .i64 f.sum), .d (.int .i64 f.low), .d (.int .i64 f.high), .d (.str f.first), .d (.str f.last)]
def addF (f : FoldR) (k v : List UInt8) : FoldR :=
  if (number v).2 = true then
    { count := IntKind.i64.wrap (f.count + 1), first := if f.count = 0 then k else f.first, last := k, numbers := IntKind.i64.wrap (f.numbers + 1), sum := IntKind.i64.wrap (f.sum + (number v).1),
      low := if f.numbers = 0 ∨ (number v).1 < f.low then (number v).1 else f.low, high := if f.numbers = 0 ∨ (number v).1 > f.high then (number v).1 else f.high }
  else { count := IntKind.i64.wrap (f.count + 1), first := if f.count = 0 then k else f.first, last := k, numbers := f.numbers, sum := f.sum, low := f.low, high := f.high }
theorem refPre_drop {s : List UInt8} {i : Nat} (h : i < s.length) : s.drop i = s.getD i 0 :: s.drop (i + 1) := by
  rw [List.drop_eq_getElem_cons h]
  simp [List.getD, h]
def byteLoop : List UInt8 → Int → Option Int
  | [], acc => some acc
  | b :: l, acc => if (b.toNat : Int) < 48 ∨ (b.toNat : Int) > 57 then none else if acc * 10 + (b.toNat - 48) > 1000000000000 then none else byteLoop l (acc * 10 + (b.toNat - 48))
theorem wrap32_of {n : Int} (h1 : -2147483648 ≤ n) (h2 : n < 2147483648) : IntKind.i32.wrap n = n := by
  simp [IntKind.wrap, IntKind.bits, IntKind.signed]
  split <;> omega
theorem runeAt_low {s : List UInt8} {pos : Nat} (h : pos < s.length) (hb : (s.getD pos 0).toNat < 128) : runeAt s pos = ((s.getD pos 0).toNat, 1) := by
  have e : (s.getD pos 0) = (ByteArray.mk ⟨s⟩)[pos]'h := by simp [List.getD, h]; rfl
  rw [e] at hb ⊢
  exact decode_ascii ⟨⟨s⟩⟩ pos h hb
theorem runeAt_high {s : List UInt8} {pos : Nat} (h : pos < s.length) (hb : ¬ (s.getD pos 0).toNat < 128) : 128 ≤ (runeAt s pos).1 := by
  have e : (s.getD pos 0) = (ByteArray.mk ⟨s⟩)[pos]'h := by simp [List.getD, h]; rfl
  rw [e] at hb
  exact (decode_high ⟨⟨s⟩⟩ pos h (by omega)).1
theorem numLoop_bytes {s : List UInt8} : ∀ (f pos : Nat) (acc : Int), s.length ≤ pos + f → 0 ≤ acc → acc ≤ 1000000000000 → numLoop s f pos acc = byteLoop (s.drop pos) acc
  | 0, pos, acc, h, _, _ => by rw [List.drop_eq_nil_of_le (by omega)]; rfl
  | f + 1, pos, acc, h, h0, h1 => by
    by_cases hp : pos < s.length
    · rw [refPre_drop hp]
      by_cases hb : (s.getD pos 0).toNat < 128
      · simp only [numLoop, hp, if_true, runeAt_low hp hb, byteLoop]
        generalize (s.getD pos 0).toNat = b at *
        by_cases hd : (b : Int) < 48 ∨ (b : Int) > 57
        · simp only [hd, if_true]
        · simp only [hd, if_false]
          have w1 : IntKind.i64.wrap (acc * 10) = acc * 10 := wrap_of (by omega) (by omega)
          have w2 : IntKind.i32.wrap ((b : Int) - 48) = (b : Int) - 48 := wrap32_of (by omega) (by omega)
          have w3 : IntKind.i64.wrap ((b : Int) - 48) = (b : Int) - 48 := wrap_of (by omega) (by omega)
          have w4 : IntKind.i64.wrap (acc * 10 + ((b : Int) - 48)) = acc * 10 + ((b : Int) - 48) := wrap_of (by omega) (by omega)
          rw [w1, w2, w3, w4]
          by_cases hbig : acc * 10 + ((b : Int) - 48) > 1000000000000
          · simp only [hbig, if_true]
          · simp only [hbig, if_false]
            exact numLoop_bytes f (pos + 1) _ (by omega) (by omega) (by omega)
      · have hr := runeAt_high hp hb
        simp only [numLoop, hp, if_true, byteLoop]
        rw [if_pos (Or.inr (show ((runeAt s pos).1 : Int) > 57 by omega)), if_pos (Or.inr (show ((s.getD pos 0).toNat : Int) > 57 by omega))]
    · rw [List.drop_eq_nil_of_le (by omega)]
      simp only [numLoop, hp, if_false, byteLoop]
theorem numLoop_all (s : List UInt8) : numLoop s s.length 0 0 = byteLoop s 0 := by
  rw [numLoop_bytes s.length 0 0 (by omega) (by decide) (by decide)]; rfl
theorem byteLoop_low : ∀ {l : List UInt8} {acc v : Int}, byteLoop l acc = some v → 0 ≤ acc → acc * 10 ^ l.length ≤ v ∧ (acc ≤ 1000000000000 → v ≤ 1000000000000)
  | [], acc, v, h, _ => by
    simp only [byteLoop, Option.some.injEq] at h
    subst h
    simp
  | b :: l, acc, v, h, h0 => by
    simp only [byteLoop] at h
    split at h
    · cases h
    · rename_i hd
      split at h
      · cases h
      · rename_i hb
        obtain ⟨h1, h2⟩ := byteLoop_low h (by omega)
        refine ⟨?_, fun _ => h2 (by omega)⟩
        rw [List.length_cons, Int.pow_succ]
        have hp : (0 : Int) ≤ 10 ^ l.length := Int.pow_nonneg (by decide)
        have h3 : acc * 10 * 10 ^ l.length ≤ (acc * 10 + ((b.toNat : Int) - 48)) * 10 ^ l.length := Int.mul_le_mul_of_nonneg_right (by omega) hp
        have h4 : acc * (10 ^ l.length * 10) = acc * 10 * 10 ^ l.length := by rw [Int.mul_comm (10 ^ l.length) 10, Int.mul_assoc]
        rw [h4]
        omega
def foldZ : FoldR := ⟨0, 0, 0, 0, 0, [], []⟩
def foldOf (rows : List Row) : FoldR := rows.foldl (fun f r => addF f r.1 r.2) foldZ
def joinF (a b : FoldR) : FoldR :=
  { count := IntKind.i64.wrap (a.count + b.count), numbers := IntKind.i64.wrap (a.numbers + b.numbers), sum := IntKind.i64.wrap (a.sum + b.sum),
    low := if a.numbers = 0 then b.low else if b.numbers = 0 then a.low else if b.low < a.low then b.low else a.low,
    high := if a.numbers = 0 then b.high else if b.numbers = 0 then a.high else if b.high > a.high then b.high else a.high,
    first := if a.count = 0 then b.first else a.first, last := if b.count = 0 then a.last else b.last }
def oneF (k v : List UInt8) : FoldR :=
  if (number v).2 = true then ⟨1, 1, (number v).1, (number v).1, (number v).1, k, k⟩ else ⟨1, 0, 0, 0, 0, k, k⟩
def refOf (rows : List Row) : FoldR := rows.foldl (fun f r => joinF f (oneF r.1 r.2)) foldZ
structure FoldB (m : Nat) (f : FoldR) : Prop where
  c : f.count = m
  n1 : 0 ≤ f.numbers
  n2 : f.numbers ≤ m
  s1 : -(m * 1000000000000) ≤ f.sum
  s2 : f.sum ≤ m * 1000000000000
  l1 : -1000000000000 ≤ f.low
  l2 : f.low ≤ 1000000000000
  h1 : -1000000000000 ≤ f.high
  h2 : f.high ≤ 1000000000000
  z : f.numbers = 0 → f.sum = 0 ∧ f.low = 0 ∧ f.high = 0
  zc : f.count = 0 → f.first = [] ∧ f.last = []
theorem number_in (v : List UInt8) : -1000000000000 ≤ (number v).1 ∧ (number v).1 ≤ 1000000000000 := by
  have key : ∀ (s : List UInt8) (neg : Bool), -1000000000000 ≤ (numTail s neg).1 ∧ (numTail s neg).1 ≤ 1000000000000 := by
    intro s neg
    unfold numTail
    split
    · exact ⟨by decide, by decide⟩
    · split
      · exact ⟨by decide, by decide⟩
      · rw [numLoop_all]
        cases hv : byteLoop s 0 with
        | none => exact ⟨by simp, by simp⟩
        | some v =>
          obtain ⟨h1, h2⟩ := byteLoop_low hv (by decide)
          have h2 := h2 (by decide)
          simp only
          split
          · rw [wrap_of (by omega) (by omega)]; omega
          · omega
  unfold number
  split
  · exact key _ _
  · exact key _ _
theorem add_join {f : FoldR} {m : Nat} {k v : List UInt8} (hm : m ≤ 9000000) (h : FoldB m f) : addF f k v = joinF f (oneF k v) := by
  have hn := number_in v
  have h1 := h.n1
  have h2 := h.n2
  have h3 := h.s1
  have h4 := h.s2
  unfold addF joinF oneF
  by_cases hv : (number v).2 = true
  · simp only [hv, if_true]
    by_cases h0 : f.numbers = 0
    · simp [h0]
    · simp [h0]
  · simp only [hv, if_false, Bool.false_eq_true, if_true]
    have w1 : IntKind.i64.wrap (f.numbers + 0) = f.numbers := by rw [Int.add_zero]; exact wrap_of (by omega) (by omega)
    have w2 : IntKind.i64.wrap (f.sum + 0) = f.sum := by rw [Int.add_zero]; exact wrap_of (by omega) (by omega)
    rw [w1, w2]
    by_cases h0 : f.numbers = 0
    · simp [h0, h.z h0]
    · simp [h0]
theorem add_b {f : FoldR} {m : Nat} {k v : List UInt8} (hm : m < 9000000) (h : FoldB m f) : FoldB (m + 1) (addF f k v) := by
  have hn := number_in v
  obtain ⟨c, n1, n2, s1, s2, l1, l2, h1, h2, z, zc⟩ := h
  have wc : IntKind.i64.wrap (f.count + 1) = f.count + 1 := wrap_of (by omega) (by omega)
  have wn : IntKind.i64.wrap (f.numbers + 1) = f.numbers + 1 := wrap_of (by omega) (by omega)
  have ws : IntKind.i64.wrap (f.sum + (number v).1) = f.sum + (number v).1 := wrap_of (by omega) (by omega)
  unfold addF
  by_cases hv : (number v).2 = true
  · simp only [hv, if_true, wc, wn, ws]
    constructor <;> simp only <;> first | (intro hz; exfalso; omega) | omega | (split <;> omega)
  · simp only [hv, if_false, Bool.false_eq_true, wc]
    constructor <;> simp only <;> first | omega | exact z | (intro hz; exfalso; omega)
theorem foldOf_b : ∀ (rows : List Row) (m : Nat) (f : FoldR), FoldB m f → m + rows.length ≤ 9000000 →
    rows.foldl (fun f r => addF f r.1 r.2) f = rows.foldl (fun f r => joinF f (oneF r.1 r.2)) f ∧ FoldB (m + rows.length) (rows.foldl (fun f r => addF f r.1 r.2) f)
  | [], m, f, h, _ => ⟨rfl, h⟩
  | r :: rows, m, f, h, hm => by
    simp only [List.length_cons] at hm
    obtain ⟨h1, h2⟩ := foldOf_b rows (m + 1) (addF f r.1 r.2) (add_b (by omega) h) (by omega)
    simp only [List.foldl_cons, List.length_cons]
    rw [← add_join (by omega) h]
    rw [show m + (rows.length + 1) = m + 1 + rows.length by omega]
    exact ⟨h1, h2⟩
theorem foldZ_b : FoldB 0 foldZ := by constructor <;> simp [foldZ]
theorem of_eq {rows : List Row} (h : rows.length ≤ 9000000) : refOf rows = foldOf rows := (foldOf_b rows 0 foldZ foldZ_b (by omega)).1.symm
instance : Inhabited FoldR := ⟨foldZ⟩
end Go.Sx

namespace Go.Sx
open Go
theorem jlt3 {p : Nat → Prop} (h0 : p 0) (h1 : p 1) (h2 : p 2) : ∀ j, j < 3 → p j
  | 0, _ => h0
  | 1, _ => h1
  | 2, _ => h2
  | j + 3, h => absurd h (by omega)
theorem dle_lit {α : Type} [Inhabited α] {enc : α → List D} {n K k : Nat} {g : Nat → Nat → D} {L : List α} (hk : K = k) (hn : n = L.length) (h : RowLe n k g (cellOf enc L)) : DLe (.list n K g) (encL enc k L) := by
  subst hk
  subst hn
  exact DLe.rows rfl h
def getF (rows : List Row) (k : List UInt8) : List UInt8 × Bool :=
  match rows.find? (fun r => r.1 == k) with
  | some r => (r.2, true)
  | none => ([], false)
theorem get_here {rows : List Row} {k : List UInt8} {i : Nat} (hi : i < rows.length) (h : ∀ j, j < i → ((rows.getD j default).1 == k) = false) (he : ((rows.getD i default).1 == k) = true) : getF rows k = ((rows.getD i default).2, true) := by
  have e : rows.find? (fun r => r.1 == k) = some (rows.getD i default) := by
    have g : ∀ j (hj : j < rows.length), rows.getD j default = rows[j] := fun j hj => by simp [List.getD, hj]
    rw [g i hi] at he ⊢
    rw [List.find?_eq_some_iff_getElem]
    refine ⟨he, i, hi, rfl, fun j hj => ?_⟩
    have := h j hj
    rw [g j (by omega)] at this
    simp [this]
  simp only [getF, e]
theorem get_none {rows : List Row} {k : List UInt8} (h : ∀ j, j < rows.length → ((rows.getD j default).1 == k) = false) : getF rows k = ([], false) := by
  have e : rows.find? (fun r => r.1 == k) = none := by
    rw [List.find?_eq_none]
    intro r hr
    obtain ⟨j, hj, rfl⟩ := List.getElem_of_mem hr
    have := h j hj
    have g : rows.getD j default = rows[j] := by simp [List.getD, hj]
    rw [g] at this
    simp [this]
  simp only [getF, e]
def cutF (rows : List Row) (n : Int) : List UInt8 × Bool × Bool :=
  if !(validT rows) || decide (n < 0) || decide (n > rows.length) then ([], false, false) else if n = rows.length then ([], true, true) else ((rows.getD n.toNat default).1, false, true)
theorem cut_bad {rows : List Row} {n : Int} (h : validT rows = false ∨ n < 0 ∨ n > rows.length) : cutF rows n = ([], false, false) := by
  unfold cutF
  rcases h with h | h | h <;> simp [h]
theorem cut_full {rows : List Row} {n : Int} (h : validT rows = true) (e : n = rows.length) : cutF rows n = ([], true, true) := by
  unfold cutF
  subst e
  have h1 : ¬ (rows.length : Int) < 0 := by omega
  simp [h, h1]
theorem cut_at {rows : List Row} {n : Int} (h : validT rows = true) (h0 : ¬ n < 0) (h1 : ¬ n > rows.length) (e : ¬ n = rows.length) : cutF rows n = ((rows.getD n.toNat default).1, false, true) := by
  unfold cutF
  simp [h, h0, h1, e]
abbrev Wr := List UInt8 × List UInt8 × Bool
def encWr (w : Wr) : List D := [.str w.1, .str w.2.1, .bool w.2.2]
/-- what a loop collects -/
def collect {α β : Type} (p : α → Bool) (f : α → β) (l : List α) : List β := (l.filter p).map f
theorem collect_keep {α β : Type} [Inhabited α] {p : α → Bool} {f : α → β} {l : List α} {i : Nat} (h : i < l.length) (hp : p (l.getD i default) = true) : collect p f (l.take (i + 1)) = collect p f (l.take i) ++ [f (l.getD i default)] := by
  rw [take_succ' h, collect, List.filter_append, List.map_append, List.filter_cons, if_pos hp, List.filter_nil]; rfl
theorem collect_drop {α β : Type} [Inhabited α] {p : α → Bool} {f : α → β} {l : List α} {i : Nat} (h : i < l.length) (hp : p (l.getD i default) = false) : collect p f (l.take (i + 1)) = collect p f (l.take i) := by
  rw [take_succ' h, collect, List.filter_append, List.map_append, List.filter_cons, if_neg (by rw [hp]; simp), List.filter_nil, List.map_nil, List.append_nil]; rfl
theorem collect_len {α β : Type} {p : α → Bool} {f : α → β} {l : List α} : (collect p f l).length ≤ l.length := by
  rw [collect, List.length_map]; exact List.length_filter_le _ _
def goneP (b : List Row) (r : Row) : Bool := !(getF b r.1).2
def goneW (r : Row) : Wr := (r.1, [], true)
def newP' (a : List Row) (r : Row) : Bool := !(getF a r.1).2 || !((getF a r.1).1 == r.2)
def newW (r : Row) : Wr := (r.1, r.2, false)
def diffF (a b : List Row) : List Wr := if validT a && validT b then collect (goneP b) goneW a ++ collect (newP' a) newW b else []
theorem diff_valid {a b : List Row} (h1 : validT a = true) (h2 : validT b = true) : diffF a b = collect (goneP b) goneW a ++ collect (newP' a) newW b := by
  unfold diffF
  rw [h1, h2]
  rfl
theorem diff_bad {a b : List Row} (h : validT a = false ∨ validT b = false) : diffF a b = [] := by
  unfold diffF
  rcases h with h | h <;> simp [h]
def sameF {α : Type} [DecidableEq α] (a b : List α) : Bool := decide (a = b)
theorem same_true {α : Type} [DecidableEq α] [Inhabited α] {a b : List α} (hl : a.length = b.length) (h : ∀ i, i < a.length → a.getD i default = b.getD i default) : sameF a b = true := by
  rw [sameF, decide_eq_true_eq]
  apply List.ext_getElem hl
  intro i h1 h2
  have := h i h1
  simpa [List.getD, h1, h2] using this
theorem same_false {α : Type} [DecidableEq α] [Inhabited α] {a b : List α} {i : Nat} (h : ¬ a.getD i default = b.getD i default) : sameF a b = false := by
  rw [sameF, decide_eq_false_iff_not]
  rintro rfl
  exact h rfl
theorem same_len {α : Type} [DecidableEq α] {a b : List α} (h : ¬ a.length = b.length) : sameF a b = false := by
  rw [sameF, decide_eq_false_iff_not]
  rintro rfl
  exact h rfl
theorem same_refl {α : Type} [DecidableEq α] (a : List α) : sameF a a = true := by simp [sameF]
end Go.Sx

namespace Go.Sx
open Go
theorem bl_tot {a b : List UInt8} (h1 : Op.bytesLess a b = false) (h2 : a ≠ b) : Op.bytesLess b a = true := by
  by_cases h : Op.bytesLess b a = true
  · exact h
  · exact absurd (bl_tri h1 (by simpa using h)) h2
theorem RowLe.allD {len sz : Nat} {get get' : Nat → Nat → D} (h : AllLt (fun i => AllLt (fun j => DLe (get i j) (get' i j)) sz) len) : RowLe len sz get get' :=
  ⟨fun i j hi hj => (h.out i hi).out j hj⟩
end Go.Sx

namespace Go.Sx
open Go
theorem get_memT {rows : List Row} (hs : Sorted rows) {q : Row} (hq : q ∈ rows) : getF rows q.1 = (q.2, true) := by
  induction rows with
  | nil => cases hq
  | cons r l ih =>
    have hs' := List.pairwise_cons.1 hs
    unfold getF at ih ⊢
    rw [List.find?_cons]
    rcases List.mem_cons.1 hq with rfl | hq
    · simp
    · have hne : (r.1 == q.1) = false := by
        simp only [beq_eq_false_iff_ne, ne_eq]
        exact bl_ne (hs'.1 q hq)
      rw [hne]
      exact ih hs'.2 hq
theorem get_true {rows : List Row} {k : List UInt8} (h : (getF rows k).2 = true) : ∃ r ∈ rows, r.1 = k ∧ getF rows k = (r.2, true) := by
  unfold getF at h ⊢
  split at h
  · rename_i r hr
    exact ⟨r, List.mem_of_find?_eq_some hr, by simpa using List.find?_some hr, by simp⟩
  · cases h
theorem get_false {rows : List Row} {k : List UInt8} (h : (getF rows k).2 = false) : getF rows k = ([], false) := by
  unfold getF at h ⊢
  split at h
  · cases h
  · rfl
theorem sorted_keys {rows : List Row} (h : Sorted rows) : (rows.map (·.1)).Nodup := by
  rw [List.Nodup, List.pairwise_map]
  exact h.imp (fun h => bl_ne h)
theorem sorted_ext : ∀ {a b : List Row}, Sorted a → Sorted b → (∀ q, getF a q = getF b q) → a = b
  | [], [], _, _, _ => rfl
  | [], r :: b, _, hb, h => by
    have := h r.1
    rw [get_memT hb (q := r) (by simp)] at this
    simp [getF] at this
  | r :: a, [], ha, _, h => by
    have := h r.1
    rw [get_memT ha (q := r) (by simp)] at this
    simp [getF] at this
  | r :: a, s :: b, ha, hb, h => by
    have ha' := List.pairwise_cons.1 ha
    have hb' := List.pairwise_cons.1 hb
    have h1 := h r.1
    rw [get_memT ha (q := r) (by simp)] at h1
    have h2 := h s.1
    rw [get_memT hb (q := s) (by simp)] at h2
    have hk : r.1 = s.1 := by
      obtain ⟨x, hx, ex, _⟩ := get_true (by rw [← h1] : (getF (s :: b) r.1).2 = true)
      obtain ⟨y, hy, ey, _⟩ := get_true (by rw [h2] : (getF (r :: a) s.1).2 = true)
      rcases List.mem_cons.1 hx with rfl | hx
      · exact ex.symm
      · rcases List.mem_cons.1 hy with rfl | hy
        · exact ey
        · have g1 := hb'.1 x hx
          have g2 := ha'.1 y hy
          rw [ex] at g1
          rw [ey] at g2
          have := bl_trans g1 g2
          rw [bl_irrefl] at this
          cases this
    have hv : r.2 = s.2 := by
      rw [hk, get_memT hb (q := s) (by simp)] at h1
      simpa using h1
    have hrs : r = s := Prod.ext hk hv
    subst hrs
    congr 1
    refine sorted_ext ha'.2 hb'.2 (fun q => ?_)
    have := h q
    by_cases hq : (r.1 == q) = true
    · have hq' : r.1 = q := by simpa using hq
      subst hq'
      have e1 : a.find? (fun x => x.1 == r.1) = none := by
        rw [List.find?_eq_none]
        intro x hx e
        have e : x.1 = r.1 := by simpa using e
        have := ha'.1 x hx
        rw [e, bl_irrefl] at this
        cases this
      have e2 : b.find? (fun x => x.1 == r.1) = none := by
        rw [List.find?_eq_none]
        intro x hx e
        have e : x.1 = r.1 := by simpa using e
        have := hb'.1 x hx
        rw [e, bl_irrefl] at this
        cases this
      simp only [getF, e1, e2]
    · have hq : (r.1 == q) = false := by simpa using hq
      simpa only [getF, List.find?_cons, hq] using this
end Go.Sx

namespace Go.Sx
open Go
def ltR (a b : Row) : Bool := Op.bytesLess a.1 b.1
theorem bl_ntrans {a b c : List UInt8} (h1 : Op.bytesLess a b = false) (h2 : Op.bytesLess b c = false) : Op.bytesLess a c = false := by
  cases h : Op.bytesLess a c with
  | false => rfl
  | true =>
    by_cases e : a = b
    · subst e; rw [h] at h2; cases h2
    · have h3 := bl_tot h1 e
      have := bl_trans h3 h
      rw [this] at h2; cases h2
theorem swo_ltR : Sort.SWO ltR := ⟨fun x => bl_irrefl _, fun x y z h1 h2 => bl_trans h1 h2, fun x y z h1 h2 => bl_ntrans h1 h2⟩
/-- two ascending lists with the same rows -/
theorem sorted_same {a b : List Row} (ha : Sorted a) (hb : Sorted b) (h : ∀ r, r ∈ a ↔ r ∈ b) : a = b := by
  refine sorted_ext ha hb fun q => ?_
  cases e : (getF a q).2 with
  | true =>
    obtain ⟨r, hr, hk, hg⟩ := get_true e
    have := get_memT hb ((h r).1 hr)
    rw [hk] at this
    rw [hg, this]
  | false =>
    rw [get_false e]
    cases e2 : (getF b q).2 with
    | false => rw [get_false e2]
    | true =>
      obtain ⟨r, hr, hk, hg⟩ := get_true e2
      have := get_memT ha ((h r).2 hr)
      rw [hk] at this
      rw [this] at e; cases e
theorem withF_mem {rows : List Row} {y r : Row} : r ∈ withF rows y ↔ r = y ∨ (r ∈ rows ∧ r.1 ≠ y.1) := by
  unfold withF
  rw [ins_mem]
  constructor
  · rintro (h | h)
    · exact .inl h
    · exact .inr (without_ne h)
  · rintro (h | ⟨h1, h2⟩)
    · exact .inl h
    · refine .inr ?_
      simp only [withoutF, List.mem_filter]
      exact ⟨h1, by simpa using h2⟩
theorem withF_sorted {rows : List Row} {y : Row} (h : Sorted rows) : Sorted (withF rows y) :=
  ins_sorted (h.sub without_sub) (fun r hr => (without_ne hr).2)
theorem fold_sorted : ∀ {B A : List Row}, Sorted A → Sorted (B.foldl withF A)
  | [], A, h => h
  | y :: B, A, h => fold_sorted (B := B) (withF_sorted h)
theorem fold_mem : ∀ {B A : List Row}, Sorted B → (∀ a ∈ A, ∀ b ∈ B, a.1 ≠ b.1) → ∀ r, r ∈ B.foldl withF A ↔ r ∈ A ∨ r ∈ B
  | [], A, _, _, r => by simp
  | y :: B, A, hB, hd, r => by
    have hB' := List.pairwise_cons.1 hB
    rw [List.foldl_cons, fold_mem hB'.2 ?_ r, withF_mem, List.mem_cons]
    · constructor
      · rintro ((rfl | ⟨h, _⟩) | h)
        · exact .inr (.inl rfl)
        · exact .inl h
        · exact .inr (.inr h)
      · rintro (h | rfl | h)
        · exact .inl (.inr ⟨h, hd r h y (by simp)⟩)
        · exact .inl (.inl rfl)
        · exact .inr h
    · intro a ha b hb
      rw [withF_mem] at ha
      rcases ha with rfl | ⟨ha, _⟩
      · intro e
        have := hB'.1 b hb
        rw [← e, bl_irrefl] at this; cases this
      · exact hd a ha b (by simp [hb])
/-- what any sort of the rows outside and inside gives is what puts one after another give -/
theorem sort_fold {A B M : List Row} (hA : Sorted A) (hB : Sorted B) (hd : ∀ a ∈ A, ∀ b ∈ B, a.1 ≠ b.1) (hp : M.Perm (A ++ B)) (hs : ∀ i j, i < j → j < M.length → ltR (M.getD j default) (M.getD i default) = false) : M = B.foldl withF A := by
  have hnd : ((A ++ B).map (·.1)).Nodup := by
    rw [List.map_append, List.nodup_append]
    refine ⟨sorted_keys hA, sorted_keys hB, ?_⟩
    intro x hx y hy e
    obtain ⟨a, ha, rfl⟩ := List.mem_map.1 hx
    obtain ⟨b, hb, rfl⟩ := List.mem_map.1 hy
    exact hd a ha b hb e
  have hnM : (M.map (·.1)).Nodup := (hp.map _).nodup_iff.2 hnd
  have hM : Sorted M := by
    rw [Sorted, List.pairwise_iff_getElem]
    intro i j hi hj hij
    have h1 := hs i j hij hj
    have ei : M.getD i default = M[i] := by simp [List.getD, hi]
    have ej : M.getD j default = M[j] := by simp [List.getD, hj]
    rw [ei, ej] at h1
    refine bl_tot h1 ?_
    intro e
    have := List.pairwise_iff_getElem.1 hnM i j (by simpa using hi) (by simpa using hj) hij
    simp only [List.getElem_map] at this
    exact this e.symm
  refine sorted_same hM (fold_sorted hA) fun r => ?_
  rw [fold_mem hB hd r, hp.mem_iff, List.mem_append]
end Go.Sx

namespace Go.Sx
open Go
theorem getD_memT {F : List Row} {i : Nat} (h : i < F.length) : F.getD i default ∈ F := by
  have : F.getD i default = F[i] := by simp [List.getD, h]
  rw [this]
  exact List.getElem_mem h
end Go.Sx
