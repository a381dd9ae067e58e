/- Part of a symbolic executor over the model, proved sound, with plain laws: SxTab. Written for these claims. -/
import Derived.Test.YtfjiffbacallhaaSxArg
set_option linter.unusedVariables false
set_option linter.unusedSimpArgs false
namespace Go.Sx
open Go
def validB (k : List UInt8) (t : Bool) : Bool := decide ((k.length : Int) ≤ 64) && (!t || k == [])
def cmpB (ak : List UInt8) (at_ : Bool) (bk : List UInt8) (bt : Bool) : Int :=
  if at_ && bt then 0 else if at_ then 1 else if bt || Op.bytesLess ak bk then -1 else if Op.bytesLess bk ak then 1 else 0
def validR (lk : List UInt8) (lt : Bool) (hk : List UInt8) (ht : Bool) : Bool := validB lk lt && validB hk ht && decide (cmpB lk lt hk ht ≤ 0)
def emptyR (lk : List UInt8) (lt : Bool) (hk : List UInt8) (ht : Bool) : Bool := !(validR lk lt hk ht) || cmpB lk lt hk ht == 0
def containsR (lk : List UInt8) (lt : Bool) (hk : List UInt8) (ht : Bool) (k : List UInt8) : Bool :=
  !(emptyR lk lt hk ht) && decide ((k.length : Int) ≤ 64) && decide (cmpB lk lt k false ≤ 0) && decide (cmpB k false hk ht < 0)
abbrev Row := List UInt8 × List UInt8
def encRow (r : Row) : List D := [.str r.1, .str r.2]
def rowOk (r : Row) : Bool := decide ((r.1.length : Int) ≤ 64) && decide ((r.2.length : Int) ≤ 64)
def chkT (rows : List Row) (i : Nat) : Bool := rowOk (rows.getD i default) && (i == 0 || Op.bytesLess (rows.getD (i - 1) default).1 (rows.getD i default).1)
def validT (rows : List Row) : Bool := decide (rows.length ≤ 1024) && (List.range rows.length).all (chkT rows)
theorem validT_false {rows : List Row} {i : Nat} (hi : i < rows.length) (h : chkT rows i = false) : validT rows = false := by
  unfold validT
  cases h1 : (List.range rows.length).all (chkT rows) with
  | false => simp
  | true =>
    have := List.all_eq_true.1 h1 i (List.mem_range.2 hi)
    rw [h] at this
    cases this
theorem validT_true {rows : List Row} (hl : rows.length ≤ 1024) (h : ∀ i, i < rows.length → chkT rows i = true) : validT rows = true := by
  unfold validT
  rw [List.all_eq_true.2 (fun i hi => h i (List.mem_range.1 hi))]
  simp [hl]
def withoutF (rows : List Row) (k : List UInt8) : List Row := rows.filter fun r => !(r.1 == k)
def insF (x : Row) : List Row → List Row
  | [] => [x]
  | r :: l => if Op.bytesLess x.1 r.1 then x :: r :: l else r :: insF x l
def withF (rows : List Row) (x : Row) : List Row := insF x (withoutF rows x.1)
theorem without_len {rows : List Row} {k : List UInt8} : (withoutF rows k).length ≤ rows.length := List.length_filter_le _ _
theorem ins_len {x : Row} : ∀ {l : List Row}, (insF x l).length = l.length + 1
  | [] => rfl
  | r :: l => by
    simp only [insF]
    split
    · rfl
    · simp [ins_len (l := l)]
def putF (rows : List Row) (k v : List UInt8) : List Row × Int :=
  if !(validT rows) || !(validT [(k, v)]) then ([], 1) else if (withF rows (k, v)).length > 1024 then ([], 16) else (withF rows (k, v), 0)
theorem validT_len {rows : List Row} (h : validT rows = true) : rows.length ≤ 1024 := by
  simp only [validT, Bool.and_eq_true, decide_eq_true_eq] at h
  exact h.1
def Sorted (rows : List Row) : Prop := rows.Pairwise fun a b => Op.bytesLess a.1 b.1 = true
structure TabOk (rows : List Row) : Prop where
  len : rows.length ≤ 1024
  ok : ∀ r ∈ rows, rowOk r = true
  sorted : Sorted rows
theorem validT_iff {rows : List Row} : validT rows = true ↔ TabOk rows := by
  constructor
  · intro h
    simp only [validT, Bool.and_eq_true, decide_eq_true_eq, List.all_eq_true, List.mem_range] at h
    obtain ⟨h1, h2⟩ := h
    have ok : ∀ i (hi : i < rows.length), rowOk rows[i] = true ∧ (∀ j (hj : j + 1 = i), Op.bytesLess (rows[j]'(by omega)).1 rows[i].1 = true) := by
      intro i hi
      have := h2 i hi
      simp only [chkT, Bool.and_eq_true, Bool.or_eq_true, beq_iff_eq] at this
      refine ⟨by simpa [List.getD, hi] using this.1, fun j hj => ?_⟩
      subst hj
      have h3 := this.2.resolve_left (by omega)
      simpa [List.getD, hi, show j < rows.length by omega] using h3
    refine ⟨h1, fun r hr => ?_, ?_⟩
    · obtain ⟨i, hi, rfl⟩ := List.getElem_of_mem hr
      exact (ok i hi).1
    · rw [Sorted, List.pairwise_iff_getElem]
      intro i j hi hj hij
      induction j with
      | zero => omega
      | succ j ih =>
        have hs := (ok (j + 1) hj).2 j rfl
        rcases Nat.lt_or_ge i j with h | h
        · exact bl_trans (ih (by omega) h) hs
        · have : i = j := by omega
          subst this
          exact hs
  · intro h
    refine validT_true h.len (fun i hi => ?_)
    have h1 : rowOk (rows.getD i default) = true := by
      have e : rows.getD i default = rows[i] := by simp [List.getD, hi]
      rw [e]
      exact h.ok _ (List.getElem_mem hi)
    simp only [chkT, h1, Bool.true_and, Bool.or_eq_true, beq_iff_eq]
    rcases Nat.eq_zero_or_pos i with h0 | h0
    · exact .inl h0
    · right
      have := List.pairwise_iff_getElem.1 h.sorted (i - 1) i (by omega) hi (by omega)
      simpa [List.getD, hi, show i - 1 < rows.length by omega] using this
theorem Sorted.sub {l m : List Row} (h : Sorted m) (hs : l.Sublist m) : Sorted l := List.Pairwise.sublist hs h
theorem without_sub {rows : List Row} {k : List UInt8} : (withoutF rows k).Sublist rows := List.filter_sublist
theorem without_ne {rows : List Row} {k : List UInt8} {r : Row} (h : r ∈ withoutF rows k) : r ∈ rows ∧ r.1 ≠ k := by
  simp only [withoutF, List.mem_filter, Bool.not_eq_true', beq_eq_false_iff_ne, ne_eq] at h
  exact h
theorem ins_mem {x r : Row} : ∀ {l : List Row}, r ∈ insF x l ↔ r = x ∨ r ∈ l
  | [] => by simp [insF]
  | y :: l => by
    simp only [insF]
    split
    · simp
    · simp only [List.mem_cons, ins_mem (l := l)]
      constructor
      · rintro (h | h | h)
        · exact .inr (.inl h)
        · exact .inl h
        · exact .inr (.inr h)
      · rintro (h | h | h)
        · exact .inr (.inl h)
        · exact .inl h
        · exact .inr (.inr h)
theorem ins_sorted {x : Row} : ∀ {l : List Row}, Sorted l → (∀ r ∈ l, r.1 ≠ x.1) → Sorted (insF x l)
  | [], _, _ => by simp [insF, Sorted]
  | y :: l, h, hn => by
    simp only [Sorted, List.pairwise_cons] at h
    simp only [insF]
    split
    · rename_i hx
      simp only [Sorted, List.pairwise_cons]
      refine ⟨fun r hr => ?_, h⟩
      rcases List.mem_cons.1 hr with rfl | hr
      · exact hx
      · exact bl_trans hx (h.1 r hr)
    · rename_i hx
      have hx : Op.bytesLess x.1 y.1 = false := by simpa using hx
      have hyx : Op.bytesLess y.1 x.1 = true := by
        cases h2 : Op.bytesLess y.1 x.1 with
        | true => rfl
        | false => exact absurd (bl_tri h2 hx) (hn y (by simp))
      simp only [Sorted, List.pairwise_cons]
      refine ⟨fun r hr => ?_, ins_sorted h.2 (fun r hr => hn r (by simp [hr]))⟩
      rcases ins_mem.1 hr with rfl | hr
      · exact hyx
      · exact h.1 r hr
theorem with_ok {rows : List Row} {x : Row} (h : TabOk rows) (hx : rowOk x = true) : (∀ r ∈ withF rows x, rowOk r = true) ∧ Sorted (withF rows x) ∧ (withF rows x).length ≤ rows.length + 1 := by
  refine ⟨fun r hr => ?_, ?_, ?_⟩
  · rcases ins_mem.1 hr with rfl | hr
    · exact hx
    · exact h.ok r (without_ne hr).1
  · exact ins_sorted (h.sorted.sub without_sub) (fun r hr => (without_ne hr).2)
  · unfold withF
    rw [ins_len]
    have := without_len (rows := rows) (k := x.1)
    omega
theorem tabOk_nil : TabOk [] := ⟨by simp, by simp, .nil⟩
theorem validT_one {k v : List UInt8} : validT [(k, v)] = rowOk (k, v) := by
  simp [validT, chkT, List.range_succ]
theorem put_ok {rows : List Row} {k v : List UInt8} (h : TabOk rows) : TabOk (putF rows k v).1 ∧ (putF rows k v).1.length ≤ rows.length + 1 := by
  unfold putF
  split
  · exact ⟨tabOk_nil, by simp⟩
  · rename_i hv
    split
    · exact ⟨tabOk_nil, by simp⟩
    · rename_i hl
      simp only [Bool.or_eq_true, Bool.not_eq_true', not_or, Bool.not_eq_false, validT_one] at hv
      have hk := with_ok h hv.2
      exact ⟨⟨by simp only; omega, hk.1, hk.2.1⟩, hk.2.2⟩
def sliceF (rows : List Row) (lk : List UInt8) (lt : Bool) (hk : List UInt8) (ht : Bool) : List Row := rows.filter fun r => containsR lk lt hk ht r.1
theorem slice_keep {rows : List Row} {lk : List UInt8} {lt : Bool} {hk : List UInt8} {ht : Bool} {i : Nat} (h : i < rows.length) (hc : containsR lk lt hk ht (rows.getD i default).1 = true) : sliceF (rows.take (i + 1)) lk lt hk ht = sliceF (rows.take i) lk lt hk ht ++ [rows.getD i default] := by
  rw [take_succ' h, sliceF, List.filter_append, List.filter_cons, if_pos hc, List.filter_nil]; rfl
theorem slice_drop {rows : List Row} {lk : List UInt8} {lt : Bool} {hk : List UInt8} {ht : Bool} {i : Nat} (h : i < rows.length) (hc : containsR lk lt hk ht (rows.getD i default).1 = false) : sliceF (rows.take (i + 1)) lk lt hk ht = sliceF (rows.take i) lk lt hk ht := by
  rw [take_succ' h, sliceF, List.filter_append, List.filter_cons, if_neg (by rw [hc]; simp), List.filter_nil, List.append_nil]; rfl
theorem slice_len {rows : List Row} {lk : List UInt8} {lt : Bool} {hk : List UInt8} {ht : Bool} : (sliceF rows lk lt hk ht).length ≤ rows.length := List.length_filter_le _ _
theorem cmp_lt {ak : List UInt8} {a : Bool} {bk : List UInt8} {b : Bool} : cmpB ak a bk b < 0 ↔ (a = false ∧ (b = true ∨ Op.bytesLess ak bk = true)) := by
  unfold cmpB
  cases a <;> cases b <;> cases h : Op.bytesLess ak bk <;> simp
  split <;> omega
theorem cmp_le {ak : List UInt8} {a : Bool} {bk : List UInt8} {b : Bool} : cmpB ak a bk b ≤ 0 ↔ (b = true ∨ (a = false ∧ Op.bytesLess bk ak = false)) := by
  unfold cmpB
  cases a <;> cases b <;> cases h : Op.bytesLess ak bk <;> cases h2 : Op.bytesLess bk ak <;> simp
  exact absurd (bl_trans h h2) (by rw [bl_irrefl]; simp)
theorem cmp_le_not {ak : List UInt8} {a : Bool} {bk : List UInt8} {b : Bool} : cmpB ak a bk b ≤ 0 ↔ ¬ cmpB bk b ak a < 0 := by
  rw [cmp_le, cmp_lt]
  cases a <;> cases b <;> simp
theorem cmp_lt_trans {ak : List UInt8} {a : Bool} {bk : List UInt8} {b : Bool} {ck : List UInt8} {c : Bool} (h1 : cmpB ak a bk b < 0) (h2 : cmpB bk b ck c < 0) : cmpB ak a ck c < 0 := by
  rw [cmp_lt] at *
  obtain ⟨rfl, h1⟩ := h1
  obtain ⟨rfl, h2⟩ := h2
  refine ⟨rfl, ?_⟩
  rcases h2 with h2 | h2
  · exact .inl h2
  · rcases h1 with h1 | h1
    · cases h1
    · exact .inr (bl_trans h1 h2)
/-- the rows below a bound -/
def belowF (rows : List Row) (k : List UInt8) (t : Bool) : List Row := rows.filter fun r => decide (cmpB r.1 false k t < 0)
/-- a downward part of a sorted list stands in front -/
theorem filter_split {p q : Row → Bool} : ∀ {rows : List Row}, Sorted rows → (∀ r s : Row, Op.bytesLess r.1 s.1 = true → p s = true → p r = true) → (∀ r ∈ rows, p r = true → q r = true) →
    rows.filter q = rows.filter p ++ rows.filter (fun r => q r && !(p r))
  | [], _, _, _ => rfl
  | r :: rows, hs, hd, hq => by
    simp only [Sorted, List.pairwise_cons] at hs
    have ih := filter_split (rows := rows) hs.2 hd (fun s h => hq s (by simp [h]))
    cases hp : p r with
    | true => simp [List.filter_cons, hp, hq r (by simp) hp, ih]
    | false =>
      have hno : rows.filter p = [] := by
        rw [List.filter_eq_nil_iff]
        intro s hs' hps
        rw [hd r s (hs.1 s hs') hps] at hp
        cases hp
      rw [hno, List.nil_append] at ih
      cases hqr : q r <;> simp [List.filter_cons, hp, hqr, hno, ih]
theorem below_split {rows : List Row} (h : TabOk rows) {ak : List UInt8} {a : Bool} {ck : List UInt8} {c : Bool} (ha : validB ak a = true) (hc : validB ck c = true) (hac : cmpB ak a ck c < 0) :
    belowF rows ck c = belowF rows ak a ++ sliceF rows ak a ck c := by
  unfold belowF sliceF
  rw [filter_split (p := fun r => decide (cmpB r.1 false ak a < 0)) h.sorted]
  · congr 1
    apply List.filter_congr
    intro r hr
    have hk := h.ok r hr
    simp only [rowOk, Bool.and_eq_true, decide_eq_true_eq] at hk
    have hne : emptyR ak a ck c = false := by
      simp only [emptyR, validR, ha, hc, Bool.true_and, Bool.or_eq_false_iff, Bool.not_eq_false', decide_eq_true_eq, beq_eq_false_iff_ne]
      exact ⟨by omega, by omega⟩
    have hle : (cmpB ak a r.1 false ≤ 0) ↔ ¬ (cmpB r.1 false ak a < 0) := cmp_le_not
    simp only [containsR, hne, hk.1, Bool.not_false, decide_true, Bool.true_and, hle, decide_not]
    rw [Bool.and_comm]
  · intro r s hrs hps
    simp only [decide_eq_true_eq] at hps ⊢
    exact cmp_lt_trans (cmp_lt.2 ⟨rfl, .inr hrs⟩) hps
  · intro r _ hp
    simp only [decide_eq_true_eq] at hp ⊢
    exact cmp_lt_trans hp hac
theorem below_first {rows : List Row} : belowF rows [] false = [] := by
  unfold belowF
  rw [List.filter_eq_nil_iff]
  intro r _
  rw [decide_eq_true_eq, cmp_lt]
  simp [bl_nil]
end Go.Sx

namespace Go.Sx
open Go
structure FoldR where
  count : Int
  numbers : Int
  sum : Int
  low : Int
  high : Int
  first : List UInt8
  last : List UInt8
def numLoop (s : List UInt8) : Nat → Nat → Int → Option Int
  | 0, _, acc => some acc
  | f + 1, pos, acc => if pos < s.length then
      (if ((runeAt s pos).1 : Int) < 48 ∨ ((runeAt s pos).1 : Int) > 57 then none
       else
         if IntKind.i64.wrap (IntKind.i64.wrap (acc * 10) + IntKind.i64.wrap (IntKind.i32.wrap ((runeAt s pos).1 - 48))) > 1000000000000 then none
         else numLoop s f (pos + (runeAt s pos).2) (IntKind.i64.wrap (IntKind.i64.wrap (acc * 10) + IntKind.i64.wrap (IntKind.i32.wrap ((runeAt s pos).1 - 48)))))
    else some acc
def numTail (s : List UInt8) (neg : Bool) : Int × Bool :=
  if s = [] then (0, false)
  else if ((s.getD 0 0).toNat : Int) = 48 ∧ ((s.length : Int) > 1 ∨ neg = true) then (0, false)
  else match numLoop s s.length 0 0 with
    | none => (0, false)
    | some v => (if neg then IntKind.i64.wrap (0 - v) else v, true)
def number (l : List UInt8) : Int × Bool :=
  if (l.length : Int) > 0 ∧ ((l.getD 0 0).toNat : Int) = 45 then numTail (l.drop 1) true else numTail l false
abbrev cells (f : FoldR) : List SV := [.d (.int .i64 f.count), .d (.int .i64 f.numbers), .d (.int .i64 f.sum), .d (.int .i64 f.low), .d (.int .i64 f.high), .d (.str f.first), .d (.str f.last)]
def addF (f : FoldR) (k v : List UInt8) : FoldR :=
  if (number v).2 = true then
    { count := IntKind.i64.wrap (f.count + 1), first := if f.count = 0 then k else f.first, last := k, numbers := IntKind.i64.wrap (f.numbers + 1), sum := IntKind.i64.wrap (f.sum + (number v).1),
      low := if f.numbers = 0 ∨ (number v).1 < f.low then (number v).1 else f.low, high := if f.numbers = 0 ∨ (number v).1 > f.high then (number v).1 else f.high }
  else { count := IntKind.i64.wrap (f.count + 1), first := if f.count = 0 then k else f.first, last := k, numbers := f.numbers, sum := f.sum, low := f.low, high := f.high }
theorem refPre_drop {s : List UInt8} {i : Nat} (h : i < s.length) : s.drop i = s.getD i 0 :: s.drop (i + 1) := by
  rw [List.drop_eq_getElem_cons h]
  simp [List.getD, h]
def byteLoop : List UInt8 → Int → Option Int
  | [], acc => some acc
  | b :: l, acc => if (b.toNat : Int) < 48 ∨ (b.toNat : Int) > 57 then none else if acc * 10 + (b.toNat - 48) > 1000000000000 then none else byteLoop l (acc * 10 + (b.toNat - 48))
theorem wrap32_of {n : Int} (h1 : -2147483648 ≤ n) (h2 : n < 2147483648) : IntKind.i32.wrap n = n := by
  simp [IntKind.wrap, IntKind.bits, IntKind.signed]
  split <;> omega
theorem wrapu8_of {n : Int} (h1 : 0 ≤ n) (h2 : n < 256) : IntKind.u8.wrap n = n := by
  simp [IntKind.wrap, IntKind.bits, IntKind.signed]
  omega
theorem runeAt_low {s : List UInt8} {pos : Nat} (h : pos < s.length) (hb : (s.getD pos 0).toNat < 128) : runeAt s pos = ((s.getD pos 0).toNat, 1) := by
  have e : (s.getD pos 0) = (ByteArray.mk ⟨s⟩)[pos]'h := by simp [List.getD, h]; rfl
  rw [e] at hb ⊢
  exact decode_ascii ⟨⟨s⟩⟩ pos h hb
theorem runeAt_high {s : List UInt8} {pos : Nat} (h : pos < s.length) (hb : ¬ (s.getD pos 0).toNat < 128) : 128 ≤ (runeAt s pos).1 := by
  have e : (s.getD pos 0) = (ByteArray.mk ⟨s⟩)[pos]'h := by simp [List.getD, h]; rfl
  rw [e] at hb
  exact (decode_high ⟨⟨s⟩⟩ pos h (by omega)).1
theorem numLoop_bytes {s : List UInt8} : ∀ (f pos : Nat) (acc : Int), s.length ≤ pos + f → 0 ≤ acc → acc ≤ 1000000000000 → numLoop s f pos acc = byteLoop (s.drop pos) acc
  | 0, pos, acc, h, _, _ => by rw [List.drop_eq_nil_of_le (by omega)]; rfl
  | f + 1, pos, acc, h, h0, h1 => by
    by_cases hp : pos < s.length
    · rw [refPre_drop hp]
      by_cases hb : (s.getD pos 0).toNat < 128
      · simp only [numLoop, hp, if_true, runeAt_low hp hb, byteLoop]
        generalize (s.getD pos 0).toNat = b at *
        by_cases hd : (b : Int) < 48 ∨ (b : Int) > 57
        · simp only [hd, if_true]
        · simp only [hd, if_false]
          have w1 : IntKind.i64.wrap (acc * 10) = acc * 10 := wrap_of (by omega) (by omega)
          have w2 : IntKind.i32.wrap ((b : Int) - 48) = (b : Int) - 48 := wrap32_of (by omega) (by omega)
          have w3 : IntKind.i64.wrap ((b : Int) - 48) = (b : Int) - 48 := wrap_of (by omega) (by omega)
          have w4 : IntKind.i64.wrap (acc * 10 + ((b : Int) - 48)) = acc * 10 + ((b : Int) - 48) := wrap_of (by omega) (by omega)
          rw [w1, w2, w3, w4]
          by_cases hbig : acc * 10 + ((b : Int) - 48) > 1000000000000
          · simp only [hbig, if_true]
          · simp only [hbig, if_false]
            exact numLoop_bytes f (pos + 1) _ (by omega) (by omega) (by omega)
      · have hr := runeAt_high hp hb
        simp only [numLoop, hp, if_true, byteLoop]
        rw [if_pos (Or.inr (show ((runeAt s pos).1 : Int) > 57 by omega)), if_pos (Or.inr (show ((s.getD pos 0).toNat : Int) > 57 by omega))]
    · rw [List.drop_eq_nil_of_le (by omega)]
      simp only [numLoop, hp, if_false, byteLoop]
theorem numLoop_all (s : List UInt8) : numLoop s s.length 0 0 = byteLoop s 0 := by
  rw [numLoop_bytes s.length 0 0 (by omega) (by decide) (by decide)]; rfl
theorem byteLoop_low : ∀ {l : List UInt8} {acc v : Int}, byteLoop l acc = some v → 0 ≤ acc → acc * 10 ^ l.length ≤ v ∧ (acc ≤ 1000000000000 → v ≤ 1000000000000)
  | [], acc, v, h, _ => by
    simp only [byteLoop, Option.some.injEq] at h
    subst h
    simp
  | b :: l, acc, v, h, h0 => by
    simp only [byteLoop] at h
    split at h
    · cases h
    · rename_i hd
      split at h
      · cases h
      · rename_i hb
        obtain ⟨h1, h2⟩ := byteLoop_low h (by omega)
        refine ⟨?_, fun _ => h2 (by omega)⟩
        rw [List.length_cons, Int.pow_succ]
        have hp : (0 : Int) ≤ 10 ^ l.length := Int.pow_nonneg (by decide)
        have h3 : acc * 10 * 10 ^ l.length ≤ (acc * 10 + ((b.toNat : Int) - 48)) * 10 ^ l.length := Int.mul_le_mul_of_nonneg_right (by omega) hp
        have h4 : acc * (10 ^ l.length * 10) = acc * 10 * 10 ^ l.length := by rw [Int.mul_comm (10 ^ l.length) 10, Int.mul_assoc]
        rw [h4]
        omega
def foldZ : FoldR := ⟨0, 0, 0, 0, 0, [], []⟩
def foldOf (rows : List Row) : FoldR := rows.foldl (fun f r => addF f r.1 r.2) foldZ
def joinF (a b : FoldR) : FoldR :=
  { count := IntKind.i64.wrap (a.count + b.count), numbers := IntKind.i64.wrap (a.numbers + b.numbers), sum := IntKind.i64.wrap (a.sum + b.sum),
    low := if a.numbers = 0 then b.low else if b.numbers = 0 then a.low else if b.low < a.low then b.low else a.low,
    high := if a.numbers = 0 then b.high else if b.numbers = 0 then a.high else if b.high > a.high then b.high else a.high,
    first := if a.count = 0 then b.first else a.first, last := if b.count = 0 then a.last else b.last }
def oneF (k v : List UInt8) : FoldR :=
  if (number v).2 = true then ⟨1, 1, (number v).1, (number v).1, (number v).1, k, k⟩ else ⟨1, 0, 0, 0, 0, k, k⟩
def refOf (rows : List Row) : FoldR := rows.foldl (fun f r => joinF f (oneF r.1 r.2)) foldZ
structure FoldB (m : Nat) (f : FoldR) : Prop where
  c : f.count = m
  n1 : 0 ≤ f.numbers
  n2 : f.numbers ≤ m
  s1 : -(m * 1000000000000) ≤ f.sum
  s2 : f.sum ≤ m * 1000000000000
  l1 : -1000000000000 ≤ f.low
  l2 : f.low ≤ 1000000000000
  h1 : -1000000000000 ≤ f.high
  h2 : f.high ≤ 1000000000000
  z : f.numbers = 0 → f.sum = 0 ∧ f.low = 0 ∧ f.high = 0
  zc : f.count = 0 → f.first = [] ∧ f.last = []
theorem number_in (v : List UInt8) : -1000000000000 ≤ (number v).1 ∧ (number v).1 ≤ 1000000000000 := by
  have key : ∀ (s : List UInt8) (neg : Bool), -1000000000000 ≤ (numTail s neg).1 ∧ (numTail s neg).1 ≤ 1000000000000 := by
    intro s neg
    unfold numTail
    split
    · exact ⟨by decide, by decide⟩
    · split
      · exact ⟨by decide, by decide⟩
      · rw [numLoop_all]
        cases hv : byteLoop s 0 with
        | none => exact ⟨by simp, by simp⟩
        | some v =>
          obtain ⟨h1, h2⟩ := byteLoop_low hv (by decide)
          have h2 := h2 (by decide)
          simp only
          split
          · rw [wrap_of (by omega) (by omega)]; omega
          · omega
  unfold number
  split
  · exact key _ _
  · exact key _ _
theorem add_join {f : FoldR} {m : Nat} {k v : List UInt8} (hm : m ≤ 9000000) (h : FoldB m f) : addF f k v = joinF f (oneF k v) := by
  have hn := number_in v
  have h1 := h.n1
  have h2 := h.n2
  have h3 := h.s1
  have h4 := h.s2
  unfold addF joinF oneF
  by_cases hv : (number v).2 = true
  · simp only [hv, if_true]
    by_cases h0 : f.numbers = 0
    · simp [h0]
    · simp [h0]
  · simp only [hv, if_false, Bool.false_eq_true, if_true]
    have w1 : IntKind.i64.wrap (f.numbers + 0) = f.numbers := by rw [Int.add_zero]; exact wrap_of (by omega) (by omega)
    have w2 : IntKind.i64.wrap (f.sum + 0) = f.sum := by rw [Int.add_zero]; exact wrap_of (by omega) (by omega)
    rw [w1, w2]
    by_cases h0 : f.numbers = 0
    · simp [h0, h.z h0]
    · simp [h0]
theorem add_b {f : FoldR} {m : Nat} {k v : List UInt8} (hm : m < 9000000) (h : FoldB m f) : FoldB (m + 1) (addF f k v) := by
  have hn := number_in v
  obtain ⟨c, n1, n2, s1, s2, l1, l2, h1, h2, z, zc⟩ := h
  have wc : IntKind.i64.wrap (f.count + 1) = f.count + 1 := wrap_of (by omega) (by omega)
  have wn : IntKind.i64.wrap (f.numbers + 1) = f.numbers + 1 := wrap_of (by omega) (by omega)
  have ws : IntKind.i64.wrap (f.sum + (number v).1) = f.sum + (number v).1 := wrap_of (by omega) (by omega)
  unfold addF
  by_cases hv : (number v).2 = true
  · simp only [hv, if_true, wc, wn, ws]
    constructor <;> simp only <;> first | (intro hz; exfalso; omega) | omega | (split <;> omega)
  · simp only [hv, if_false, Bool.false_eq_true, wc]
    constructor <;> simp only <;> first | omega | exact z | (intro hz; exfalso; omega)
theorem foldOf_b : ∀ (rows : List Row) (m : Nat) (f : FoldR), FoldB m f → m + rows.length ≤ 9000000 →
    rows.foldl (fun f r => addF f r.1 r.2) f = rows.foldl (fun f r => joinF f (oneF r.1 r.2)) f ∧ FoldB (m + rows.length) (rows.foldl (fun f r => addF f r.1 r.2) f)
  | [], m, f, h, _ => ⟨rfl, h⟩
  | r :: rows, m, f, h, hm => by
    simp only [List.length_cons] at hm
    obtain ⟨h1, h2⟩ := foldOf_b rows (m + 1) (addF f r.1 r.2) (add_b (by omega) h) (by omega)
    simp only [List.foldl_cons, List.length_cons]
    rw [← add_join (by omega) h]
    rw [show m + (rows.length + 1) = m + 1 + rows.length by omega]
    exact ⟨h1, h2⟩
theorem foldZ_b : FoldB 0 foldZ := by constructor <;> simp [foldZ]
theorem of_eq {rows : List Row} (h : rows.length ≤ 9000000) : refOf rows = foldOf rows := (foldOf_b rows 0 foldZ foldZ_b (by omega)).1.symm
instance : Inhabited FoldR := ⟨foldZ⟩
end Go.Sx

namespace Go.Sx
open Go
theorem jlt3 {p : Nat → Prop} (h0 : p 0) (h1 : p 1) (h2 : p 2) : ∀ j, j < 3 → p j
  | 0, _ => h0
  | 1, _ => h1
  | 2, _ => h2
  | j + 3, h => absurd h (by omega)
theorem dle_lit {α : Type} [Inhabited α] {enc : α → List D} {n K k : Nat} {g : Nat → Nat → D} {L : List α} (hk : K = k) (hn : n = L.length) (h : RowLe n k g (cellOf enc L)) : DLe (.list n K g) (encL enc k L) := by
  subst hk
  subst hn
  exact DLe.rows rfl h
def placeF (rows : List Row) (k : List UInt8) (t : Bool) : Nat := (rows.takeWhile fun r => decide (cmpB r.1 false k t < 0)).length
theorem place_le {rows : List Row} {k : List UInt8} {t : Bool} : placeF rows k t ≤ rows.length := (List.takeWhile_sublist _).length_le
theorem cmp_mono {a b k : List UInt8} {t : Bool} (h : Op.bytesLess a b = true) (hb : cmpB b false k t < 0) : cmpB a false k t < 0 := by
  cases t with
  | true => simp [cmpB]
  | false =>
    have h1 : Op.bytesLess b k = true := by
      by_cases e : Op.bytesLess b k = true
      · exact e
      · exfalso
        simp only [cmpB, Bool.false_and, Bool.false_eq_true, if_false, Bool.false_or, e] at hb
        split at hb <;> omega
    have h2 := bl_trans h h1
    simp [cmpB, h2]
theorem place_iff {rows : List Row} {k : List UInt8} {t : Bool} (hs : Sorted rows) {i : Nat} (hi : i < rows.length) : i < placeF rows k t ↔ cmpB (rows.getD i default).1 false k t < 0 := by
  induction rows generalizing i with
  | nil => simp at hi
  | cons r l ih =>
    simp only [placeF, List.takeWhile_cons]
    have hs' := List.pairwise_cons.1 hs
    by_cases hr : cmpB r.1 false k t < 0
    · simp only [hr, decide_true, if_true, List.length_cons]
      cases i with
      | zero => simp [hr]
      | succ i =>
        have := ih hs'.2 (i := i) (by simpa using hi)
        simp only [placeF] at this
        simp only [List.getD_cons_succ]
        rw [← this]
        omega
    · simp only [hr, decide_false, Bool.false_eq_true, if_false, List.length_nil, Nat.not_lt_zero, false_iff]
      cases i with
      | zero => simpa using hr
      | succ i =>
        intro h
        have hi' : i < l.length := by simpa using hi
        have hm : l.getD i default ∈ l := by
          have e : l.getD i default = l[i] := by simp [List.getD, hi']
          rw [e]; exact List.getElem_mem hi'
        exact hr (cmp_mono (hs'.1 _ hm) (by simpa using h))
theorem cmp_low {a k : List UInt8} {t : Bool} : (cmpB a false k t < 0) ↔ (t = true ∨ Op.bytesLess a k = true) := by
  cases t with
  | true => simp [cmpB]
  | false =>
    simp only [cmpB, Bool.false_and, Bool.false_eq_true, if_false, Bool.false_or, false_or]
    split <;> rename_i h
    · simp [h]
    · simp only [h]
      split <;> simp
/-- the middle of two places -/
theorem mid_eq {i j : Nat} (hi : i ≤ 2000000000000) (hj : j ≤ 2000000000000) : IntKind.i64.wrap ((IntKind.u64.wrap (IntKind.i64.wrap ((i : Int) + (j : Int)))).fdiv (2 ^ min (Int.toNat 1) IntKind.u64.bits)) = (((i + j) / 2 : Nat) : Int) := by
  have e2 : IntKind.i64.wrap ((i : Int) + (j : Int)) = (i : Int) + (j : Int) := wrap_of (by omega) (by omega)
  have e1 : IntKind.u64.wrap ((i : Int) + (j : Int)) = ((i : Int) + (j : Int)) := by
    have e0 : ∀ n : Int, IntKind.u64.wrap n = n % 18446744073709551616 := fun n => rfl
    rw [e0]; omega
  rw [e2, e1, show (2 : Int) ^ min (Int.toNat 1) IntKind.u64.bits = 2 by decide, Int.fdiv_eq_ediv_of_nonneg _ (by omega), wrap_of (by omega) (by omega)]
  omega
def getF (rows : List Row) (k : List UInt8) : List UInt8 × Bool :=
  match rows.find? (fun r => r.1 == k) with
  | some r => (r.2, true)
  | none => ([], false)
theorem get_here {rows : List Row} {k : List UInt8} {i : Nat} (hi : i < rows.length) (h : ∀ j, j < i → ((rows.getD j default).1 == k) = false) (he : ((rows.getD i default).1 == k) = true) : getF rows k = ((rows.getD i default).2, true) := by
  have e : rows.find? (fun r => r.1 == k) = some (rows.getD i default) := by
    have g : ∀ j (hj : j < rows.length), rows.getD j default = rows[j] := fun j hj => by simp [List.getD, hj]
    rw [g i hi] at he ⊢
    rw [List.find?_eq_some_iff_getElem]
    refine ⟨he, i, hi, rfl, fun j hj => ?_⟩
    have := h j hj
    rw [g j (by omega)] at this
    simp [this]
  simp only [getF, e]
theorem get_none {rows : List Row} {k : List UInt8} (h : ∀ j, j < rows.length → ((rows.getD j default).1 == k) = false) : getF rows k = ([], false) := by
  have e : rows.find? (fun r => r.1 == k) = none := by
    rw [List.find?_eq_none]
    intro r hr
    obtain ⟨j, hj, rfl⟩ := List.getElem_of_mem hr
    have := h j hj
    have g : rows.getD j default = rows[j] := by simp [List.getD, hj]
    rw [g] at this
    simp [this]
  simp only [getF, e]
def cutF (rows : List Row) (n : Int) : List UInt8 × Bool × Bool :=
  if !(validT rows) || decide (n < 0) || decide (n > rows.length) then ([], false, false) else if n = rows.length then ([], true, true) else ((rows.getD n.toNat default).1, false, true)
theorem cut_bad {rows : List Row} {n : Int} (h : validT rows = false ∨ n < 0 ∨ n > rows.length) : cutF rows n = ([], false, false) := by
  unfold cutF
  rcases h with h | h | h <;> simp [h]
theorem cut_full {rows : List Row} {n : Int} (h : validT rows = true) (e : n = rows.length) : cutF rows n = ([], true, true) := by
  unfold cutF
  subst e
  have h1 : ¬ (rows.length : Int) < 0 := by omega
  simp [h, h1]
theorem cut_at {rows : List Row} {n : Int} (h : validT rows = true) (h0 : ¬ n < 0) (h1 : ¬ n > rows.length) (e : ¬ n = rows.length) : cutF rows n = ((rows.getD n.toNat default).1, false, true) := by
  unfold cutF
  simp [h, h0, h1, e]
abbrev Wr := List UInt8 × List UInt8 × Bool
def encWr (w : Wr) : List D := [.str w.1, .str w.2.1, .bool w.2.2]
/-- what a loop collects -/
def collect {α β : Type} (p : α → Bool) (f : α → β) (l : List α) : List β := (l.filter p).map f
theorem collect_keep {α β : Type} [Inhabited α] {p : α → Bool} {f : α → β} {l : List α} {i : Nat} (h : i < l.length) (hp : p (l.getD i default) = true) : collect p f (l.take (i + 1)) = collect p f (l.take i) ++ [f (l.getD i default)] := by
  rw [take_succ' h, collect, List.filter_append, List.map_append, List.filter_cons, if_pos hp, List.filter_nil]; rfl
theorem collect_drop {α β : Type} [Inhabited α] {p : α → Bool} {f : α → β} {l : List α} {i : Nat} (h : i < l.length) (hp : p (l.getD i default) = false) : collect p f (l.take (i + 1)) = collect p f (l.take i) := by
  rw [take_succ' h, collect, List.filter_append, List.map_append, List.filter_cons, if_neg (by rw [hp]; simp), List.filter_nil, List.map_nil, List.append_nil]; rfl
theorem collect_len {α β : Type} {p : α → Bool} {f : α → β} {l : List α} : (collect p f l).length ≤ l.length := by
  rw [collect, List.length_map]; exact List.length_filter_le _ _
def goneP (b : List Row) (r : Row) : Bool := !(getF b r.1).2
def goneW (r : Row) : Wr := (r.1, [], true)
def newP' (a : List Row) (r : Row) : Bool := !(getF a r.1).2 || !((getF a r.1).1 == r.2)
def newW (r : Row) : Wr := (r.1, r.2, false)
def diffF (a b : List Row) : List Wr := if validT a && validT b then collect (goneP b) goneW a ++ collect (newP' a) newW b else []
theorem diff_valid {a b : List Row} (h1 : validT a = true) (h2 : validT b = true) : diffF a b = collect (goneP b) goneW a ++ collect (newP' a) newW b := by
  unfold diffF
  rw [h1, h2]
  rfl
theorem diff_bad {a b : List Row} (h : validT a = false ∨ validT b = false) : diffF a b = [] := by
  unfold diffF
  rcases h with h | h <;> simp [h]
end Go.Sx

namespace Go.Sx
open Go
theorem below_len {rows : List Row} {k : List UInt8} {t : Bool} (hs : Sorted rows) : (belowF rows k t).length = placeF rows k t := by
  induction rows with
  | nil => rfl
  | cons r l ih =>
    have hs' := List.pairwise_cons.1 hs
    have ih := ih hs'.2
    simp only [belowF, placeF] at ih ⊢
    by_cases hr : cmpB r.1 false k t < 0
    · simp only [List.filter_cons, List.takeWhile_cons, hr, decide_true, if_true, List.length_cons, ih]
    · have hno : l.filter (fun r => decide (cmpB r.1 false k t < 0)) = [] := by
        rw [List.filter_eq_nil_iff]
        intro s hs h
        exact hr (cmp_mono (hs'.1 s hs) (by simpa using h))
      simp only [List.filter_cons, List.takeWhile_cons, hr, decide_false, Bool.false_eq_true, if_false, hno, List.length_nil]
theorem slice_low {rows : List Row} (h : TabOk rows) {k : List UInt8} {t : Bool} (hb : validB k t = true) : sliceF rows [] false k t = belowF rows k t := by
  by_cases hc : cmpB [] false k t < 0
  · have := below_split h (ak := []) (a := false) (by decide) hb hc
    rw [below_first, List.nil_append] at this
    exact this.symm
  · have h1 : t = false ∧ k = [] := by
      rw [cmp_lt] at hc
      cases t with
      | true => simp at hc
      | false =>
        cases k with
        | nil => exact ⟨rfl, rfl⟩
        | cons c k => simp [Op.bytesLess] at hc
    obtain ⟨rfl, rfl⟩ := h1
    rw [below_first]
    unfold sliceF
    rw [List.filter_eq_nil_iff]
    intro r _
    simp [containsR, emptyR, validR, validB, cmpB, bl_irrefl]
/-- the bound with n rows below it -/
def bndK (rows : List Row) (n : Nat) : List UInt8 := if n < rows.length then (rows.getD n default).1 else []
def bndT (rows : List Row) (n : Nat) : Bool := decide (¬ n < rows.length)
theorem bnd_valid {rows : List Row} (h : TabOk rows) (n : Nat) : validB (bndK rows n) (bndT rows n) = true := by
  unfold bndK bndT
  by_cases hn : n < rows.length
  · have e : rows.getD n default = rows[n] := by simp [List.getD, hn]
    have := h.ok _ (List.getElem_mem hn)
    rw [← e] at this
    simp only [rowOk, Bool.and_eq_true, decide_eq_true_eq] at this
    simp only [hn, if_true, not_true_eq_false, decide_false]
    simp only [validB, this.1, decide_true, Bool.not_false, Bool.true_or, Bool.and_true]
  · simp [hn, validB]
theorem bnd_cut {rows : List Row} (h : TabOk rows) {n : Nat} (hn : n ≤ rows.length) : cutF rows n = (bndK rows n, bndT rows n, true) := by
  have hv := validT_iff.2 h
  unfold bndK bndT
  by_cases e : n = rows.length
  · subst e
    rw [cut_full hv rfl]
    simp
  · have h1 : n < rows.length := by omega
    rw [cut_at hv (by omega) (by omega) (by omega)]
    simp [h1]
theorem bnd_place {rows : List Row} (h : TabOk rows) {n : Nat} (hn : n ≤ rows.length) : placeF rows (bndK rows n) (bndT rows n) = n := by
  have hp : ∀ i, i < rows.length → (i < placeF rows (bndK rows n) (bndT rows n) ↔ i < n) := by
    intro i hi
    rw [place_iff h.sorted hi, cmp_low]
    unfold bndK bndT
    by_cases e : n < rows.length
    · simp only [e, if_true, not_true_eq_false, decide_false, Bool.false_eq_true, false_or]
      have g : ∀ j (hj : j < rows.length), rows.getD j default = rows[j] := fun j hj => by simp [List.getD, hj]
      rw [g i hi, g n e]
      have hpw := List.pairwise_iff_getElem.1 h.sorted
      constructor
      · intro hlt
        rcases Nat.lt_trichotomy i n with h1 | h1 | h1
        · exact h1
        · subst h1; rw [bl_irrefl] at hlt; cases hlt
        · have := bl_trans hlt (hpw n i e hi h1)
          rw [bl_irrefl] at this; cases this
      · intro h1; exact hpw i n hi e h1
    · simp only [e, not_false_eq_true, decide_true, true_or, true_iff]
      omega
  have hle : placeF rows (bndK rows n) (bndT rows n) ≤ rows.length := place_le
  rcases Nat.lt_trichotomy (placeF rows (bndK rows n) (bndT rows n)) n with h1 | h1 | h1
  · have := (hp _ (by omega)).2 h1; omega
  · exact h1
  · have := (hp n (by omega)).1 h1; omega
theorem bnd_slice {rows : List Row} (h : TabOk rows) {n : Nat} (hn : n ≤ rows.length) : (sliceF rows [] false (bndK rows n) (bndT rows n)).length = n := by
  rw [slice_low h (bnd_valid h n), below_len h.sorted, bnd_place h hn]
theorem place_app {rows : List Row} {k : List UInt8} (hs : Sorted rows) : ∃ A B, rows = A ++ B ∧ A.length = placeF rows k false ∧ (∀ r ∈ A, Op.bytesLess r.1 k = true) ∧ (∀ r ∈ B, Op.bytesLess r.1 k = false) := by
  induction rows with
  | nil => exact ⟨[], [], rfl, rfl, by simp, by simp⟩
  | cons r l ih =>
    have hs' := List.pairwise_cons.1 hs
    by_cases hr : Op.bytesLess r.1 k = true
    · obtain ⟨A, B, h1, h2, h3, h4⟩ := ih hs'.2
      have hc : cmpB r.1 false k false < 0 := cmp_low.2 (.inr hr)
      refine ⟨r :: A, B, by rw [h1]; rfl, ?_, ?_, h4⟩
      · simp only [placeF, List.takeWhile_cons, hc, decide_true, if_true, List.length_cons]
        rw [h2]; rfl
      · intro s hs
        rcases List.mem_cons.1 hs with rfl | hs
        · exact hr
        · exact h3 s hs
    · have hc : ¬ cmpB r.1 false k false < 0 := by
        rw [cmp_low]; simpa using hr
      refine ⟨[], r :: l, rfl, ?_, by simp, ?_⟩
      · simp only [placeF, List.takeWhile_cons, hc, decide_false, Bool.false_eq_true, if_false, List.length_nil]
      · intro s hs
        rcases List.mem_cons.1 hs with rfl | hs
        · simpa using hr
        · by_cases e : Op.bytesLess s.1 k = true
          · exact absurd (bl_trans (hs'.1 s hs) e) hr
          · simpa using e
theorem ins_app {x : Row} : ∀ {A B : List Row}, (∀ r ∈ A, Op.bytesLess r.1 x.1 = true) → (∀ r ∈ B, Op.bytesLess x.1 r.1 = true) → insF x (A ++ B) = A ++ x :: B
  | [], [], _, _ => rfl
  | [], b :: B, _, h => by simp [insF, h b (by simp)]
  | a :: A, B, h1, h2 => by
    have ha := bl_asymm (h1 a (by simp))
    simp only [List.cons_append, insF, ha, Bool.false_eq_true, if_false]
    rw [ins_app (fun r hr => h1 r (by simp [hr])) h2]
theorem without_app {A B : List Row} {k : List UInt8} : withoutF (A ++ B) k = withoutF A k ++ withoutF B k := by simp [withoutF]
theorem without_self {A : List Row} {k : List UInt8} (h : ∀ r ∈ A, r.1 ≠ k) : withoutF A k = A := by
  rw [withoutF, List.filter_eq_self]
  intro r hr
  simp [h r hr]
theorem bl_tot {a b : List UInt8} (h1 : Op.bytesLess a b = false) (h2 : a ≠ b) : Op.bytesLess b a = true := by
  by_cases h : Op.bytesLess b a = true
  · exact h
  · exact absurd (bl_tri h1 (by simpa using h)) h2
/-- the row with the key is there -/
theorem place_found {rows : List Row} {k v : List UInt8} (hs : Sorted rows) (hi : placeF rows k false < rows.length) (he : (rows.getD (placeF rows k false) default).1 = k) :
    withoutF rows k = rows.take (placeF rows k false) ++ rows.drop (placeF rows k false + 1) ∧ withF rows (k, v) = rows.take (placeF rows k false) ++ (k, v) :: rows.drop (placeF rows k false + 1) := by
  obtain ⟨A, B, h1, h2, h3, h4⟩ := place_app (k := k) hs
  rw [← h2] at hi he ⊢
  subst h1
  cases B with
  | nil => simp at hi
  | cons b B =>
    have hb : b.1 = k := by simpa [List.getD] using he
    have hA : ∀ r ∈ A, r.1 ≠ k := fun r hr e => by have := h3 r hr; rw [e, bl_irrefl] at this; cases this
    have hB : ∀ r ∈ B, Op.bytesLess k r.1 = true := fun r hr => by
      have := List.pairwise_append.1 hs
      rw [← hb]; exact (List.pairwise_cons.1 this.2.1).1 r hr
    have hB' : ∀ r ∈ B, r.1 ≠ k := fun r hr e => by have := hB r hr; rw [e, bl_irrefl] at this; cases this
    have e1 : withoutF (A ++ b :: B) k = A ++ B := by
      rw [show A ++ b :: B = A ++ ([b] ++ B) by simp, without_app, without_app, without_self hA, without_self hB']
      simp [withoutF, hb]
    have e2 : (A ++ b :: B).drop (A.length + 1) = B := by
      rw [show A ++ b :: B = (A ++ [b]) ++ B by simp, List.drop_append_of_le_length (by simp)]
      simp
    rw [e1, e2, List.take_left]
    exact ⟨rfl, by rw [withF, e1]; exact ins_app h3 hB⟩
/-- no row has the key -/
theorem place_new {rows : List Row} {k v : List UInt8} (hs : Sorted rows) (he : ¬ (placeF rows k false < rows.length ∧ (rows.getD (placeF rows k false) default).1 = k)) :
    withoutF rows k = rows ∧ withF rows (k, v) = rows.take (placeF rows k false) ++ (k, v) :: rows.drop (placeF rows k false) := by
  obtain ⟨A, B, h1, h2, h3, h4⟩ := place_app (k := k) hs
  rw [← h2] at he ⊢
  subst h1
  have hA : ∀ r ∈ A, r.1 ≠ k := fun r hr e => by have := h3 r hr; rw [e, bl_irrefl] at this; cases this
  have hB : ∀ r ∈ B, Op.bytesLess k r.1 = true := by
    cases B with
    | nil => simp
    | cons b B =>
      have hb : b.1 ≠ k := fun e => he ⟨by simp, by simpa [List.getD] using e⟩
      have hb1 := bl_tot (h4 b (by simp)) hb
      have := (List.pairwise_cons.1 (List.pairwise_append.1 hs).2.1).1
      intro r hr
      rcases List.mem_cons.1 hr with rfl | hr
      · exact hb1
      · exact bl_trans hb1 (this r hr)
  have hB' : ∀ r ∈ B, r.1 ≠ k := fun r hr e => by have := hB r hr; rw [e, bl_irrefl] at this; cases this
  have e1 : withoutF (A ++ B) k = A ++ B := by rw [without_app, without_self hA, without_self hB']
  rw [List.take_left, List.drop_left]
  exact ⟨e1, by rw [withF, e1]; exact ins_app h3 hB⟩
/-- Get finds what stands at the place -/
theorem get_place {rows : List Row} {k : List UInt8} (hs : Sorted rows) : (getF rows k).2 = decide (placeF rows k false < rows.length ∧ (rows.getD (placeF rows k false) default).1 = k) := by
  by_cases he : placeF rows k false < rows.length ∧ (rows.getD (placeF rows k false) default).1 = k
  · rw [decide_eq_true he]
    have hp := fun i hi => place_iff (k := k) (t := false) hs (i := i) hi
    simp only [cmp_low, Bool.false_eq_true, false_or] at hp
    rw [get_here he.1 (fun j hj => ?_) (by rw [he.2]; exact beq_self_eq_true k)]
    have := (hp j (by omega)).1 hj
    simp only [beq_eq_false_iff_ne, ne_eq]
    intro e
    rw [e, bl_irrefl] at this; cases this
  · rw [decide_eq_false he]
    obtain ⟨e, _⟩ := place_new (v := []) hs he
    rw [get_none]
    intro j hj
    have hm : rows.getD j default ∈ withoutF rows k := by
      rw [e]
      have g : rows.getD j default = rows[j] := by simp [List.getD, hj]
      rw [g]; exact List.getElem_mem hj
    have := (without_ne hm).2
    simpa using this
theorem getD_ins {α : Type} [Inhabited α] {l : List α} {x : α} {p q i : Nat} (hp : p ≤ l.length) : (l.take p ++ x :: l.drop q).getD i default = if i < p then l.getD i default else if i = p then x else l.getD (q + (i - p - 1)) default := by
  simp only [List.getD_eq_getElem?_getD]
  have hl : (l.take p).length = p := by simp; omega
  by_cases h : i < p
  · rw [if_pos h, List.getElem?_append_left (by omega), List.getElem?_take, if_pos h]
  · rw [if_neg h, List.getElem?_append_right (by omega), hl]
    by_cases e : i = p
    · rw [if_pos e, e, Nat.sub_self]; rfl
    · rw [if_neg e, show i - p = (i - p - 1) + 1 by omega, List.getElem?_cons_succ, List.getElem?_drop]
      rw [show i - p - 1 + 1 - 1 = i - p - 1 by omega]
theorem les_list {α : Type} [Inhabited α] {enc : α → List D} {n K k : Nat} {g : Nat → Nat → D} {L : List α} (hK : K = k) (hn : n = L.length) (h : ∀ i j, i < n → j < k → g i j = cellOf enc L i j) : LeS (.d (.list n K g)) (.d (encL enc k L)) :=
  LeS.d (dle_lit hK hn (.of_eq h))
end Go.Sx

namespace Go.Sx
open Go
theorem find_ins {x : Row} {q : List UInt8} (hq : (x.1 == q) = false) : ∀ {l : List Row}, (insF x l).find? (fun r => r.1 == q) = l.find? (fun r => r.1 == q)
  | [] => by simp [insF, hq]
  | r :: l => by
    simp only [insF]
    split
    · simp only [List.find?_cons, hq]
    · simp only [List.find?_cons]
      rw [find_ins hq]
theorem find_ins_self {x : Row} : ∀ {l : List Row}, (∀ r ∈ l, r.1 ≠ x.1) → (insF x l).find? (fun r => r.1 == x.1) = some x
  | [], _ => by simp [insF]
  | r :: l, h => by
    simp only [insF]
    split
    · simp
    · have : (r.1 == x.1) = false := by simpa using h r (by simp)
      rw [List.find?_cons, this]
      exact find_ins_self (fun s hs => h s (by simp [hs]))
theorem find_without {k q : List UInt8} (hq : ¬ q = k) : ∀ {l : List Row}, (withoutF l k).find? (fun r => r.1 == q) = l.find? (fun r => r.1 == q)
  | [] => rfl
  | r :: l => by
    have ih := find_without hq (l := l)
    simp only [withoutF] at ih ⊢
    by_cases hr : r.1 = k
    · have : (r.1 == q) = false := by
        simp only [beq_eq_false_iff_ne, ne_eq]
        intro e; exact hq (e.symm.trans hr)
      rw [List.filter_cons, if_neg (by simp [hr]), ih, List.find?_cons, this]
    · rw [List.filter_cons, if_pos (by simp [hr]), List.find?_cons, List.find?_cons, ih]
theorem get_with {r : List Row} {k v q : List UInt8} : getF (withF r (k, v)) q = if q = k then (v, true) else getF r q := by
  by_cases h : q = k
  · subst h
    have := find_ins_self (x := (q, v)) (l := withoutF r q) (fun r hr => (without_ne hr).2)
    simp only [getF, withF, this, if_true]
  · have hk : (k == q) = false := by simpa using fun e : k = q => h e.symm
    simp only [getF, withF, find_ins (x := (k, v)) hk, find_without h, if_neg h]
theorem get_true {rows : List Row} {k : List UInt8} (h : (getF rows k).2 = true) : ∃ r ∈ rows, r.1 = k ∧ getF rows k = (r.2, true) := by
  unfold getF at h ⊢
  split at h
  · rename_i r hr
    exact ⟨r, List.mem_of_find?_eq_some hr, by simpa using List.find?_some hr, by simp⟩
  · cases h
theorem get_key {rows : List Row} {r : Row} (h : r ∈ rows) : (getF rows r.1).2 = true := by
  unfold getF
  split
  · rfl
  · rename_i hn
    rw [List.find?_eq_none] at hn
    exact absurd (hn r h) (by simp)
end Go.Sx

namespace Go.Sx
open Go
theorem putF_bad1 {rows : List Row} {k v : List UInt8} (h1 : validT rows = true) (h2 : rowOk (k, v) = true) : putF rows k v = if (withF rows (k, v)).length > 1024 then ([], 16) else (withF rows (k, v), 0) := by
  unfold putF
  rw [validT_one]
  simp [h1, h2]
/-- a key of a full table -/
theorem full_put {F : List Row} (h : TabOk F) {k v : List UInt8} (hk : (getF F k).2 = true) (hv : rowOk (k, v) = true) :
    ∃ G, putF F k v = (G, 0) ∧ G.length = F.length ∧ getF G k = (v, true) := by
  have hp : (placeF F k false < F.length ∧ (F.getD (placeF F k false) default).1 = k) := by
    have := get_place (k := k) h.sorted
    rw [hk] at this
    simpa using this.symm
  have e := (place_found (v := v) h.sorted hp.1 hp.2).2
  have hl : (withF F (k, v)).length = F.length := by
    rw [e, List.length_append, List.length_take, List.length_cons, List.length_drop]
    have := hp.1
    omega
  refine ⟨withF F (k, v), ?_, hl, by rw [get_with, if_pos rfl]⟩
  rw [putF_bad1 (validT_iff.2 h) hv, if_neg (by rw [hl]; have := h.len; omega)]
/-- a new key -/
theorem new_len {F : List Row} (h : TabOk F) {k v : List UInt8} (hk : (getF F k).2 = false) : (withF F (k, v)).length = F.length + 1 := by
  have hp : ¬ (placeF F k false < F.length ∧ (F.getD (placeF F k false) default).1 = k) := by
    have := get_place (k := k) h.sorted
    rw [hk] at this
    simpa using this.symm
  have e := (place_new (v := v) h.sorted hp).2
  have hl := place_le (rows := F) (k := k) (t := false)
  rw [e, List.length_append, List.length_take, List.length_cons, List.length_drop]
  omega
theorem full_new {F : List Row} (h : TabOk F) {k v : List UInt8} (hk : (getF F k).2 = false) (hv : rowOk (k, v) = true) (hl : F.length = 1024) : putF F k v = ([], 16) := by
  rw [putF_bad1 (validT_iff.2 h) hv, if_pos (by rw [new_len h hk]; omega)]
theorem room_new {F : List Row} (h : TabOk F) {k v : List UInt8} (hk : (getF F k).2 = false) (hv : rowOk (k, v) = true) (hl : F.length < 1024) : ∃ G, putF F k v = (G, 0) ∧ G.length = F.length + 1 := by
  refine ⟨withF F (k, v), ?_, new_len h hk⟩
  rw [putF_bad1 (validT_iff.2 h) hv, if_neg (by rw [new_len h hk]; omega)]
theorem get_take {F : List Row} {n : Nat} {k : List UInt8} (h : ∀ r ∈ F, r.1 ≠ k) : (getF (F.take n) k).2 = false := by
  cases e : (getF (F.take n) k).2 with
  | false => rfl
  | true =>
    obtain ⟨r, hr, e, _⟩ := get_true e
    exact absurd e (h r (List.mem_of_mem_take hr))
theorem tab_take {F : List Row} (h : TabOk F) (n : Nat) : TabOk (F.take n) :=
  ⟨by have := h.len; rw [List.length_take]; omega, fun r hr => h.ok r (List.mem_of_mem_take hr), h.sorted.sub (List.take_sublist _ _)⟩
theorem getD_memT {F : List Row} {i : Nat} (h : i < F.length) : F.getD i default ∈ F := by
  have : F.getD i default = F[i] := by simp [List.getD, h]
  rw [this]
  exact List.getElem_mem h
theorem valid_long {F : List Row} (h : 1024 < F.length) : validT F = false := by
  have : ¬ F.length ≤ 1024 := by omega
  simp [validT, this]
end Go.Sx
