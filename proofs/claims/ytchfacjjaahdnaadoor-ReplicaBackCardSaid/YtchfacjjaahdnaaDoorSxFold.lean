/- Part of a symbolic executor over the model, proved sound, with plain laws: SxFold. Written for these claims. -/
import Derived.Test.YtchfacjjaahdnaaDoorSxTab
namespace Go.Sx
open Go
set_option linter.unusedVariables false
set_option linter.unusedSimpArgs false

structure FoldR where
  count : Int
  numbers : Int
  sum : Int
  low : Int
  high : Int
  first : List UInt8
  last : List UInt8
abbrev encFold (f : FoldR) : SV := .agg [.d (.int .i64 f.count), .d (.int .i64 f.numbers), .d (.int .i64 f.sum), .d (.int .i64 f.low), .d (.int .i64 f.high), .d (.str f.first), .d (.str f.last)]
def numLoop (s : List UInt8) : Nat → Nat → Int → Option Int
  | 0, _, acc => some acc
  | f + 1, pos, acc => if pos < s.length then
      (if ((runeAt s pos).1 : Int) < 48 ∨ ((runeAt s pos).1 : Int) > 57 then none
       else
         if IntKind.i64.wrap (IntKind.i64.wrap (acc * 10) + IntKind.i64.wrap (IntKind.i32.wrap ((runeAt s pos).1 - 48))) > 1000000000000 then none
         else numLoop s f (pos + (runeAt s pos).2) (IntKind.i64.wrap (IntKind.i64.wrap (acc * 10) + IntKind.i64.wrap (IntKind.i32.wrap ((runeAt s pos).1 - 48)))))
    else some acc
theorem runeAt_pos {s : List UInt8} {pos : Nat} (h : pos < s.length) : 1 ≤ (runeAt s pos).2 := by
  unfold runeAt
  by_cases ha : ((ByteArray.mk ⟨s⟩)[pos]'h).toNat < 128
  · rw [decode_ascii ⟨⟨s⟩⟩ pos h ha]; exact Nat.le_refl _
  · exact (decode_high ⟨⟨s⟩⟩ pos h (by omega)).2
theorem numLoop_end {s : List UInt8} {f pos : Nat} {acc : Int} (h : ¬ pos < s.length) : numLoop s f pos acc = some acc := by
  cases f with
  | zero => rfl
  | succ f => simp [numLoop, h]
def numTail (s : List UInt8) (neg : Bool) : Int × Bool :=
  if s = [] then (0, false)
  else if ((s.getD 0 0).toNat : Int) = 48 ∧ ((s.length : Int) > 1 ∨ neg = true) then (0, false)
  else match numLoop s s.length 0 0 with
    | none => (0, false)
    | some v => (if neg then IntKind.i64.wrap (0 - v) else v, true)
def number (l : List UInt8) : Int × Bool :=
  if (l.length : Int) > 0 ∧ ((l.getD 0 0).toNat : Int) = 45 then numTail (l.drop 1) true else numTail l false
def numPre (s : List UInt8) (x : Nat × Nat × Int) : Prop := s.length ≤ x.2.1 + x.1 ∧ numLoop s x.1 x.2.1 x.2.2 = numLoop s s.length 0 0
theorem numPre_pos {s : List UInt8} {x : Nat × Nat × Int} (h : numPre s x) (hp : x.2.1.blt s.length = true) : ∃ f, x.1 = f + 1 ∧ x.2.1 < s.length := by
  have hp : x.2.1 < s.length := Nat.le_of_ble_eq_true hp
  have := h.1
  exact ⟨x.1 - 1, by omega, hp⟩
theorem numPre_bad {s : List UInt8} {x : Nat × Nat × Int} (h : numPre s x) (hp : x.2.1.blt s.length = true) (hc : ((runeAt s x.2.1).1 : Int) < 48 ∨ ((runeAt s x.2.1).1 : Int) > 57) : numLoop s s.length 0 0 = none := by
  obtain ⟨f, e, hlt⟩ := numPre_pos h hp
  rw [← h.2, e]
  simp only [numLoop, hlt, hc, if_true]
theorem numPre_big {s : List UInt8} {x : Nat × Nat × Int} (h : numPre s x) (hp : x.2.1.blt s.length = true) (h1 : ¬ ((runeAt s x.2.1).1 : Int) < 48) (h2 : ¬ ((runeAt s x.2.1).1 : Int) > 57)
    (h3 : IntKind.i64.wrap (IntKind.i64.wrap (x.2.2 * 10) + IntKind.i64.wrap (IntKind.i32.wrap ((runeAt s x.2.1).1 - 48))) > 1000000000000) : numLoop s s.length 0 0 = none := by
  obtain ⟨f, e, hlt⟩ := numPre_pos h hp
  rw [← h.2, e]
  simp only [numLoop, hlt, h1, h2, h3, or_self, if_true, if_false]
theorem numPre_step {s : List UInt8} {x : Nat × Nat × Int} (h : numPre s x) (hp : x.2.1.blt s.length = true) (h1 : ¬ ((runeAt s x.2.1).1 : Int) < 48) (h2 : ¬ ((runeAt s x.2.1).1 : Int) > 57)
    (h3 : ¬ IntKind.i64.wrap (IntKind.i64.wrap (x.2.2 * 10) + IntKind.i64.wrap (IntKind.i32.wrap ((runeAt s x.2.1).1 - 48))) > 1000000000000) :
    numPre s (x.1 - 1, x.2.1 + (runeAt s x.2.1).2, IntKind.i64.wrap (IntKind.i64.wrap (x.2.2 * 10) + IntKind.i64.wrap (IntKind.i32.wrap ((runeAt s x.2.1).1 - 48)))) := by
  obtain ⟨f, e, hlt⟩ := numPre_pos h hp
  have hw := runeAt_pos hlt
  refine ⟨by have := h.1; simp only; omega, ?_⟩
  rw [← h.2, e]
  simp only [numLoop, hlt, h1, h2, h3, or_self, if_true, if_false, Nat.add_sub_cancel]
theorem numPre_lt {s : List UInt8} {x : Nat × Nat × Int} (h : numPre s x) (hp : x.2.1.blt s.length = true) : x.1 - 1 < x.1 := by
  obtain ⟨f, e, hlt⟩ := numPre_pos h hp
  omega
theorem numPre_end {s : List UInt8} {x : Nat × Nat × Int} (h : numPre s x) (hp : x.2.1.blt s.length = false) : numLoop s s.length 0 0 = some x.2.2 := by
  rw [← h.2]
  refine numLoop_end (fun hlt => ?_)
  rw [show x.2.1.blt s.length = true from Nat.ble_eq_true_of_le hlt] at hp
  cases hp
/-! sum.add -/
abbrev cells (f : FoldR) : List SV := [.d (.int .i64 f.count), .d (.int .i64 f.numbers), .d (.int .i64 f.sum), .d (.int .i64 f.low), .d (.int .i64 f.high), .d (.str f.first), .d (.str f.last)]
abbrev encRowA (k v : List UInt8) : SV := .agg [.d (.str k), .d (.str v)]
def addF (f : FoldR) (k v : List UInt8) : FoldR :=
  if (number v).2 = true then
    { count := IntKind.i64.wrap (f.count + 1), first := if f.count = 0 then k else f.first, last := k, numbers := IntKind.i64.wrap (f.numbers + 1), sum := IntKind.i64.wrap (f.sum + (number v).1),
      low := if f.numbers = 0 ∨ (number v).1 < f.low then (number v).1 else f.low, high := if f.numbers = 0 ∨ (number v).1 > f.high then (number v).1 else f.high }
  else { count := IntKind.i64.wrap (f.count + 1), first := if f.count = 0 then k else f.first, last := k, numbers := f.numbers, sum := f.sum, low := f.low, high := f.high }
/-! ref.Number -/
def refStep (acc : Int) (b : UInt8) : Int := IntKind.i64.wrap (IntKind.i64.wrap (10 * acc) + IntKind.i64.wrap (IntKind.u8.wrap ((b.toNat : Int) - 48)))
def refLoop : List UInt8 → Int → Option Int
  | [], acc => some acc
  | b :: l, acc => if (b.toNat : Int) < 48 ∨ (b.toNat : Int) > 57 then none else refLoop l (refStep acc b)
def refTail (s : List UInt8) (neg : Bool) : Int × Bool :=
  if (s.length : Int) = 0 ∨ (s.length : Int) > 13 then (0, false)
  else if ((s.getD 0 0).toNat : Int) = 48 ∧ ((s.length : Int) > 1 ∨ neg = true) then (0, false)
  else match refLoop s 0 with
    | none => (0, false)
    | some v => if v > 1000000000000 then (0, false) else (if neg then IntKind.i64.wrap (0 - v) else v, true)
def refNumber (l : List UInt8) : Int × Bool :=
  if (l.length : Int) > 1 ∧ ((l.getD 0 0).toNat : Int) = 45 then refTail (l.drop 1) true else refTail l false
def refPre (s : List UInt8) (x : Nat × Int) : Prop := x.1 ≤ s.length ∧ refLoop (s.drop x.1) x.2 = refLoop s 0
theorem refPre_drop {s : List UInt8} {i : Nat} (h : i < s.length) : s.drop i = s.getD i 0 :: s.drop (i + 1) := by
  rw [List.drop_eq_getElem_cons h]
  simp [List.getD, h]
theorem refPre_bad {s : List UInt8} {x : Nat × Int} (h : refPre s x) (h1 : (x.1 : Int) < s.length) (hc : ((s.getD x.1 0).toNat : Int) < 48 ∨ ((s.getD x.1 0).toNat : Int) > 57) : refLoop s 0 = none := by
  rw [← h.2, refPre_drop (by omega)]
  simp only [refLoop, hc, if_true]
theorem refPre_step {s : List UInt8} {x : Nat × Int} (h : refPre s x) (h1 : (x.1 : Int) < s.length) (h2 : ¬ ((s.getD x.1 0).toNat : Int) < 48) (h3 : ¬ ((s.getD x.1 0).toNat : Int) > 57) : refPre s (x.1 + 1, refStep x.2 (s.getD x.1 0)) := by
  refine ⟨by simp only; omega, ?_⟩
  rw [← h.2, refPre_drop (show x.1 < s.length by omega)]
  simp only [refLoop, h2, h3, or_self, if_false]
theorem refPre_end {s : List UInt8} {x : Nat × Int} (h : refPre s x) (h1 : ¬ (x.1 : Int) < s.length) : refLoop s 0 = some x.2 := by
  rw [← h.2, List.drop_eq_nil_of_le (by omega)]
  rfl
theorem refPre_idx {s : List UInt8} {x : Nat × Int} (h : (x.1 : Int) < s.length) (hl : ¬ (s.length : Int) > 13) : IntKind.i64.wrap ((x.1 : Int) + 1) = ((x.1 + 1 : Nat) : Int) := by
  rw [wrap_of (by omega) (by omega)]; rfl
/-! plain laws of numbers -/
def byteLoop : List UInt8 → Int → Option Int
  | [], acc => some acc
  | b :: l, acc => if (b.toNat : Int) < 48 ∨ (b.toNat : Int) > 57 then none else if acc * 10 + (b.toNat - 48) > 1000000000000 then none else byteLoop l (acc * 10 + (b.toNat - 48))
theorem wrap32_of {n : Int} (h1 : -2147483648 ≤ n) (h2 : n < 2147483648) : IntKind.i32.wrap n = n := by
  simp [IntKind.wrap, IntKind.bits, IntKind.signed]
  split <;> omega
theorem wrapu8_of {n : Int} (h1 : 0 ≤ n) (h2 : n < 256) : IntKind.u8.wrap n = n := by
  simp [IntKind.wrap, IntKind.bits, IntKind.signed]
  omega
theorem runeAt_low {s : List UInt8} {pos : Nat} (h : pos < s.length) (hb : (s.getD pos 0).toNat < 128) : runeAt s pos = ((s.getD pos 0).toNat, 1) := by
  have e : (s.getD pos 0) = (ByteArray.mk ⟨s⟩)[pos]'h := by simp [List.getD, h]; rfl
  rw [e] at hb ⊢
  exact decode_ascii ⟨⟨s⟩⟩ pos h hb
theorem runeAt_high {s : List UInt8} {pos : Nat} (h : pos < s.length) (hb : ¬ (s.getD pos 0).toNat < 128) : 128 ≤ (runeAt s pos).1 := by
  have e : (s.getD pos 0) = (ByteArray.mk ⟨s⟩)[pos]'h := by simp [List.getD, h]; rfl
  rw [e] at hb
  exact (decode_high ⟨⟨s⟩⟩ pos h (by omega)).1
theorem numLoop_bytes {s : List UInt8} : ∀ (f pos : Nat) (acc : Int), s.length ≤ pos + f → 0 ≤ acc → acc ≤ 1000000000000 → numLoop s f pos acc = byteLoop (s.drop pos) acc
  | 0, pos, acc, h, _, _ => by rw [List.drop_eq_nil_of_le (by omega)]; rfl
  | f + 1, pos, acc, h, h0, h1 => by
    by_cases hp : pos < s.length
    · rw [refPre_drop hp]
      by_cases hb : (s.getD pos 0).toNat < 128
      · simp only [numLoop, hp, if_true, runeAt_low hp hb, byteLoop]
        generalize (s.getD pos 0).toNat = b at *
        by_cases hd : (b : Int) < 48 ∨ (b : Int) > 57
        · simp only [hd, if_true]
        · simp only [hd, if_false]
          have w1 : IntKind.i64.wrap (acc * 10) = acc * 10 := wrap_of (by omega) (by omega)
          have w2 : IntKind.i32.wrap ((b : Int) - 48) = (b : Int) - 48 := wrap32_of (by omega) (by omega)
          have w3 : IntKind.i64.wrap ((b : Int) - 48) = (b : Int) - 48 := wrap_of (by omega) (by omega)
          have w4 : IntKind.i64.wrap (acc * 10 + ((b : Int) - 48)) = acc * 10 + ((b : Int) - 48) := wrap_of (by omega) (by omega)
          rw [w1, w2, w3, w4]
          by_cases hbig : acc * 10 + ((b : Int) - 48) > 1000000000000
          · simp only [hbig, if_true]
          · simp only [hbig, if_false]
            exact numLoop_bytes f (pos + 1) _ (by omega) (by omega) (by omega)
      · have hr := runeAt_high hp hb
        simp only [numLoop, hp, if_true, byteLoop]
        rw [if_pos (Or.inr (show ((runeAt s pos).1 : Int) > 57 by omega)), if_pos (Or.inr (show ((s.getD pos 0).toNat : Int) > 57 by omega))]
    · rw [List.drop_eq_nil_of_le (by omega)]
      simp only [numLoop, hp, if_false, byteLoop]
theorem numLoop_all (s : List UInt8) : numLoop s s.length 0 0 = byteLoop s 0 := by
  rw [numLoop_bytes s.length 0 0 (by omega) (by decide) (by decide)]; rfl
theorem byteLoop_low : ∀ {l : List UInt8} {acc v : Int}, byteLoop l acc = some v → 0 ≤ acc → acc * 10 ^ l.length ≤ v ∧ (acc ≤ 1000000000000 → v ≤ 1000000000000)
  | [], acc, v, h, _ => by
    simp only [byteLoop, Option.some.injEq] at h
    subst h
    simp
  | b :: l, acc, v, h, h0 => by
    simp only [byteLoop] at h
    split at h
    · cases h
    · rename_i hd
      split at h
      · cases h
      · rename_i hb
        obtain ⟨h1, h2⟩ := byteLoop_low h (by omega)
        refine ⟨?_, fun _ => h2 (by omega)⟩
        rw [List.length_cons, Int.pow_succ]
        have hp : (0 : Int) ≤ 10 ^ l.length := Int.pow_nonneg (by decide)
        have h3 : acc * 10 * 10 ^ l.length ≤ (acc * 10 + ((b.toNat : Int) - 48)) * 10 ^ l.length := Int.mul_le_mul_of_nonneg_right (by omega) hp
        have h4 : acc * (10 ^ l.length * 10) = acc * 10 * 10 ^ l.length := by rw [Int.mul_comm (10 ^ l.length) 10, Int.mul_assoc]
        rw [h4]
        omega
theorem byteLoop_long {l : List UInt8} (h : l.length > 13) (h0 : ¬ ((l.getD 0 0).toNat : Int) = 48) : byteLoop l 0 = none := by
  cases l with
  | nil => simp at h
  | cons b l =>
    simp only [List.getD_cons_zero] at h0
    cases hv : byteLoop (b :: l) 0 with
    | none => rfl
    | some v =>
      exfalso
      simp only [byteLoop] at hv
      split at hv
      · cases hv
      · split at hv
        · cases hv
        · obtain ⟨h1, h2⟩ := byteLoop_low hv (by omega)
          have h3 := h2 (by omega)
          have hp : (10 : Int) ^ 13 ≤ 10 ^ l.length := by
            have : (10 : Nat) ^ 13 ≤ 10 ^ l.length := Nat.pow_le_pow_right (by decide) (by simp at h; omega)
            exact_mod_cast this
          have h4 : 1 * 10 ^ l.length ≤ (0 * 10 + ((b.toNat : Int) - 48)) * 10 ^ l.length := Int.mul_le_mul_of_nonneg_right (by omega) (Int.pow_nonneg (by decide))
          have h5 : (10 : Int) ^ 13 = 10000000000000 := rfl
          omega
theorem refStep_of {acc : Int} {b : UInt8} (h0 : 0 ≤ acc) (h1 : acc ≤ 100000000000000000) (h2 : ¬ ((b.toNat : Int) < 48 ∨ (b.toNat : Int) > 57)) : refStep acc b = acc * 10 + (b.toNat - 48) := by
  unfold refStep
  rw [wrap_of (n := 10 * acc) (by omega) (by omega), wrapu8_of (n := (b.toNat : Int) - 48) (by omega) (by omega), wrap_of (n := (b.toNat : Int) - 48) (by omega) (by omega), wrap_of (by omega) (by omega)]
  omega
theorem bound_step {acc d : Int} {k : Nat} (h0 : 0 ≤ acc) (hd : d ≤ 9) (h : (acc + 1) * 10 ^ (k + 1) ≤ 100000000000000000) : acc ≤ 100000000000000000 ∧ (acc * 10 + d + 1) * 10 ^ k ≤ 100000000000000000 := by
  rw [Int.pow_succ] at h
  have hp : (1 : Int) ≤ 10 ^ k := by
    have : 1 ≤ (10 : Nat) ^ k := Nat.one_le_pow _ _ (by decide)
    exact_mod_cast this
  generalize (10 : Int) ^ k = p at *
  have e : (acc + 1) * (p * 10) = (acc * 10 + 10) * p := by rw [Int.mul_comm p 10, ← Int.mul_assoc, Int.add_mul]; rfl
  rw [e] at h
  refine ⟨?_, ?_⟩
  · have : (acc * 10 + 10) * 1 ≤ (acc * 10 + 10) * p := Int.mul_le_mul_of_nonneg_left hp (by omega)
    omega
  · have : (acc * 10 + d + 1) * p ≤ (acc * 10 + 10) * p := Int.mul_le_mul_of_nonneg_right (by omega) (by omega)
    omega
theorem refLoop_mono : ∀ {l : List UInt8} {acc v : Int}, 0 ≤ acc → (acc + 1) * 10 ^ l.length ≤ 100000000000000000 → refLoop l acc = some v → acc ≤ v
  | [], acc, v, _, _, h => by simp only [refLoop, Option.some.injEq] at h; omega
  | b :: l, acc, v, h0, hb, h => by
    simp only [refLoop] at h
    split at h
    · cases h
    · rename_i hd
      rw [List.length_cons] at hb
      obtain ⟨k1, k2⟩ := bound_step (d := (b.toNat : Int) - 48) h0 (by omega) hb
      rw [refStep_of h0 k1 hd] at h
      have := refLoop_mono (by omega) k2 h
      omega
theorem refLoop_bytes : ∀ {l : List UInt8} {acc : Int}, 0 ≤ acc → acc ≤ 1000000000000 → (acc + 1) * 10 ^ l.length ≤ 100000000000000000 →
    byteLoop l acc = match refLoop l acc with | none => none | some v => if v > 1000000000000 then none else some v
  | [], acc, _, h1, _ => by simp only [byteLoop, refLoop]; rw [if_neg (by omega)]
  | b :: l, acc, h0, h1, hb => by
    simp only [byteLoop, refLoop]
    by_cases hd : (b.toNat : Int) < 48 ∨ (b.toNat : Int) > 57
    · simp only [hd, if_true]
    · simp only [hd, if_false]
      rw [List.length_cons] at hb
      obtain ⟨k1, k2⟩ := bound_step (d := (b.toNat : Int) - 48) h0 (by omega) hb
      rw [refStep_of h0 k1 hd]
      by_cases hbig : acc * 10 + ((b.toNat : Int) - 48) > 1000000000000
      · simp only [hbig, if_true]
        cases hr : refLoop l (acc * 10 + ((b.toNat : Int) - 48)) with
        | none => rfl
        | some v =>
          have := refLoop_mono (by omega) k2 hr
          simp only
          rw [if_pos (by omega)]
      · simp only [hbig, if_false]
        exact refLoop_bytes (by omega) (by omega) k2
theorem tail_eq (s : List UInt8) (neg : Bool) : refTail s neg = numTail s neg := by
  unfold refTail numTail
  by_cases h0 : s = []
  · subst h0; simp
  · have hl := lpos h0
    rw [if_neg h0]
    by_cases h13 : (s.length : Int) > 13
    · rw [if_pos (.inr h13)]
      split
      · rfl
      · rename_i hz
        rw [numLoop_all, byteLoop_long (by omega) (fun e => hz ⟨e, .inl (by omega)⟩)]
    · rw [if_neg (by omega)]
      split
      · rfl
      · rw [numLoop_all, refLoop_bytes (by decide) (by decide)]
        · cases refLoop s 0 with
          | none => rfl
          | some v =>
            simp only
            by_cases hv : v > 1000000000000
            · simp only [hv, if_true]
            · simp only [hv, if_false]
        · have : (10 : Nat) ^ s.length ≤ 10 ^ 13 := Nat.pow_le_pow_right (by decide) (by omega)
          have h2 : (10 : Int) ^ s.length ≤ 10 ^ 13 := by exact_mod_cast this
          have h5 : (10 : Int) ^ 13 = 10000000000000 := rfl
          omega
theorem number_eq (l : List UInt8) : refNumber l = number l := by
  unfold refNumber number
  by_cases h1 : (l.length : Int) > 1
  · simp only [h1, true_and, tail_eq, show (l.length : Int) > 0 by omega]
  · rw [if_neg (fun h => h1 h.1), tail_eq]
    by_cases h2 : (l.length : Int) > 0 ∧ ((l.getD 0 0).toNat : Int) = 45
    · rw [if_pos h2]
      match l, h1, h2 with
      | [b], _, h2 =>
        have hb : b = 45 := UInt8.toNat.inj (by have := h2.2; simp only [List.getD_cons_zero] at this; show b.toNat = 45; omega)
        subst hb
        decide
      | [], _, h2 => simp at h2
      | _ :: _ :: _, h1, _ => simp at h1; omega
    · rw [if_neg h2]

/-! the aggregate of rows -/
def foldZ : FoldR := ⟨0, 0, 0, 0, 0, [], []⟩
def foldOf (rows : List Row) : FoldR := rows.foldl (fun f r => addF f r.1 r.2) foldZ
theorem foldOf_take {rows : List Row} {i : Nat} (h : i < rows.length) : foldOf (rows.take (i + 1)) = addF (foldOf (rows.take i)) (rows.getD i default).1 (rows.getD i default).2 := by
  rw [take_succ' h, foldOf, List.foldl_append]; rfl
def awakeRows : List Row := [([97], [51]), ([98], [120]), ([99], [45, 49])]
theorem number_1 : number [45, 55] = (-7, true) := by decide
theorem number_2 : number [48, 55] = (0, false) := by decide
theorem foldOf_awake : foldOf awakeRows = ⟨3, 2, 2, -1, 3, [97], [99]⟩ := by rfl
def joinF (a b : FoldR) : FoldR :=
  { count := IntKind.i64.wrap (a.count + b.count), numbers := IntKind.i64.wrap (a.numbers + b.numbers), sum := IntKind.i64.wrap (a.sum + b.sum),
    low := if a.numbers = 0 then b.low else if b.numbers = 0 then a.low else if b.low < a.low then b.low else a.low,
    high := if a.numbers = 0 then b.high else if b.numbers = 0 then a.high else if b.high > a.high then b.high else a.high,
    first := if a.count = 0 then b.first else a.first, last := if b.count = 0 then a.last else b.last }
def oneF (k v : List UInt8) : FoldR :=
  if (number v).2 = true then ⟨1, 1, (number v).1, (number v).1, (number v).1, k, k⟩ else ⟨1, 0, 0, 0, 0, k, k⟩
def refOf (rows : List Row) : FoldR := rows.foldl (fun f r => joinF f (oneF r.1 r.2)) foldZ
theorem refOf_take {rows : List Row} {i : Nat} (h : i < rows.length) : refOf (rows.take (i + 1)) = joinF (refOf (rows.take i)) (oneF (rows.getD i default).1 (rows.getD i default).2) := by
  rw [take_succ' h, refOf, List.foldl_append]; rfl
structure FoldB (m : Nat) (f : FoldR) : Prop where
  c : f.count = m
  n1 : 0 ≤ f.numbers
  n2 : f.numbers ≤ m
  s1 : -(m * 1000000000000) ≤ f.sum
  s2 : f.sum ≤ m * 1000000000000
  l1 : -1000000000000 ≤ f.low
  l2 : f.low ≤ 1000000000000
  h1 : -1000000000000 ≤ f.high
  h2 : f.high ≤ 1000000000000
  z : f.numbers = 0 → f.sum = 0 ∧ f.low = 0 ∧ f.high = 0
  zc : f.count = 0 → f.first = [] ∧ f.last = []
theorem wrap_in (n : Int) : -9223372036854775808 ≤ IntKind.i64.wrap n ∧ IntKind.i64.wrap n < 9223372036854775808 := by
  obtain ⟨_, _, h⟩ := wrap_mod n
  exact h

theorem number_in (v : List UInt8) : -1000000000000 ≤ (number v).1 ∧ (number v).1 ≤ 1000000000000 := by
  have key : ∀ (s : List UInt8) (neg : Bool), -1000000000000 ≤ (numTail s neg).1 ∧ (numTail s neg).1 ≤ 1000000000000 := by
    intro s neg
    unfold numTail
    split
    · exact ⟨by decide, by decide⟩
    · split
      · exact ⟨by decide, by decide⟩
      · rw [numLoop_all]
        cases hv : byteLoop s 0 with
        | none => exact ⟨by simp, by simp⟩
        | some v =>
          obtain ⟨h1, h2⟩ := byteLoop_low hv (by decide)
          have h2 := h2 (by decide)
          simp only
          split
          · rw [wrap_of (by omega) (by omega)]; omega
          · omega
  unfold number
  split
  · exact key _ _
  · exact key _ _
theorem number_no {v : List UInt8} (h : (number v).2 = false) : (number v).1 = 0 := by
  have key : ∀ (s : List UInt8) (neg : Bool), (numTail s neg).2 = false → (numTail s neg).1 = 0 := by
    intro s neg
    unfold numTail
    split
    · intro _; rfl
    · split
      · intro _; rfl
      · split
        · intro _; rfl
        · intro h; cases h
  unfold number at h ⊢
  split
  · rw [if_pos (by assumption)] at h; exact key _ _ h
  · rw [if_neg (by assumption)] at h; exact key _ _ h
theorem add_join {f : FoldR} {m : Nat} {k v : List UInt8} (hm : m ≤ 9000000) (h : FoldB m f) : addF f k v = joinF f (oneF k v) := by
  have hn := number_in v
  have h1 := h.n1
  have h2 := h.n2
  have h3 := h.s1
  have h4 := h.s2
  unfold addF joinF oneF
  by_cases hv : (number v).2 = true
  · simp only [hv, if_true]
    by_cases h0 : f.numbers = 0
    · simp [h0]
    · simp [h0]
  · simp only [hv, if_false, Bool.false_eq_true, if_true]
    have w1 : IntKind.i64.wrap (f.numbers + 0) = f.numbers := by rw [Int.add_zero]; exact wrap_of (by omega) (by omega)
    have w2 : IntKind.i64.wrap (f.sum + 0) = f.sum := by rw [Int.add_zero]; exact wrap_of (by omega) (by omega)
    rw [w1, w2]
    by_cases h0 : f.numbers = 0
    · simp [h0, h.z h0]
    · simp [h0]
theorem add_b {f : FoldR} {m : Nat} {k v : List UInt8} (hm : m < 9000000) (h : FoldB m f) : FoldB (m + 1) (addF f k v) := by
  have hn := number_in v
  obtain ⟨c, n1, n2, s1, s2, l1, l2, h1, h2, z, zc⟩ := h
  have wc : IntKind.i64.wrap (f.count + 1) = f.count + 1 := wrap_of (by omega) (by omega)
  have wn : IntKind.i64.wrap (f.numbers + 1) = f.numbers + 1 := wrap_of (by omega) (by omega)
  have ws : IntKind.i64.wrap (f.sum + (number v).1) = f.sum + (number v).1 := wrap_of (by omega) (by omega)
  unfold addF
  by_cases hv : (number v).2 = true
  · simp only [hv, if_true, wc, wn, ws]
    constructor <;> simp only <;> first | (intro hz; exfalso; omega) | omega | (split <;> omega)
  · simp only [hv, if_false, Bool.false_eq_true, wc]
    constructor <;> simp only <;> first | omega | exact z | (intro hz; exfalso; omega)
theorem foldOf_b : ∀ (rows : List Row) (m : Nat) (f : FoldR), FoldB m f → m + rows.length ≤ 9000000 →
    rows.foldl (fun f r => addF f r.1 r.2) f = rows.foldl (fun f r => joinF f (oneF r.1 r.2)) f ∧ FoldB (m + rows.length) (rows.foldl (fun f r => addF f r.1 r.2) f)
  | [], m, f, h, _ => ⟨rfl, h⟩
  | r :: rows, m, f, h, hm => by
    simp only [List.length_cons] at hm
    obtain ⟨h1, h2⟩ := foldOf_b rows (m + 1) (addF f r.1 r.2) (add_b (by omega) h) (by omega)
    simp only [List.foldl_cons, List.length_cons]
    rw [← add_join (by omega) h]
    rw [show m + (rows.length + 1) = m + 1 + rows.length by omega]
    exact ⟨h1, h2⟩
theorem foldZ_b : FoldB 0 foldZ := by constructor <;> simp [foldZ]
theorem of_eq {rows : List Row} (h : rows.length ≤ 9000000) : refOf rows = foldOf rows := (foldOf_b rows 0 foldZ foldZ_b (by omega)).1.symm
theorem of_b {rows : List Row} (h : rows.length ≤ 9000000) : FoldB rows.length (foldOf rows) := by
  have := (foldOf_b rows 0 foldZ foldZ_b (by omega)).2
  rwa [Nat.zero_add] at this
instance : Inhabited FoldR := ⟨foldZ⟩
/-- the aggregates of a list joined; the first as it is -/
def allF : List FoldR → FoldR
  | [] => foldZ
  | x :: l => l.foldl joinF x
theorem allF_take {l : List FoldR} {i : Nat} (h : i < l.length) : allF (l.take (i + 1)) = if i = 0 then l.getD i default else joinF (allF (l.take i)) (l.getD i default) := by
  cases l with
  | nil => simp at h
  | cons x l =>
    cases i with
    | zero => simp [allF]
    | succ i =>
      rw [List.take_succ_cons, List.take_succ_cons, if_neg (by omega)]
      simp only [allF]
      rw [take_succ' (by simpa using h), List.foldl_append]
      simp

/-! what aggregates are valid -/
def validF (f : FoldR) : Bool :=
  if f.count < 0 ∨ f.count > 1024 ∨ f.numbers < 0 ∨ f.numbers > f.count then false
  else if (if f.numbers = 0 then f.sum ≠ 0 ∨ f.low ≠ 0 ∨ f.high ≠ 0 else
      f.low < -1000000000000 ∨ f.high > 1000000000000 ∨ f.low > f.high ∨ f.sum < IntKind.i64.wrap (IntKind.i64.wrap (IntKind.i64.wrap (f.numbers - 1) * f.low) + f.high) ∨ f.sum > IntKind.i64.wrap (f.low + IntKind.i64.wrap (IntKind.i64.wrap (f.numbers - 1) * f.high))) then false
  else if f.count = 0 then f.first == [] && f.last == []
  else decide ((f.first.length : Int) ≤ 64) && (decide ((f.last.length : Int) ≤ 64) && (!(Op.bytesLess f.last f.first) && ((f.first == f.last) == (f.count == 1))))
theorem joinF_add {x y : FoldR} {m n : Nat} {k v : List UInt8} (hx : FoldB m x) (hy : FoldB n y) (hm : m + n < 4000000) : addF (joinF x y) k v = joinF x (addF y k v) := by
  have hn := number_in v
  obtain ⟨c, n1, n2, s1, s2, l1, l2, h1, h2, z, zc⟩ := hx
  obtain ⟨c', n1', n2', s1', s2', l1', l2', h1', h2', z', zc'⟩ := hy
  have w1 : IntKind.i64.wrap (x.count + y.count) = x.count + y.count := wrap_of (by omega) (by omega)
  have w2 : IntKind.i64.wrap (x.numbers + y.numbers) = x.numbers + y.numbers := wrap_of (by omega) (by omega)
  have w3 : IntKind.i64.wrap (x.sum + y.sum) = x.sum + y.sum := wrap_of (by omega) (by omega)
  have w4 : IntKind.i64.wrap (y.count + 1) = y.count + 1 := wrap_of (by omega) (by omega)
  have w5 : IntKind.i64.wrap (y.numbers + 1) = y.numbers + 1 := wrap_of (by omega) (by omega)
  have w6 : IntKind.i64.wrap (y.sum + (number v).1) = y.sum + (number v).1 := wrap_of (by omega) (by omega)
  have w7 : IntKind.i64.wrap (x.count + y.count + 1) = x.count + y.count + 1 := wrap_of (by omega) (by omega)
  have w8 : IntKind.i64.wrap (x.numbers + y.numbers + 1) = x.numbers + y.numbers + 1 := wrap_of (by omega) (by omega)
  have w9 : IntKind.i64.wrap (x.sum + y.sum + (number v).1) = x.sum + y.sum + (number v).1 := wrap_of (by omega) (by omega)
  have w10 : IntKind.i64.wrap (x.count + (y.count + 1)) = x.count + y.count + 1 := by rw [wrap_of (by omega) (by omega)]; omega
  have w11 : IntKind.i64.wrap (x.numbers + (y.numbers + 1)) = x.numbers + y.numbers + 1 := by rw [wrap_of (by omega) (by omega)]; omega
  have w12 : IntKind.i64.wrap (x.sum + (y.sum + (number v).1)) = x.sum + y.sum + (number v).1 := by rw [wrap_of (by omega) (by omega)]; omega
  have q1 : (x.numbers + y.numbers = 0) ↔ (x.numbers = 0 ∧ y.numbers = 0) := by omega
  have q2 : (x.count + y.count = 0) ↔ (x.count = 0 ∧ y.count = 0) := by omega
  have q3 : ¬ (y.count + 1 = 0) := by omega
  have q4 : ¬ (y.numbers + 1 = 0) := by omega
  unfold addF joinF
  by_cases hv : (number v).2 = true
  · simp only [hv, if_true, w1, w2, w3, w4, w5, w6, w7, w8, w9, w10, w11, w12, q1, q2, q3, q4, if_false]
    congr 1
    · by_cases hx0 : x.numbers = 0
      · simp [hx0]
      · by_cases hy0 : y.numbers = 0
        · simp [hx0, hy0]
        · simp only [hx0, hy0, false_and, false_or, if_false]
          (repeat' split) <;> omega
    · by_cases hx0 : x.numbers = 0
      · simp [hx0]
      · by_cases hy0 : y.numbers = 0
        · simp [hx0, hy0]
        · simp only [hx0, hy0, false_and, false_or, if_false]
          (repeat' split) <;> omega
    · by_cases hx0 : x.count = 0
      · simp [hx0]
      · simp [hx0]
  · simp only [hv, if_false, Bool.false_eq_true, w1, w2, w3, w4, w7, w10, q2, q3]
    congr 1
    by_cases hx0 : x.count = 0
    · simp [hx0]
    · simp [hx0]
theorem foldOf_snoc {rows : List Row} {r : Row} : foldOf (rows ++ [r]) = addF (foldOf rows) r.1 r.2 := by
  unfold foldOf; rw [List.foldl_append]; rfl
theorem join_zero {x : FoldR} {m : Nat} (hx : FoldB m x) (hm : m < 4000000) : joinF x foldZ = x := by
  obtain ⟨c, n1, n2, s1, s2, l1, l2, h1, h2, z, zc⟩ := hx
  have w1 : IntKind.i64.wrap (x.count + 0) = x.count := by rw [wrap_of (by omega) (by omega)]; omega
  have w2 : IntKind.i64.wrap (x.numbers + 0) = x.numbers := by rw [wrap_of (by omega) (by omega)]; omega
  have w3 : IntKind.i64.wrap (x.sum + 0) = x.sum := by rw [wrap_of (by omega) (by omega)]; omega
  obtain ⟨a, b, cc, d, e, f, g⟩ := x
  simp only at *
  unfold joinF foldZ
  simp only [w1, w2, w3, if_true]
  congr 1
  · split
    · rw [(z (by assumption)).2.1]
    · rfl
  · split
    · rw [(z (by assumption)).2.2]
    · rfl
  · split
    · rw [(zc (by assumption)).1]
    · rfl
/-- the aggregate of a list is that of its parts, joined -/
theorem foldOf_append {a b : List Row} (h : a.length + b.length < 4000000) : foldOf (a ++ b) = joinF (foldOf a) (foldOf b) := by
  have key : ∀ i, i ≤ b.length → foldOf (a ++ b.take i) = joinF (foldOf a) (foldOf (b.take i)) := by
    intro i
    induction i with
    | zero =>
      intro _
      rw [List.take_zero, List.append_nil]
      exact (join_zero (of_b (by omega)) (by omega)).symm
    | succ i ih =>
      intro hi
      have hl : (b.take i).length = i := by simp; omega
      rw [take_succ' (by omega), ← List.append_assoc, foldOf_snoc, foldOf_snoc, ih (by omega), joinF_add (of_b (by omega)) (of_b (by omega)) (by omega)]
  have := key b.length (Nat.le_refl _)
  rwa [List.take_length] at this

structure FoldW (f : FoldR) : Prop where
  o : 0 < f.numbers → f.low ≤ f.high
  a : 0 < f.numbers → (f.numbers - 1) * f.low + f.high ≤ f.sum
  b : 0 < f.numbers → f.sum ≤ f.low + (f.numbers - 1) * f.high
theorem add_w {f : FoldR} {m : Nat} {k v : List UInt8} (hm : m < 4000000) (hb : FoldB m f) (h : FoldW f) : FoldW (addF f k v) := by
  have hn := number_in v
  obtain ⟨c, n1, n2, s1, s2, l1, l2, h1, h2, z, zc⟩ := hb
  obtain ⟨o, a, b⟩ := h
  have w5 : IntKind.i64.wrap (f.numbers + 1) = f.numbers + 1 := wrap_of (by omega) (by omega)
  have w6 : IntKind.i64.wrap (f.sum + (number v).1) = f.sum + (number v).1 := wrap_of (by omega) (by omega)
  unfold addF
  by_cases hv : (number v).2 = true
  · simp only [hv, if_true, w5, w6]
    generalize (number v).1 = x at *
    by_cases h0 : f.numbers = 0
    · have hz := z h0
      constructor <;> simp [h0, hz]
    · have o := o (by omega)
      have a := a (by omega)
      have b := b (by omega)
      simp only [h0, false_or]
      have e : f.numbers + 1 - 1 = f.numbers := by omega
      -- products
      have p1 : ∀ y : Int, f.numbers * y = (f.numbers - 1) * y + y := fun y => by rw [Int.sub_mul, Int.one_mul]; omega
      have mono : ∀ {y z : Int}, y ≤ z → (f.numbers - 1) * y ≤ (f.numbers - 1) * z := fun h => Int.mul_le_mul_of_nonneg_left h (by omega)
      refine ⟨fun _ => ?_, fun _ => ?_, fun _ => ?_⟩
      · simp only
        (repeat' split) <;> omega
      · simp only [e]
        by_cases c1 : x < f.low
        · have c2 : ¬ x > f.high := by omega
          rw [if_pos c1, if_neg c2, p1]
          have := mono (y := x) (z := f.low) (by omega)
          omega
        · rw [if_neg c1, p1]
          split <;> omega
      · simp only [e]
        by_cases c1 : x > f.high
        · have c2 : ¬ x < f.low := by omega
          rw [if_pos c1, if_neg c2, p1]
          have := mono (y := f.high) (z := x) (by omega)
          omega
        · rw [if_neg c1, p1]
          split <;> omega
  · simp only [hv, if_false, Bool.false_eq_true]
    exact ⟨o, a, b⟩
theorem of_take {rows : List Row} (h : rows.length < 4000000) : ∀ i, i ≤ rows.length → FoldW (foldOf (rows.take i)) ∧ (0 < i → (foldOf (rows.take i)).first = (rows.getD 0 default).1 ∧ (foldOf (rows.take i)).last = (rows.getD (i - 1) default).1) := by
  intro i
  induction i with
  | zero =>
    intro _
    rw [List.take_zero]
    exact ⟨⟨fun h => absurd h (by decide), fun h => absurd h (by decide), fun h => absurd h (by decide)⟩, fun h => absurd h (by decide)⟩
  | succ i ih =>
    intro hi
    obtain ⟨h1, h2⟩ := ih (by omega)
    have hl : (rows.take i).length = i := by simp; omega
    have hb := of_b (rows := rows.take i) (by omega)
    rw [hl] at hb
    rw [foldOf_take (by omega)]
    refine ⟨add_w (by omega) hb h1, fun _ => ?_⟩
    have hlast : (addF (foldOf (rows.take i)) (rows.getD i default).1 (rows.getD i default).2).last = (rows.getD i default).1 := by
      unfold addF; split <;> rfl
    have hfirst : (addF (foldOf (rows.take i)) (rows.getD i default).1 (rows.getD i default).2).first = if (foldOf (rows.take i)).count = 0 then (rows.getD i default).1 else (foldOf (rows.take i)).first := by
      unfold addF; split <;> rfl
    refine ⟨?_, by rw [hlast, Nat.add_sub_cancel]⟩
    rw [hfirst, hb.c]
    rcases Nat.eq_zero_or_pos i with rfl | hp
    · rfl
    · rw [if_neg (by omega)]
      exact (h2 hp).1
/-- the aggregates of tables are valid -/
theorem of_valid {rows : List Row} (h : TabOk rows) (hl : rows.length ≤ 1000) : validF (foldOf rows) = true := by
  obtain ⟨hw, hfl⟩ := of_take (rows := rows) (by omega) rows.length (Nat.le_refl _)
  rw [List.take_length] at hw hfl
  have hb := of_b (rows := rows) (by omega)
  generalize hf : foldOf rows = f at *
  obtain ⟨c, n1, n2, s1, s2, l1, l2, h1, h2, z, zc⟩ := hb
  obtain ⟨o, a, b⟩ := hw
  unfold validF
  rw [if_neg (by omega)]
  have e2 : ¬ (if f.numbers = 0 then f.sum ≠ 0 ∨ f.low ≠ 0 ∨ f.high ≠ 0 else
      f.low < -1000000000000 ∨ f.high > 1000000000000 ∨ f.low > f.high ∨ f.sum < IntKind.i64.wrap (IntKind.i64.wrap (IntKind.i64.wrap (f.numbers - 1) * f.low) + f.high) ∨ f.sum > IntKind.i64.wrap (f.low + IntKind.i64.wrap (IntKind.i64.wrap (f.numbers - 1) * f.high))) := by
    by_cases h0 : f.numbers = 0
    · have := z h0
      simp [h0, this]
    · have o := o (by omega)
      have a := a (by omega)
      have b := b (by omega)
      have w1 : IntKind.i64.wrap (f.numbers - 1) = f.numbers - 1 := wrap_of (by omega) (by omega)
      have pb : ∀ y : Int, -1000000000000 ≤ y → y ≤ 1000000000000 → -1000000000000000 ≤ (f.numbers - 1) * y ∧ (f.numbers - 1) * y ≤ 1000000000000000 := by
        intro y hy1 hy2
        have q1 := Int.mul_le_mul_of_nonneg_left hy2 (show 0 ≤ f.numbers - 1 by omega)
        have q2 := Int.mul_le_mul_of_nonneg_left hy1 (show 0 ≤ f.numbers - 1 by omega)
        constructor <;> omega
      have b1 := pb f.low l1 l2
      have b2 := pb f.high h1 h2
      rw [if_neg h0, w1, wrap_of (n := (f.numbers - 1) * f.low) (by omega) (by omega), wrap_of (n := (f.numbers - 1) * f.high) (by omega) (by omega), wrap_of (n := (f.numbers - 1) * f.low + f.high) (by omega) (by omega), wrap_of (n := f.low + (f.numbers - 1) * f.high) (by omega) (by omega)]
      omega
  rw [if_neg e2]
  by_cases hc : f.count = 0
  · rw [if_pos hc, (zc hc).1, (zc hc).2]; rfl
  · rw [if_neg hc]
    have hlen : 0 < rows.length := by omega
    obtain ⟨e3, e4⟩ := hfl hlen
    have hk : ∀ i, i < rows.length → ((rows.getD i default).1.length : Int) ≤ 64 := by
      intro i hi
      have e : rows.getD i default = rows[i] := by simp [List.getD, hi]
      have := h.ok _ (List.getElem_mem hi)
      rw [e]
      simp only [rowOk, Bool.and_eq_true, decide_eq_true_eq] at this
      exact this.1
    have k1 := hk 0 hlen
    have k2 := hk (rows.length - 1) (by omega)
    rw [e3, e4]
    simp only [k1, k2, decide_true, Bool.true_and, Bool.and_eq_true, Bool.not_eq_true']
    by_cases h1' : rows.length = 1
    · have : f.count = 1 := by omega
      simp [h1', this, bl_irrefl]
    · have hs := List.pairwise_iff_getElem.1 h.sorted 0 (rows.length - 1) hlen (by omega) (by omega)
      have e5 : rows.getD 0 default = rows[0] := by simp [List.getD, hlen]
      have e6 : rows.getD (rows.length - 1) default = rows[rows.length - 1] := by simp only [List.getD, List.getElem?_eq_getElem (show rows.length - 1 < rows.length by omega), Option.getD_some]
      rw [e5, e6]
      have hne := bl_ne hs
      have hc1 : ¬ f.count = 1 := by omega
      refine ⟨bl_asymm hs, ?_⟩
      rw [beq_eq_false_iff_ne.2 hne, beq_eq_false_iff_ne.2 hc1]
      rfl

abbrev foldA (c n s l h : Int) (f la : List UInt8) : SV := .agg [.d (.int .i64 c), .d (.int .i64 n), .d (.int .i64 s), .d (.int .i64 l), .d (.int .i64 h), .d (.str f), .d (.str la)]

end Go.Sx
