/- Part of a symbolic executor over the model, proved sound, with plain laws: SxTab. Written for these claims. -/
import Derived.Test.YtiadnhbclipmhaaGreatDoorSxArg
import Derived.Sort.LotA
set_option linter.unusedVariables false
set_option linter.unusedSimpArgs false
namespace Go.Sx
open Go
abbrev Row := List UInt8 × List UInt8
def Sorted (rows : List Row) : Prop := rows.Pairwise fun a b => Op.bytesLess a.1 b.1 = true
theorem Sorted.sub {l m : List Row} (h : Sorted m) (hs : l.Sublist m) : Sorted l := List.Pairwise.sublist hs h
end Go.Sx

namespace Go.Sx
open Go
variable {P : Program} {G : Nat → Option (Nat × (Nat → D))}
theorem Spec.byNil {f : FuncId} {len sz : Nat} {get : Nat → Nat → D} {res : SV} {post : List (Nat × Blk)} (h1 : len = 0 → ∀ c, Spec P G f [.d (.val (.slice none 0 c))] [] res post) (h2 : Spec P G f [.d (.nl len sz get)] [] res post) :
    Spec P G f [.d (.list len sz get)] [] res post where
  keys := h2.keys
  apart := h2.apart
  rnames := h2.rnames
  pnames := h2.pnames
  kind := h2.kind
  enter := h2.enter
  calls := by
    intro w I ρ vs hr hp hi hl hg
    simp only [RepL, RepS, RepD] at hr
    obtain ⟨v, r, rfl, ⟨ad, cap, rfl, hc, hk⟩, rfl⟩ := hr
    cases ad with
    | none =>
      have h0 : len = 0 := by
        rcases Nat.eq_zero_or_pos len with h | h
        · exact h
        · obtain ⟨_, _, e, _⟩ := hk h; cases e
      subst h0
      exact (h1 rfl cap).calls w I ρ _ (by simp only [RepL, RepS, RepD]; exact ⟨_, _, rfl, ⟨rfl, rfl⟩, rfl⟩) hp hi hl hg
    | some a =>
      refine h2.calls w I ρ _ (by
        simp only [RepL, RepS, RepD]
        refine ⟨_, _, rfl, ⟨a, cap, rfl, hc, fun h => ?_⟩, rfl⟩
        obtain ⟨b, o, e, hb⟩ := hk h
        exact ⟨b, o, by cases e; rfl, hb⟩) hp hi hl hg
end Go.Sx

namespace Go.Sx
open Go
structure FoldR where
  count : Int
  numbers : Int
  sum : Int
  low : Int
  high : Int
  first : List UInt8
  last : List UInt8
def numLoop (s : List UInt8) : Nat → Nat → Int → Option Int
  | 0, _, acc => some acc
  | f + 1, pos, acc => if pos < s.length then
      (if ((runeAt s pos).1 : Int) < 48 ∨ ((runeAt s pos).1 : Int) > 57 then none
       else
         if IntKind.i64.wrap (IntKind.i64.wrap (acc * 10) + IntKind.i64.wrap (IntKind.i32.wrap ((runeAt s pos).1 - 48))) > 1000000000000 then none
         else numLoop s f (pos + (runeAt s pos).2) (IntKind.i64.wrap (IntKind.i64.wrap (acc * 10) + IntKind.i64.wrap (IntKind.i32.wrap ((runeAt s pos).1 - 48)))))
    else some acc
def numTail (s : List UInt8) (neg : Bool) : Int × Bool :=
  if s = [] then (0, false)
  else if ((s.getD 0 0).toNat : Int) = 48 ∧ ((s.length : Int) > 1 ∨ neg = true) then (0, false)
  else match numLoop s s.length 0 0 with
    | none => (0, false)
    | some v => (if neg then IntKind.i64.wrap (0 - v) else v, true)
def number (l : List UInt8) : Int × Bool :=
  if (l.length : Int) > 0 ∧ ((l.getD 0 0).toNat : Int) = 45 then numTail (l.drop 1) true else numTail l false
abbrev cells (f : FoldR) : List SV := [.d (.int .i64 f.count), .d (.int .i64 f.numbers), .d (.int .i64 f.sum), .d (.int .i64 f.low), .d (.int .i64 f.high), .d (.str f.first), .d (.str f.last)]
def addF (f : FoldR) (k v : List UInt8) : FoldR :=
  if (number v).2 = true then
    { count := IntKind.i64.wrap (f.count + 1), first := if f.count = 0 then k else f.first, last := k, numbers := IntKind.i64.wrap (f.numbers + 1), sum := IntKind.i64.wrap (f.sum + (number v).1),
      low := if f.numbers = 0 ∨ (number v).1 < f.low then (number v).1 else f.low, high := if f.numbers = 0 ∨ (number v).1 > f.high then (number v).1 else f.high }
  else { count := IntKind.i64.wrap (f.count + 1), first := if f.count = 0 then k else f.first, last := k, numbers := f.numbers, sum := f.sum, low := f.low, high := f.high }
theorem refPre_drop {s : List UInt8} {i : Nat} (h : i < s.length) : s.drop i = s.getD i 0 :: s.drop (i + 1) := by
  rw [List.drop_eq_getElem_cons h]
  simp [List.getD, h]
def byteLoop : List UInt8 → Int → Option Int
  | [], acc => some acc
  | b :: l, acc => if (b.toNat : Int) < 48 ∨ (b.toNat : Int) > 57 then none else if acc * 10 + (b.toNat - 48) > 1000000000000 then none else byteLoop l (acc * 10 + (b.toNat - 48))
theorem wrap32_of {n : Int} (h1 : -2147483648 ≤ n) (h2 : n < 2147483648) : IntKind.i32.wrap n = n := by
  simp [IntKind.wrap, IntKind.bits, IntKind.signed]
  split <;> omega
theorem runeAt_low {s : List UInt8} {pos : Nat} (h : pos < s.length) (hb : (s.getD pos 0).toNat < 128) : runeAt s pos = ((s.getD pos 0).toNat, 1) := by
  have e : (s.getD pos 0) = (ByteArray.mk ⟨s⟩)[pos]'h := by simp [List.getD, h]; rfl
  rw [e] at hb ⊢
  exact decode_ascii ⟨⟨s⟩⟩ pos h hb
theorem runeAt_high {s : List UInt8} {pos : Nat} (h : pos < s.length) (hb : ¬ (s.getD pos 0).toNat < 128) : 128 ≤ (runeAt s pos).1 := by
  have e : (s.getD pos 0) = (ByteArray.mk ⟨s⟩)[pos]'h := by simp [List.getD, h]; rfl
  rw [e] at hb
  exact (decode_high ⟨⟨s⟩⟩ pos h (by omega)).1
theorem numLoop_bytes {s : List UInt8} : ∀ (f pos : Nat) (acc : Int), s.length ≤ pos + f → 0 ≤ acc → acc ≤ 1000000000000 → numLoop s f pos acc = byteLoop (s.drop pos) acc
  | 0, pos, acc, h, _, _ => by rw [List.drop_eq_nil_of_le (by omega)]; rfl
  | f + 1, pos, acc, h, h0, h1 => by
    by_cases hp : pos < s.length
    · rw [refPre_drop hp]
      by_cases hb : (s.getD pos 0).toNat < 128
      · simp only [numLoop, hp, if_true, runeAt_low hp hb, byteLoop]
        generalize (s.getD pos 0).toNat = b at *
        by_cases hd : (b : Int) < 48 ∨ (b : Int) > 57
        · simp only [hd, if_true]
        · simp only [hd, if_false]
          have w1 : IntKind.i64.wrap (acc * 10) = acc * 10 := wrap_of (by omega) (by omega)
          have w2 : IntKind.i32.wrap ((b : Int) - 48) = (b : Int) - 48 := wrap32_of (by omega) (by omega)
          have w3 : IntKind.i64.wrap ((b : Int) - 48) = (b : Int) - 48 := wrap_of (by omega) (by omega)
          have w4 : IntKind.i64.wrap (acc * 10 + ((b : Int) - 48)) = acc * 10 + ((b : Int) - 48) := wrap_of (by omega) (by omega)
          rw [w1, w2, w3, w4]
          by_cases hbig : acc * 10 + ((b : Int) - 48) > 1000000000000
          · simp only [hbig, if_true]
          · simp only [hbig, if_false]
            exact numLoop_bytes f (pos + 1) _ (by omega) (by omega) (by omega)
      · have hr := runeAt_high hp hb
        simp only [numLoop, hp, if_true, byteLoop]
        rw [if_pos (Or.inr (show ((runeAt s pos).1 : Int) > 57 by omega)), if_pos (Or.inr (show ((s.getD pos 0).toNat : Int) > 57 by omega))]
    · rw [List.drop_eq_nil_of_le (by omega)]
      simp only [numLoop, hp, if_false, byteLoop]
theorem numLoop_all (s : List UInt8) : numLoop s s.length 0 0 = byteLoop s 0 := by
  rw [numLoop_bytes s.length 0 0 (by omega) (by decide) (by decide)]; rfl
theorem byteLoop_low : ∀ {l : List UInt8} {acc v : Int}, byteLoop l acc = some v → 0 ≤ acc → acc * 10 ^ l.length ≤ v ∧ (acc ≤ 1000000000000 → v ≤ 1000000000000)
  | [], acc, v, h, _ => by
    simp only [byteLoop, Option.some.injEq] at h
    subst h
    simp
  | b :: l, acc, v, h, h0 => by
    simp only [byteLoop] at h
    split at h
    · cases h
    · rename_i hd
      split at h
      · cases h
      · rename_i hb
        obtain ⟨h1, h2⟩ := byteLoop_low h (by omega)
        refine ⟨?_, fun _ => h2 (by omega)⟩
        rw [List.length_cons, Int.pow_succ]
        have hp : (0 : Int) ≤ 10 ^ l.length := Int.pow_nonneg (by decide)
        have h3 : acc * 10 * 10 ^ l.length ≤ (acc * 10 + ((b.toNat : Int) - 48)) * 10 ^ l.length := Int.mul_le_mul_of_nonneg_right (by omega) hp
        have h4 : acc * (10 ^ l.length * 10) = acc * 10 * 10 ^ l.length := by rw [Int.mul_comm (10 ^ l.length) 10, Int.mul_assoc]
        rw [h4]
        omega
def foldZ : FoldR := ⟨0, 0, 0, 0, 0, [], []⟩
def foldOf (rows : List Row) : FoldR := rows.foldl (fun f r => addF f r.1 r.2) foldZ
def joinF (a b : FoldR) : FoldR :=
  { count := IntKind.i64.wrap (a.count + b.count), numbers := IntKind.i64.wrap (a.numbers + b.numbers), sum := IntKind.i64.wrap (a.sum + b.sum),
    low := if a.numbers = 0 then b.low else if b.numbers = 0 then a.low else if b.low < a.low then b.low else a.low,
    high := if a.numbers = 0 then b.high else if b.numbers = 0 then a.high else if b.high > a.high then b.high else a.high,
    first := if a.count = 0 then b.first else a.first, last := if b.count = 0 then a.last else b.last }
def oneF (k v : List UInt8) : FoldR :=
  if (number v).2 = true then ⟨1, 1, (number v).1, (number v).1, (number v).1, k, k⟩ else ⟨1, 0, 0, 0, 0, k, k⟩
def refOf (rows : List Row) : FoldR := rows.foldl (fun f r => joinF f (oneF r.1 r.2)) foldZ
structure FoldB (m : Nat) (f : FoldR) : Prop where
  c : f.count = m
  n1 : 0 ≤ f.numbers
  n2 : f.numbers ≤ m
  s1 : -(m * 1000000000000) ≤ f.sum
  s2 : f.sum ≤ m * 1000000000000
  l1 : -1000000000000 ≤ f.low
  l2 : f.low ≤ 1000000000000
  h1 : -1000000000000 ≤ f.high
  h2 : f.high ≤ 1000000000000
  z : f.numbers = 0 → f.sum = 0 ∧ f.low = 0 ∧ f.high = 0
  zc : f.count = 0 → f.first = [] ∧ f.last = []
theorem number_in (v : List UInt8) : -1000000000000 ≤ (number v).1 ∧ (number v).1 ≤ 1000000000000 := by
  have key : ∀ (s : List UInt8) (neg : Bool), -1000000000000 ≤ (numTail s neg).1 ∧ (numTail s neg).1 ≤ 1000000000000 := by
    intro s neg
    unfold numTail
    split
    · exact ⟨by decide, by decide⟩
    · split
      · exact ⟨by decide, by decide⟩
      · rw [numLoop_all]
        cases hv : byteLoop s 0 with
        | none => exact ⟨by simp, by simp⟩
        | some v =>
          obtain ⟨h1, h2⟩ := byteLoop_low hv (by decide)
          have h2 := h2 (by decide)
          simp only
          split
          · rw [wrap_of (by omega) (by omega)]; omega
          · omega
  unfold number
  split
  · exact key _ _
  · exact key _ _
theorem add_join {f : FoldR} {m : Nat} {k v : List UInt8} (hm : m ≤ 9000000) (h : FoldB m f) : addF f k v = joinF f (oneF k v) := by
  have hn := number_in v
  have h1 := h.n1
  have h2 := h.n2
  have h3 := h.s1
  have h4 := h.s2
  unfold addF joinF oneF
  by_cases hv : (number v).2 = true
  · simp only [hv, if_true]
    by_cases h0 : f.numbers = 0
    · simp [h0]
    · simp [h0]
  · simp only [hv, if_false, Bool.false_eq_true, if_true]
    have w1 : IntKind.i64.wrap (f.numbers + 0) = f.numbers := by rw [Int.add_zero]; exact wrap_of (by omega) (by omega)
    have w2 : IntKind.i64.wrap (f.sum + 0) = f.sum := by rw [Int.add_zero]; exact wrap_of (by omega) (by omega)
    rw [w1, w2]
    by_cases h0 : f.numbers = 0
    · simp [h0, h.z h0]
    · simp [h0]
theorem add_b {f : FoldR} {m : Nat} {k v : List UInt8} (hm : m < 9000000) (h : FoldB m f) : FoldB (m + 1) (addF f k v) := by
  have hn := number_in v
  obtain ⟨c, n1, n2, s1, s2, l1, l2, h1, h2, z, zc⟩ := h
  have wc : IntKind.i64.wrap (f.count + 1) = f.count + 1 := wrap_of (by omega) (by omega)
  have wn : IntKind.i64.wrap (f.numbers + 1) = f.numbers + 1 := wrap_of (by omega) (by omega)
  have ws : IntKind.i64.wrap (f.sum + (number v).1) = f.sum + (number v).1 := wrap_of (by omega) (by omega)
  unfold addF
  by_cases hv : (number v).2 = true
  · simp only [hv, if_true, wc, wn, ws]
    constructor <;> simp only <;> first | (intro hz; exfalso; omega) | omega | (split <;> omega)
  · simp only [hv, if_false, Bool.false_eq_true, wc]
    constructor <;> simp only <;> first | omega | exact z | (intro hz; exfalso; omega)
theorem foldOf_b : ∀ (rows : List Row) (m : Nat) (f : FoldR), FoldB m f → m + rows.length ≤ 9000000 →
    rows.foldl (fun f r => addF f r.1 r.2) f = rows.foldl (fun f r => joinF f (oneF r.1 r.2)) f ∧ FoldB (m + rows.length) (rows.foldl (fun f r => addF f r.1 r.2) f)
  | [], m, f, h, _ => ⟨rfl, h⟩
  | r :: rows, m, f, h, hm => by
    simp only [List.length_cons] at hm
    obtain ⟨h1, h2⟩ := foldOf_b rows (m + 1) (addF f r.1 r.2) (add_b (by omega) h) (by omega)
    simp only [List.foldl_cons, List.length_cons]
    rw [← add_join (by omega) h]
    rw [show m + (rows.length + 1) = m + 1 + rows.length by omega]
    exact ⟨h1, h2⟩
theorem foldZ_b : FoldB 0 foldZ := by constructor <;> simp [foldZ]
theorem of_eq {rows : List Row} (h : rows.length ≤ 9000000) : refOf rows = foldOf rows := (foldOf_b rows 0 foldZ foldZ_b (by omega)).1.symm
instance : Inhabited FoldR := ⟨foldZ⟩
end Go.Sx

namespace Go.Sx
open Go
theorem dle_lit {α : Type} [Inhabited α] {enc : α → List D} {n K k : Nat} {g : Nat → Nat → D} {L : List α} (hk : K = k) (hn : n = L.length) (h : RowLe n k g (cellOf enc L)) : DLe (.list n K g) (encL enc k L) := by
  subst hk
  subst hn
  exact DLe.rows rfl h
end Go.Sx

namespace Go.Sx
open Go
variable {P : Program} {G : Nat → Option (Nat × (Nat → D))}
theorem Spec.pub1 {f : FuncId} {args : List SV} {m E sz n : Nat} {get : Nat → Nat → D} (h : Spec P G f args [] (.osl m sz 0 n) [(m, .row E sz n get)]) : Spec P G f args [] (.d (.list n sz get)) [] where
  keys := rfl
  apart := by intro n hn; simp [newP, keysP] at hn
  rnames := by intro n hn; simp [inS] at hn
  pnames := by intro n b m hn; simp at hn
  kind := by intro n b c hn; simp at hn
  enter := h.enter
  calls := by
    intro w I ρ vs hr hp hi hl hg
    refine Calls.mono (h.calls w I ρ vs hr hp hi hl hg) ?_
    rintro e w' ⟨v, I', ρ', rfl, ha⟩
    have hown := ha.own m (Blk.row E sz n get) (List.mem_singleton.2 rfl)
    have hres := ha.res
    simp only [RepS] at hres
    obtain ⟨h1, h2, h3, ad, rfl, h4⟩ := hres
    obtain ⟨k1, k2, k3, k4⟩ := hown
    have hnew : m ∈ newP ([] : List (Nat × Blk)) [(m, Blk.row E sz n get)] := by simp [newP, keysP]
    refine ⟨_, fun b => I' b ∨ (0 < (ρ' m).cap ∧ b = (ρ' m).b), ρ', rfl, ⟨fun n hn => by simp [keysP] at hn, ?_, fun n b hn => by simp at hn, fun b hb => .inl (ha.i0 b hb), ?_, ?_, ?_, fun n b _ hn => by simp at hn, fun n m b c _ hn => by simp at hn⟩⟩
    · simp only [RepS, RepD]
      refine ⟨ad, (ρ' m).cap - 0, rfl, by omega, fun hn => ?_⟩
      have hc : 0 < (ρ' m).cap := by omega
      have h5 := h4.resolve_right (by omega)
      obtain ⟨arr, g1, g2, g3⟩ := k4 hc
      refine ⟨(ρ' m).b, (ρ' m).o + 0 * sz, h5, .inr ⟨hc, rfl⟩, fun i j hi hj => ?_⟩
      obtain ⟨u, hu, hr⟩ := g3 i j (by omega) hj
      refine ⟨u, ?_, hr.mono (fun b hb => .inl hb) (fun _ _ _ => rfl)⟩
      rw [g1.cell]; simpa [Nat.add_assoc] using hu
    · rintro b (hb | ⟨hc, rfl⟩)
      · exact ha.i1 b hb
      · exact .inr (ha.sep m _ _ (List.mem_singleton.2 rfl) hnew ⟨hc, rfl⟩).2
    · rintro b (hb | ⟨hc, rfl⟩)
      · exact ha.ilt b hb
      · obtain ⟨arr, g1, _⟩ := k4 hc
        exact g1.lt
    · exact ha.keep
end Go.Sx

namespace Go.Sx
open Go
theorem bl_tot {a b : List UInt8} (h1 : Op.bytesLess a b = false) (h2 : a ≠ b) : Op.bytesLess b a = true := by
  by_cases h : Op.bytesLess b a = true
  · exact h
  · exact absurd (bl_tri h1 (by simpa using h)) h2
end Go.Sx

namespace Go.Sx
open Go
end Go.Sx

namespace Go.Sx
open Go
def ltR (a b : Row) : Bool := Op.bytesLess a.1 b.1
theorem bl_ntrans {a b c : List UInt8} (h1 : Op.bytesLess a b = false) (h2 : Op.bytesLess b c = false) : Op.bytesLess a c = false := by
  cases h : Op.bytesLess a c with
  | false => rfl
  | true =>
    by_cases e : a = b
    · subst e; rw [h] at h2; cases h2
    · have h3 := bl_tot h1 e
      have := bl_trans h3 h
      rw [this] at h2; cases h2
theorem swo_ltR : Sort.SWO ltR := ⟨fun x => bl_irrefl _, fun x y z h1 h2 => bl_trans h1 h2, fun x y z h1 h2 => bl_ntrans h1 h2⟩
end Go.Sx
