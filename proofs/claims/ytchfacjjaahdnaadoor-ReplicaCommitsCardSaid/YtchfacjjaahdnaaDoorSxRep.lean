/- Part of a symbolic executor over the model, proved sound, with plain laws: SxRep. Written for these claims. -/
import Derived.Test.YtchfacjjaahdnaaDoorSxWr
namespace Go.Sx
open Go
set_option linter.unusedVariables false
set_option linter.unusedSimpArgs false

/-! ranges as such -/
def emptyR' (r : Rng) : Bool := emptyR r.1 r.2.1 r.2.2.1 r.2.2.2
def validR' (r : Rng) : Bool := validR r.1 r.2.1 r.2.2.1 r.2.2.2
def hasR (r : Rng) (k : List UInt8) : Bool := containsR r.1 r.2.1 r.2.2.1 r.2.2.2 k
def cmpBB (a b : Bnd) : Int := cmpB a.1 a.2 b.1 b.2
def maxB (a b : Bnd) : Bnd := if cmpBB b a > 0 then b else a
def minB (a b : Bnd) : Bnd := if cmpBB b a < 0 then b else a
def zeroR : Rng := ([], false, [], false)
def meetR (a b : Rng) : Rng :=
  let lo := maxB (a.1, a.2.1) (b.1, b.2.1)
  let hi := minB (a.2.2.1, a.2.2.2) (b.2.2.1, b.2.2.2)
  (lo.1, lo.2, hi.1, hi.2)
def interR (a b : Rng) : Rng := if emptyR' a || emptyR' b || emptyR' (meetR a b) then zeroR else meetR a b
theorem cmp_neg (a b : Bnd) : cmpBB b a = -(cmpBB a b) := by
  obtain ⟨ak, at_⟩ := a
  obtain ⟨bk, bt⟩ := b
  simp only [cmpBB, cmpB]
  cases at_ <;> cases bt <;> cases h : Op.bytesLess ak bk <;> cases h2 : Op.bytesLess bk ak <;> simp
  exact absurd (bl_trans h h2) (by rw [bl_irrefl]; simp)
theorem emptyR_zero : emptyR' zeroR = true := by simp [emptyR', zeroR, emptyR, validR, validB, cmpB, bl_irrefl]
theorem cmp_eq {a b : Bnd} (ha : validB a.1 a.2 = true) (hb : validB b.1 b.2 = true) (h : cmpBB a b = 0) : a = b := by
  obtain ⟨ak, at_⟩ := a
  obtain ⟨bk, bt⟩ := b
  simp only [cmpBB, cmpB, validB, Bool.and_eq_true, decide_eq_true_eq] at *
  cases at_ <;> cases bt <;> simp at h ha hb ⊢
  · have h1 : Op.bytesLess ak bk = false := by
      cases e : Op.bytesLess ak bk with
      | false => rfl
      | true => rw [e] at h; simp at h
    have h2 : Op.bytesLess bk ak = false := by
      cases e : Op.bytesLess bk ak with
      | false => rfl
      | true => rw [e, h1] at h; simp at h
    exact bl_tri h1 h2
  · rw [ha.2, hb.2]
theorem empty_false {r : Rng} (h : emptyR' r = false) : validB r.1 r.2.1 = true ∧ validB r.2.2.1 r.2.2.2 = true ∧ cmpB r.1 r.2.1 r.2.2.1 r.2.2.2 < 0 := by
  simp only [emptyR', emptyR, validR, Bool.or_eq_false_iff, Bool.not_eq_false', Bool.and_eq_true, decide_eq_true_eq, beq_eq_false_iff_ne, ne_eq] at h
  obtain ⟨⟨⟨h1, h2⟩, h3⟩, h4⟩ := h
  exact ⟨h1, h2, by omega⟩
theorem maxB_comm {a b : Bnd} (ha : validB a.1 a.2 = true) (hb : validB b.1 b.2 = true) : maxB a b = maxB b a := by
  unfold maxB
  rw [cmp_neg a b]
  by_cases h : cmpBB a b = 0
  · rw [cmp_eq ha hb h]; simp
  · by_cases h1 : cmpBB a b < 0
    · rw [if_pos (by omega), if_neg (by omega)]
    · rw [if_neg (by omega), if_pos (by omega)]
theorem minB_comm {a b : Bnd} (ha : validB a.1 a.2 = true) (hb : validB b.1 b.2 = true) : minB a b = minB b a := by
  unfold minB
  rw [cmp_neg a b]
  by_cases h : cmpBB a b = 0
  · rw [cmp_eq ha hb h]; simp
  · by_cases h1 : cmpBB a b < 0
    · rw [if_neg (by omega), if_pos (by omega)]
    · rw [if_pos (by omega), if_neg (by omega)]
theorem interR_comm (a b : Rng) : interR a b = interR b a := by
  unfold interR
  cases ha : emptyR' a with
  | true => simp
  | false =>
    cases hb : emptyR' b with
    | true => simp
    | false =>
      obtain ⟨a1, a2, _⟩ := empty_false ha
      obtain ⟨b1, b2, _⟩ := empty_false hb
      have e : meetR a b = meetR b a := by
        simp only [meetR]
        rw [maxB_comm (a := (a.1, a.2.1)) (b := (b.1, b.2.1)) a1 b1, minB_comm (a := (a.2.2.1, a.2.2.2)) (b := (b.2.2.1, b.2.2.2)) a2 b2]
      rw [e]

theorem all_true {α : Type} [Inhabited α] {l : List α} {p : α → Bool} (h : ∀ j, j < l.length → p (l.getD j default) = true) : l.all p = true := by
  rw [List.all_eq_true]
  intro x hx
  obtain ⟨j, hj, rfl⟩ := List.getElem_of_mem hx
  have := h j hj
  rwa [show l.getD j default = l[j] by simp [List.getD, hj]] at this
theorem all_false {α : Type} [Inhabited α] {l : List α} {p : α → Bool} {i : Nat} (hi : i < l.length) (h : p (l.getD i default) = false) : l.all p = false := by
  cases e : l.all p with
  | false => rfl
  | true =>
    have := List.all_eq_true.1 e _ (List.getElem_mem hi)
    rw [show l.getD i default = l[i] by simp [List.getD, hi]] at h
    rw [h] at this
    cases this

def lowR (a m : Rng) : Rng := (a.1, a.2.1, m.1, m.2.1)
def highR (a m : Rng) : Rng := (m.2.2.1, m.2.2.2, a.2.2.1, a.2.2.2)
/-- what a range has more than another one -/
def subR (a b : Rng) : List Rng :=
  if emptyR' a then [] else if emptyR' (interR a b) then [a]
  else (if emptyR' (lowR a (interR a b)) then [] else [lowR a (interR a b)]) ++ (if emptyR' (highR a (interR a b)) then [] else [highR a (interR a b)])
theorem subR_len {a b : Rng} : (subR a b).length ≤ 2 := by
  unfold subR
  split
  · simp
  · split
    · simp
    · split <;> split <;> simp

/-! stamps, parts, copies -/
def numOk (n : Int) : Bool := decide (1 ≤ n) && decide (n ≤ 2147483647)
def serOk (n : Int) : Bool := decide (1 ≤ n) && decide (n ≤ 1099511627776)
def stampOk (e v : Int) : Bool := decide (0 ≤ e) && decide (e ≤ 1099511627776) && decide (0 ≤ v) && decide (v ≤ 1099511627776)
theorem ser_of {n : Int} (h0 : (n == 0) = false) (h1 : ¬ n < 0) (h2 : ¬ n > 1099511627776) : serOk n = true := by
  simp only [beq_eq_false_iff_ne, ne_eq] at h0
  simp only [serOk, Bool.and_eq_true, decide_eq_true_eq]
  omega
theorem ser_not {n : Int} (h : n < 0 ∨ n > 1099511627776) : serOk n = false := by
  simp only [serOk, Bool.and_eq_false_iff, decide_eq_false_iff_not]
  omega
structure PartT where
  serial : Int
  src : Int
  dst : Int
  se : Int
  sv : Int
  lk : List UInt8
  lt : Bool
  hk : List UInt8
  ht : Bool
  rows : List Row
instance : Inhabited PartT := ⟨⟨0, 0, 0, 0, 0, [], false, [], false, []⟩⟩
structure CopyT where
  lk : List UInt8
  lt : Bool
  hk : List UInt8
  ht : Bool
  se : Int
  sv : Int
  rows : List Row
  pend : List Wr
  out : PartT
  inn : PartT
  took : Int
  src : Int
instance : Inhabited CopyT := ⟨⟨[], false, [], false, 0, 0, [], [], default, default, 0, 0⟩⟩
def noPart : PartT := ⟨0, 0, 0, 0, 0, [], false, [], false, []⟩
def noCopy : CopyT := ⟨[], false, [], false, 0, 0, [], [], noPart, noPart, 0, 0⟩
abbrev PartT.rng (p : PartT) : Rng := (p.lk, p.lt, p.hk, p.ht)
abbrev CopyT.rng (c : CopyT) : Rng := (c.lk, c.lt, c.hk, c.ht)
def encPart (p : PartT) : List D := [.int .i64 p.serial, .int .i64 p.src, .int .i64 p.dst, .int .i64 p.se, .int .i64 p.sv, .str p.lk, .bool p.lt, .str p.hk, .bool p.ht, encL encRow 2 p.rows]
def encCopy (c : CopyT) : List D := [.str c.lk, .bool c.lt, .str c.hk, .bool c.ht, .int .i64 c.se, .int .i64 c.sv, encL encRow 2 c.rows, encL encWr 3 c.pend,
  .int .i64 c.out.serial, .int .i64 c.out.src, .int .i64 c.out.dst, .int .i64 c.out.se, .int .i64 c.out.sv, .str c.out.lk, .bool c.out.lt, .str c.out.hk, .bool c.out.ht, encL encRow 2 c.out.rows,
  .int .i64 c.inn.serial, .int .i64 c.inn.src, .int .i64 c.inn.dst, .int .i64 c.inn.se, .int .i64 c.inn.sv, .str c.inn.lk, .bool c.inn.lt, .str c.inn.hk, .bool c.inn.ht, encL encRow 2 c.inn.rows,
  .int .i64 c.took, .int .i64 c.src]
abbrev partL (p : PartT) : List SV := [.d (.int .i64 p.serial), .d (.int .i64 p.src), .d (.int .i64 p.dst), .d (.int .i64 p.se), .d (.int .i64 p.sv), .d (.str p.lk), .d (.bool p.lt), .d (.str p.hk), .d (.bool p.ht), .d (encL encRow 2 p.rows)]
abbrev copyL (c : CopyT) : List SV := [.d (.str c.lk), .d (.bool c.lt), .d (.str c.hk), .d (.bool c.ht), .d (.int .i64 c.se), .d (.int .i64 c.sv), .d (encL encRow 2 c.rows), .d (encL encWr 3 c.pend),
  .d (.int .i64 c.out.serial), .d (.int .i64 c.out.src), .d (.int .i64 c.out.dst), .d (.int .i64 c.out.se), .d (.int .i64 c.out.sv), .d (.str c.out.lk), .d (.bool c.out.lt), .d (.str c.out.hk), .d (.bool c.out.ht), .d (encL encRow 2 c.out.rows),
  .d (.int .i64 c.inn.serial), .d (.int .i64 c.inn.src), .d (.int .i64 c.inn.dst), .d (.int .i64 c.inn.se), .d (.int .i64 c.inn.sv), .d (.str c.inn.lk), .d (.bool c.inn.lt), .d (.str c.inn.hk), .d (.bool c.inn.ht), .d (encL encRow 2 c.inn.rows),
  .d (.int .i64 c.took), .d (.int .i64 c.src)]
/-- a copy whose list of writes is the function's own -/
abbrev copyP (m : Nat) (c : CopyT) : List SV := [.d (.str c.lk), .d (.bool c.lt), .d (.str c.hk), .d (.bool c.ht), .d (.int .i64 c.se), .d (.int .i64 c.sv), .d (encL encRow 2 c.rows), .osl m 3 0 c.pend.length,
  .d (.int .i64 c.out.serial), .d (.int .i64 c.out.src), .d (.int .i64 c.out.dst), .d (.int .i64 c.out.se), .d (.int .i64 c.out.sv), .d (.str c.out.lk), .d (.bool c.out.lt), .d (.str c.out.hk), .d (.bool c.out.ht), .d (encL encRow 2 c.out.rows),
  .d (.int .i64 c.inn.serial), .d (.int .i64 c.inn.src), .d (.int .i64 c.inn.dst), .d (.int .i64 c.inn.se), .d (.int .i64 c.inn.sv), .d (.str c.inn.lk), .d (.bool c.inn.lt), .d (.str c.inn.hk), .d (.bool c.inn.ht), .d (encL encRow 2 c.inn.rows),
  .d (.int .i64 c.took), .d (.int .i64 c.src)]
def I64 (n : Int) : Prop := -9223372036854775808 ≤ n ∧ n < 9223372036854775808
def inAll (r : Rng) (rows : List Row) : Bool := rows.all fun x => hasR r x.1
def withinF (r : Rng) (rows : List Row) : Bool := validT rows && inAll r rows
theorem within_len {r : Rng} {rows : List Row} : inAll r rows = decide ((sliceF rows r.1 r.2.1 r.2.2.1 r.2.2.2).length = rows.length) := by
  rw [Bool.eq_iff_iff, decide_eq_true_eq]
  unfold sliceF inAll
  rw [List.length_filter_eq_length_iff, List.all_eq_true]
  rfl
def validPart (p : PartT) : Bool := serOk p.serial && (numOk p.src && (numOk p.dst && (!(p.src == p.dst) && (stampOk p.se p.sv && (!(emptyR' p.rng) && withinF p.rng p.rows)))))
def outsideF (r : Rng) (p : PartT) : Bool := p.serial == 0 || (validPart p && emptyR' (interR r p.rng))
def pendOk (r : Rng) (w : Wr) : Bool := validW w.1 w.2.1 w.2.2 && hasR r w.1
def headC (c : CopyT) : Bool := validR' c.rng && (stampOk c.se c.sv && (withinF c.rng c.rows && (decide (c.pend.length ≤ 64) && decide (c.rows.length + c.pend.length ≤ 1024))))
def partsC (c : CopyT) : Bool := outsideF c.rng c.out && (outsideF c.rng c.inn && (c.inn.serial == 0 || c.out.serial == 0 || emptyR' (interR c.out.rng c.inn.rng)))
def tookC (c : CopyT) : Bool := (c.took == 0 && c.src == 0) || (serOk c.took && numOk c.src)
def validC (c : CopyT) : Bool := headC c && (c.pend.all (pendOk c.rng) && (partsC c && tookC c))
/-- bounds of what is in a copy, so that lengths and numbers are in the machine's limits -/
structure PartB (n : Nat) (p : PartT) : Prop where
  rows : p.rows.length ≤ n
  serial : I64 p.serial
  src : I64 p.src
  dst : I64 p.dst
  se : I64 p.se
  sv : I64 p.sv
structure CopyB (n : Nat) (c : CopyT) : Prop where
  rows : c.rows.length ≤ n
  pend : c.pend.length ≤ n
  out : PartB n c.out
  inn : PartB n c.inn
  took : I64 c.took
  src : I64 c.src
  se : I64 c.se
  sv : I64 c.sv
  lk : c.lk.length ≤ 200000000000000
  hk : c.hk.length ≤ 200000000000000
theorem PartB.mono {n m : Nat} {p : PartT} (h : n ≤ m) (hp : PartB n p) : PartB m p := ⟨Nat.le_trans hp.rows h, hp.serial, hp.src, hp.dst, hp.se, hp.sv⟩
theorem CopyB.mono {n m : Nat} {c : CopyT} (h : n ≤ m) (hc : CopyB n c) : CopyB m c := ⟨Nat.le_trans hc.rows h, Nat.le_trans hc.pend h, hc.out.mono h, hc.inn.mono h, hc.took, hc.src, hc.se, hc.sv, hc.lk, hc.hk⟩
theorem i64_zero : I64 0 := by unfold I64; omega
theorem i64_wrap (n : Int) : I64 (IntKind.i64.wrap n) := by
  obtain ⟨q, _, h1, h2⟩ := wrap_mod n
  exact ⟨h1, h2⟩
theorem noPart_b {n : Nat} : PartB n noPart := ⟨by simp [noPart], i64_zero, i64_zero, i64_zero, i64_zero, i64_zero⟩
theorem noCopy_b {n : Nat} : CopyB n noCopy := ⟨by simp [noCopy], by simp [noCopy], noPart_b, noPart_b, i64_zero, i64_zero, i64_zero, i64_zero, by simp [noCopy], by simp [noCopy]⟩
/-! Append, Commit, Settle -/
def appendC (c : CopyT) (w : Wr) : CopyT × Int :=
  if !(validC c && validW w.1 w.2.1 w.2.2) then (noCopy, 1) else if !(hasR c.rng w.1) then (noCopy, 12) else if c.pend.length = 64 ∨ c.rows.length + c.pend.length = 1024 then (noCopy, 16)
  else ({ c with pend := c.pend ++ [w] }, 0)
def commitC (c : CopyT) : CopyT × Int :=
  if !(validC c) then (noCopy, 1) else if c.pend.length = 0 then (noCopy, 7) else if c.sv = 1099511627776 then (noCopy, 16)
  else ({ c with rows := (doF c.rows (c.pend.getD 0 default)).1, pend := c.pend.drop 1, sv := c.sv + 1 }, 0)
theorem valid_head {c : CopyT} (h : validC c = true) : validR' c.rng = true ∧ stampOk c.se c.sv = true ∧ TabOk c.rows ∧ inAll c.rng c.rows = true ∧ c.pend.length ≤ 64 ∧ c.rows.length + c.pend.length ≤ 1024 := by
  simp only [validC, headC, withinF, Bool.and_eq_true, decide_eq_true_eq] at h
  obtain ⟨⟨h1, h2, ⟨h3, h4⟩, h5, h6⟩, _⟩ := h
  exact ⟨h1, h2, validT_iff.1 h3, h4, h5, h6⟩
theorem valid_pend {c : CopyT} (h : validC c = true) : ∀ w ∈ c.pend, validW w.1 w.2.1 w.2.2 = true ∧ hasR c.rng w.1 = true := by
  simp only [validC, Bool.and_eq_true, List.all_eq_true, pendOk] at h
  exact h.2.1
theorem valid_rest {c : CopyT} (h : validC c = true) : partsC c = true ∧ tookC c = true := by
  simp only [validC, Bool.and_eq_true] at h
  exact h.2.2
theorem valid_of {c : CopyT} (h1 : validR' c.rng = true) (h2 : stampOk c.se c.sv = true) (h3 : TabOk c.rows) (h4 : inAll c.rng c.rows = true) (h5 : c.pend.length ≤ 64) (h6 : c.rows.length + c.pend.length ≤ 1024)
    (h7 : ∀ w ∈ c.pend, validW w.1 w.2.1 w.2.2 = true ∧ hasR c.rng w.1 = true) (h8 : partsC c = true) (h9 : tookC c = true) : validC c = true := by
  simp only [validC, headC, withinF, Bool.and_eq_true, decide_eq_true_eq, List.all_eq_true, pendOk]
  exact ⟨⟨h1, h2, ⟨validT_iff.2 h3, h4⟩, h5, h6⟩, h7, h8, h9⟩
theorem stamp_of {e v : Int} : stampOk e v = true ↔ (0 ≤ e ∧ e ≤ 1099511627776) ∧ 0 ≤ v ∧ v ≤ 1099511627776 := by
  simp only [stampOk, Bool.and_eq_true, decide_eq_true_eq]
  constructor
  · rintro ⟨⟨⟨h1, h2⟩, h3⟩, h4⟩; exact ⟨⟨h1, h2⟩, h3, h4⟩
  · rintro ⟨⟨h1, h2⟩, h3, h4⟩; exact ⟨⟨⟨h1, h2⟩, h3⟩, h4⟩
/-- a write to a table that is not full succeeds -/
theorem do_room {rows : List Row} {w : Wr} (h : TabOk rows) (hw : validW w.1 w.2.1 w.2.2 = true) (hl : rows.length < 1024) : (doF rows w).2 = 0 ∧ (doF rows w).1.length ≤ rows.length + 1 := by
  obtain ⟨k, v, d⟩ := w
  have hw' : validW k v d = true := hw
  unfold doF
  simp only [hw', Bool.not_true, Bool.false_eq_true, if_false]
  cases d with
  | true => exact ⟨rfl, Nat.le_trans without_len (by omega)⟩
  | false =>
    have hr := validW_row hw'
    have := (with_ok h hr).2.2
    simp only [Bool.false_eq_true, if_false]
    rw [putW_ok (validT_iff.2 h) hr (by omega)]
    exact ⟨rfl, this⟩
theorem do_mem {rows : List Row} {w : Wr} {r : Row} (hr : r ∈ (doF rows w).1) : r ∈ rows ∨ r.1 = w.1 := by
  obtain ⟨k, v, d⟩ := w
  unfold doF at hr
  split at hr
  · simp at hr
  · split at hr
    · exact .inl (without_ne hr).1
    · unfold putF at hr
      split at hr
      · simp at hr
      · split at hr
        · simp at hr
        · rcases ins_mem.1 hr with rfl | hr
          · exact .inr rfl
          · exact .inl (without_ne hr).1
theorem inAll_iff {r : Rng} {rows : List Row} : inAll r rows = true ↔ ∀ x ∈ rows, hasR r x.1 = true := by
  simp only [inAll, List.all_eq_true]
theorem inAll_do {r : Rng} {rows : List Row} {w : Wr} (h : inAll r rows = true) (hw : hasR r w.1 = true) : inAll r (doF rows w).1 = true := by
  rw [inAll_iff] at *
  intro x hx
  rcases do_mem hx with hx | hx
  · exact h x hx
  · rw [hx]; exact hw
theorem getD_mem {α : Type} [Inhabited α] {l : List α} {i : Nat} (h : i < l.length) : l.getD i default ∈ l := by
  rw [show l.getD i default = l[i] by simp [List.getD, h]]
  exact List.getElem_mem h
theorem apply_one {rows : List Row} {w : Wr} (h : validT rows = true) : applyF rows [w] = if (doF rows w).2 = 0 then ((doF rows w).1, 0) else ([], (doF rows w).2) := by
  rw [applyF, if_pos h]
  simp only [goF]
theorem commit_valid {c : CopyT} (h : validC c = true) (hp : c.pend.length ≠ 0) (hs : c.sv ≠ 1099511627776) :
    (doF c.rows (c.pend.getD 0 default)).2 = 0 ∧ validC { c with rows := (doF c.rows (c.pend.getD 0 default)).1, pend := c.pend.drop 1, sv := c.sv + 1 } = true := by
  obtain ⟨h1, h2, h3, h4, h5, h6⟩ := valid_head h
  have hm := getD_mem (l := c.pend) (i := 0) (by omega)
  obtain ⟨hw1, hw2⟩ := valid_pend h _ hm
  obtain ⟨hr1, hr2⟩ := do_room h3 hw1 (by omega)
  obtain ⟨hq1, hq2⟩ := valid_rest h
  refine ⟨hr1, valid_of h1 ?_ (do_tab h3 hr1) (inAll_do h4 hw2) ?_ ?_ ?_ hq1 hq2⟩
  · have := stamp_of.1 h2
    exact stamp_of.2 ⟨this.1, by simp only; omega, by simp only; omega⟩
  · simp only [List.length_drop]; omega
  · simp only [List.length_drop]; omega
  · intro w hw
    exact valid_pend h w (List.mem_of_mem_drop hw)
def settleC : Nat → CopyT → CopyT × Int
  | 0, c => (c, 0)
  | n + 1, c => if c.pend.length = 0 then (c, 0) else if (commitC c).2 = 0 then settleC n (commitC c).1 else (noCopy, (commitC c).2)
def settleF (c : CopyT) : CopyT × Int := if !(validC c) then (noCopy, 1) else settleC c.pend.length c
/-! Detach, Attach -/
def partR (c : CopyT) (bk : List UInt8) (bt : Bool) (side : Int) : Rng := if side = 0 then (c.lk, c.lt, bk, bt) else (bk, bt, c.hk, c.ht)
def restR (c : CopyT) (bk : List UInt8) (bt : Bool) (side : Int) : Rng := if side = 0 then (bk, bt, c.hk, c.ht) else (c.lk, c.lt, bk, bt)
def sliceR (rows : List Row) (r : Rng) : List Row := sliceF rows r.1 r.2.1 r.2.2.1 r.2.2.2
def detOk (c : CopyT) (bk : List UInt8) (bt : Bool) (side ser frm to_ : Int) : Bool :=
  validC c && (validB bk bt && ((side == 0 || side == 1) && (serOk ser && (numOk frm && (numOk to_ && !(frm == to_))))))
def quietC (c : CopyT) : Bool := decide (c.pend.length = 0) && (c.out.serial == 0 && (c.inn.serial == 0 && c.took == 0))
def detBad (c : CopyT) (bk : List UInt8) (bt : Bool) (side : Int) : Bool := decide (cmpB bk bt c.lk c.lt < 0) || (decide (cmpB bk bt c.hk c.ht > 0) || emptyR' (partR c bk bt side))
def detNew (c : CopyT) (bk : List UInt8) (bt : Bool) (side ser frm to_ : Int) : CopyT :=
  { c with out := ⟨ser, frm, to_, c.se, c.sv, (partR c bk bt side).1, (partR c bk bt side).2.1, (partR c bk bt side).2.2.1, (partR c bk bt side).2.2.2, sliceR c.rows (partR c bk bt side)⟩,
           lk := (restR c bk bt side).1, lt := (restR c bk bt side).2.1, hk := (restR c bk bt side).2.2.1, ht := (restR c bk bt side).2.2.2, rows := sliceR c.rows (restR c bk bt side) }
def detachC (c : CopyT) (bk : List UInt8) (bt : Bool) (side ser frm to_ : Int) : CopyT × Int :=
  if detOk c bk bt side ser frm to_ = false then (noCopy, 1) else if quietC c = false then (noCopy, 7) else if detBad c bk bt side = true then (noCopy, 2) else (detNew c bk bt side ser frm to_, 0)
def joinC (c : CopyT) (p : PartT) : CopyT × Int :=
  if validC c = false then (noCopy, 1) else if p.serial = 0 ∨ c.pend.length > 0 then (noCopy, 7)
  else if cmpB p.hk p.ht c.lk c.lt = 0 then (if c.rows.length + p.rows.length > 1024 then (noCopy, 16) else ({ c with lk := p.lk, lt := p.lt, rows := p.rows ++ c.rows }, 0))
  else if cmpB p.lk p.lt c.hk c.ht = 0 then (if c.rows.length + p.rows.length > 1024 then (noCopy, 16) else ({ c with hk := p.hk, ht := p.ht, rows := c.rows ++ p.rows }, 0))
  else (noCopy, 9)
def attachC (c : CopyT) : CopyT × Int := if (joinC c c.inn).2 = 0 then ({ (joinC c c.inn).1 with took := c.inn.serial, src := c.inn.src, inn := noPart }, 0) else (noCopy, (joinC c c.inn).2)
def reattachC (c : CopyT) : CopyT × Int := if (joinC c c.out).2 = 0 then ({ (joinC c c.out).1 with out := noPart }, 0) else (noCopy, (joinC c c.out).2)
theorem join_err {c : CopyT} {p : PartT} (h : ¬ (joinC c p).2 = 0) : (joinC c p).1 = noCopy := by
  unfold joinC at h ⊢
  repeat' split at h
  all_goals first
    | exact absurd rfl h
    | simp only [*, if_true, if_false, Bool.false_eq_true, Bool.true_eq_false, reduceCtorEq]
/-! which copies are the same -/
def sameRng (a b : Rng) : Bool := cmpB a.1 a.2.1 b.1 b.2.1 == 0 && cmpB a.2.2.1 a.2.2.2 b.2.2.1 b.2.2.2 == 0
def samePart (p q : PartT) : Bool := p.serial == q.serial && (p.serial == 0 || (p.src == q.src && (p.dst == q.dst && ((p.se == q.se && p.sv == q.sv) && (sameRng p.rng q.rng && sameF p.rows q.rows)))))
def sameC (a b : CopyT) : Bool := sameRng a.rng b.rng && ((a.se == b.se && a.sv == b.sv) && (a.took == b.took && (a.src == b.src && (sameF a.rows b.rows && (sameF a.pend b.pend && (samePart a.out b.out && samePart a.inn b.inn))))))
theorem sameRng_refl (a : Rng) : sameRng a a = true := by simp [sameRng, cmp_self]
theorem samePart_refl (p : PartT) : samePart p p = true := by simp [samePart, sameRng_refl, same_refl]
theorem sameC_refl (c : CopyT) : sameC c c = true := by simp [sameC, sameRng_refl, same_refl, samePart_refl]
/-- the part of a valid copy that is beside it -/
theorem part_valid {c : CopyT} (h : validC c = true) (p : PartT) (hp : p = c.out ∨ p = c.inn) (hs : ¬ p.serial = 0) : validPart p = true ∧ emptyR' (interR c.rng p.rng) = true := by
  have hq := (valid_rest h).1
  simp only [partsC, Bool.and_eq_true] at hq
  have : outsideF c.rng p = true := by
    rcases hp with rfl | rfl
    · exact hq.1
    · exact hq.2.1
  simp only [outsideF, Bool.or_eq_true, beq_iff_eq, Bool.and_eq_true] at this
  exact this.resolve_left hs
theorem validPart_range {p : PartT} (h : validPart p = true) : emptyR' p.rng = false ∧ p.rows.length ≤ 1024 := by
  simp only [validPart, withinF, Bool.and_eq_true, Bool.not_eq_true'] at h
  obtain ⟨_, _, _, _, _, h1, h2, _⟩ := h
  exact ⟨h1, validT_len h2⟩
/-- a part that ends where the range begins does not begin where the range ends -/
theorem not_both {c : CopyT} (h : validC c = true) {p : PartT} (hp : validPart p = true) (h1 : cmpB p.hk p.ht c.lk c.lt = 0) : ¬ cmpB p.lk p.lt c.hk c.ht = 0 := by
  intro h2
  obtain ⟨hv, _⟩ := valid_head h
  obtain ⟨he, _⟩ := validPart_range hp
  obtain ⟨g1, g2, g3⟩ := empty_false he
  simp only [validR', validR, Bool.and_eq_true, decide_eq_true_eq] at hv
  obtain ⟨⟨hv1, hv2⟩, hv3⟩ := hv
  have e1 := cmp_eq (a := (p.hk, p.ht)) (b := (c.lk, c.lt)) g2 hv1 h1
  have e2 := cmp_eq (a := (p.lk, p.lt)) (b := (c.hk, c.ht)) g1 hv2 h2
  simp only [Prod.mk.injEq] at e1 e2
  simp only [PartT.rng, CopyT.rng] at g3 hv3
  rw [e1.1, e1.2, e2.1, e2.2] at g3
  have := cmp_neg (c.hk, c.ht) (c.lk, c.lt)
  simp only [cmpBB] at this
  omega
theorem rows_empty {c : CopyT} (h : validC c = true) (he : cmpB c.lk c.lt c.hk c.ht = 0) : c.rows = [] := by
  obtain ⟨hv, _, _, ha, _⟩ := valid_head h
  cases hr : c.rows with
  | nil => rfl
  | cons r l =>
    rw [inAll_iff] at ha
    have := ha r (by rw [hr]; simp)
    simp only [hasR, containsR, emptyR, he, BEq.rfl, Bool.or_true, Bool.not_true, Bool.false_and] at this
    cases this
theorem row_app2 {α : Type} [Inhabited α] {enc : α → List D} {k n : Nat} {xs ys : List α} : RowLe n k (fun i j => if 0 + i < xs.length then cellOf enc xs (0 + i) j else cellOf enc ys (0 + i - xs.length) j) (cellOf enc (xs ++ ys)) := by
  refine .of_eq fun i j _ _ => ?_
  simp only [Nat.zero_add, cellOf]
  split
  · rename_i h; rw [getD_append_left h]
  · rename_i h; rw [getD_append_right h]
theorem row_app3 {α : Type} [Inhabited α] {enc : α → List D} {k n : Nat} {xs ys : List α} : RowLe n k (fun i j => if 0 + i < xs.length then cellOf enc xs (0 + i) j else cellOf enc ys (0 + (0 + i - xs.length)) j) (cellOf enc (xs ++ ys)) := by
  refine .of_eq fun i j _ _ => ?_
  simp only [Nat.zero_add, cellOf]
  split
  · rename_i h; rw [getD_append_left h]
  · rename_i h; rw [getD_append_right h]
theorem sub_keys {a b r : Rng} {n : Nat} (ha1 : a.1.length ≤ n) (ha : a.2.2.1.length ≤ n) (hb : b.2.2.1.length ≤ n) (h : r ∈ subR a b) : r.1.length ≤ n := by
  have hm : (interR a b).2.2.1.length ≤ n := by
    unfold interR
    split
    · simp [zeroR]
    · simp only [meetR, minB]
      split
      · exact hb
      · exact ha
  unfold subR at h
  split at h
  · simp at h
  · split at h
    · simp only [List.mem_cons, List.not_mem_nil, or_false] at h
      subst h; exact ha1
    · rcases List.mem_append.1 h with h | h
      · split at h
        · simp at h
        · simp only [List.mem_cons, List.not_mem_nil, or_false] at h
          subst h; exact ha1
      · split at h
        · simp at h
        · simp only [List.mem_cons, List.not_mem_nil, or_false] at h
          subst h; exact hm
end Go.Sx
