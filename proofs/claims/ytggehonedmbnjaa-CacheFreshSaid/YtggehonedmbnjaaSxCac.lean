/- Part of a symbolic executor over the model, proved sound, with plain laws: SxCac. Written for these claims. -/
import Derived.Test.YtggehonedmbnjaaSxTab
namespace Go.Sx
open Go
set_option linter.unusedVariables false
set_option linter.unusedSimpArgs false

/-! leases (chapter 31) -/
structure LseT where
  key : List UInt8
  val : List UInt8
  has : Bool
  hold : List Int
  fly : List Int
  wait : Bool
  nxt : Wr
instance : Inhabited LseT := ⟨⟨[], [], false, [], [], false, ([], [], false)⟩⟩
def noWr : Wr := ([], [], false)
def okN (l : List Int) (i : Nat) : Bool := numOk (l.getD i default) && (i == 0 || decide (l.getD (i - 1) default < l.getD i default))
def ascN (l : List Int) : Bool := (List.range l.length).all (okN l)
def fitsV (v : List UInt8) (has : Bool) : Bool := decide ((v.length : Int) ≤ 64) && (has || v == [])
def clearL (h f : List Int) : Bool := h.all fun n => !(f.contains n)
def keptL (x : LseT) : Bool := x.wait || decide (0 < (x.hold.length : Int) + x.fly.length)
def restL (x : LseT) : Bool := if x.wait then validW x.nxt.1 x.nxt.2.1 x.nxt.2.2 && x.nxt.1 == x.key else (x.nxt.1 == [] && (x.nxt.2.1 == [] && !x.nxt.2.2)) && decide (0 < (x.hold.length : Int) + x.fly.length)
def validL (x : LseT) : Bool := decide ((x.key.length : Int) ≤ 64) && (fitsV x.val x.has && (ascN x.hold && (ascN x.fly && (clearL x.hold x.fly && restL x))))
def okL (l : List LseT) (i : Nat) : Bool := validL (l.getD i default) && (i == 0 || Op.bytesLess (l.getD (i - 1) default).key (l.getD i default).key)
def checkL (l : List LseT) : Bool := decide (l.length ≤ 64) && (List.range l.length).all (okL l)
/-- the first lease of a key -/
def idxL (k : List UInt8) : List LseT → Nat → Option Int
  | [], _ => none
  | x :: l, i => if x.key == k then some (i : Int) else idxL k l (i + 1)
def findL (l : List LseT) (k : List UInt8) : Option Int := idxL k l 0
def lookL (l : List LseT) (node : Int) (k : List UInt8) : List UInt8 × Bool × Bool :=
  match findL l k with
  | none => ([], false, false)
  | some i => if (l.getD i.toNat default).hold.contains node then ((l.getD i.toNat default).val, (l.getD i.toNat default).has, true) else ([], false, false)
def insN (n : Int) : List Int → List Int
  | [] => [n]
  | x :: l => if n < x then n :: x :: l else x :: insN n l
def lessN (l : List Int) (n : Int) : List Int := l.filter fun x => !(x == n)
def insL (x : LseT) : List LseT → List LseT
  | [] => [x]
  | y :: l => if Op.bytesLess x.key y.key then x :: y :: l else y :: insL x l
/-- the reference's: in the place of its key, or at its place -/
def setL (x : LseT) : List LseT → List LseT
  | [] => [x]
  | y :: l => if Op.bytesLess y.key x.key then y :: setL x l else x :: (y :: l).filter fun z => !(z.key == x.key)
def sendL (l : List LseT) (node : Int) (k v : List UInt8) (has : Bool) : List LseT × Int :=
  if !(checkL l) || (!(numOk node) || (!(decide ((k.length : Int) ≤ 64)) || !(fitsV v has))) then ([], 1) else
  match findL l k with
  | none => if l.length = 64 then ([], 16) else (insL ⟨k, v, has, [], [node], false, noWr⟩ l, 0)
  | some i =>
    let x := l.getD i.toNat default
    if x.wait then ([], 13) else if !(x.val == v) || !(x.has == has) then ([], 11) else if x.hold.contains node || x.fly.contains node then ([], 5) else (l.set i.toNat { x with fly := insN node x.fly }, 0)
def arriveL (l : List LseT) (node : Int) (k : List UInt8) : List LseT × Int :=
  if !(checkL l) then ([], 1) else
  match findL l k with
  | none => ([], 18)
  | some i =>
    let x := l.getD i.toNat default
    if x.fly.contains node then (l.set i.toNat { x with fly := lessN x.fly node, hold := insN node x.hold }, 0) else ([], 18)
def beginL (l : List LseT) (w : Wr) : List LseT × Int :=
  if !(checkL l) || !(validW w.1 w.2.1 w.2.2) then ([], 1) else
  match findL l w.1 with
  | none => if l.length = 64 then ([], 16) else (insL ⟨w.1, [], false, [], [], true, w⟩ l, 0)
  | some i =>
    let x := l.getD i.toNat default
    if x.wait then ([], 13) else (l.set i.toNat { x with wait := true, nxt := w }, 0)
def stripL (node : Int) (x : LseT) : LseT := { x with hold := lessN x.hold node, fly := lessN x.fly node }
def withoutL (l : List LseT) (i : Nat) (node : Int) : List LseT := l.take i ++ ((if keptL (stripL node (l.getD i default)) then [stripL node (l.getD i default)] else []) ++ l.drop (i + 1))
def dropL (l : List LseT) (node : Int) (k : List UInt8) : List LseT × Int :=
  if !(checkL l) then ([], 1) else
  match findL l k with
  | none => ([], 18)
  | some i =>
    let x := l.getD i.toNat default
    if x.hold.contains node || x.fly.contains node then (withoutL l i.toNat node, 0) else ([], 18)
def finishL (l : List LseT) (k : List UInt8) : (List LseT × Wr) × Int :=
  if !(checkL l) then (([], noWr), 1) else
  match findL l k with
  | none => (([], noWr), 18)
  | some i =>
    let x := l.getD i.toNat default
    if !x.wait then (([], noWr), 18) else if 0 < (x.hold.length : Int) + x.fly.length then (([], noWr), 13) else ((l.take i.toNat ++ l.drop (i.toNat + 1), x.nxt), 0)
def crashL (l : List LseT) (node : Int) : List LseT := (l.map (stripL node)).filter keptL

/-! facts -/
theorem allR_true {n : Nat} {p : Nat → Bool} (h : ∀ i, i < n → p i = true) : (List.range n).all p = true := List.all_eq_true.2 fun i hi => h i (List.mem_range.1 hi)
theorem allR_false {n : Nat} {p : Nat → Bool} {i : Nat} (hi : i < n) (h : p i = false) : (List.range n).all p = false := by
  cases h1 : (List.range n).all p with
  | false => rfl
  | true =>
    have := List.all_eq_true.1 h1 i (List.mem_range.2 hi)
    rw [h] at this; cases this
theorem allR_at {n : Nat} {p : Nat → Bool} (h : (List.range n).all p = true) {i : Nat} (hi : i < n) : p i = true := List.all_eq_true.1 h i (List.mem_range.2 hi)
def AscN (l : List Int) : Prop := (∀ n ∈ l, numOk n = true) ∧ l.Pairwise (· < ·)
theorem getD_mem' {α : Type} [Inhabited α] {l : List α} {i : Nat} (h : i < l.length) : l.getD i default ∈ l := by
  simp [List.getD, h]
theorem pairwise_step {α : Type} [Inhabited α] {r : α → α → Prop} (ht : ∀ a b c, r a b → r b c → r a c) : ∀ {l : List α}, (∀ i, i + 1 < l.length → r (l.getD i default) (l.getD (i + 1) default)) → l.Pairwise r
  | [], _ => .nil
  | [x], _ => List.pairwise_singleton _ _
  | x :: y :: l, h => by
    have ih : (y :: l).Pairwise r := pairwise_step ht (fun i hi => by simpa using h (i + 1) (by simpa using hi))
    have hxy : r x y := by simpa using h 0 (by simp)
    refine List.pairwise_cons.2 ⟨fun z hz => ?_, ih⟩
    rcases List.mem_cons.1 hz with rfl | hz
    · exact hxy
    · exact ht _ _ _ hxy ((List.pairwise_cons.1 ih).1 z hz)
theorem pairwise_at {α : Type} [Inhabited α] {r : α → α → Prop} {l : List α} (h : l.Pairwise r) {i j : Nat} (hij : i < j) (hj : j < l.length) : r (l.getD i default) (l.getD j default) := by
  have := List.pairwise_iff_getElem.1 h i j (by omega) hj hij
  simpa [List.getD, hj, show i < l.length by omega] using this
theorem ascN_iff {l : List Int} : ascN l = true ↔ AscN l := by
  constructor
  · intro h
    have hk := fun i (hi : i < l.length) => allR_at h hi
    refine ⟨fun n hn => ?_, pairwise_step (r := fun a b : Int => a < b) (fun a b c => Int.lt_trans) (fun i hi => ?_)⟩
    · obtain ⟨i, hi, rfl⟩ := List.getElem_of_mem hn
      have := hk i hi
      simp only [okN, Bool.and_eq_true] at this
      simpa [List.getD, hi] using this.1
    · have := hk (i + 1) hi
      simp only [okN, Bool.and_eq_true, Nat.add_sub_cancel, Bool.or_eq_true, beq_iff_eq, decide_eq_true_eq] at this
      exact this.2.resolve_left (by omega)
  · rintro ⟨h1, h2⟩
    refine allR_true fun i hi => ?_
    simp only [okN, Bool.and_eq_true, Bool.or_eq_true, beq_iff_eq, decide_eq_true_eq]
    refine ⟨h1 _ (getD_mem' hi), ?_⟩
    by_cases h0 : i = 0
    · exact .inl h0
    · exact .inr (pairwise_at h2 (by omega) hi)
def SortL (l : List LseT) : Prop := l.Pairwise fun a b => Op.bytesLess a.key b.key = true
structure LsOk (l : List LseT) : Prop where
  len : l.length ≤ 64
  ok : ∀ x ∈ l, validL x = true
  sorted : SortL l
theorem checkL_iff {l : List LseT} : checkL l = true ↔ LsOk l := by
  constructor
  · intro h
    simp only [checkL, Bool.and_eq_true, decide_eq_true_eq] at h
    have hk := fun i (hi : i < l.length) => allR_at h.2 hi
    refine ⟨h.1, fun x hx => ?_, pairwise_step (r := fun a b : LseT => Op.bytesLess a.key b.key = true) (fun a b c => bl_trans) (fun i hi => ?_)⟩
    · obtain ⟨i, hi, rfl⟩ := List.getElem_of_mem hx
      have := hk i hi
      simp only [okL, Bool.and_eq_true] at this
      simpa [List.getD, hi] using this.1
    · have := hk (i + 1) hi
      simp only [okL, Bool.and_eq_true, Nat.add_sub_cancel, Bool.or_eq_true, beq_iff_eq] at this
      exact this.2.resolve_left (by omega)
  · rintro ⟨h0, h1, h2⟩
    simp only [checkL, Bool.and_eq_true, decide_eq_true_eq]
    refine ⟨h0, allR_true fun i hi => ?_⟩
    simp only [okL, Bool.and_eq_true, Bool.or_eq_true, beq_iff_eq]
    refine ⟨h1 _ (getD_mem' hi), ?_⟩
    by_cases h0 : i = 0
    · exact .inl h0
    · exact .inr (pairwise_at h2 (by omega) hi)

theorem idx_at {l : List LseT} {k : List UInt8} {i : Nat} (h : i < l.length) : idxL k (l.drop i) i = if (l.getD i default).key == k then some (i : Int) else idxL k (l.drop (i + 1)) (i + 1) := by
  rw [drop_cons' h, idxL]
theorem idx_end {l : List LseT} {k : List UInt8} {i : Nat} (h : l.length ≤ i) : idxL k (l.drop i) i = none := by
  rw [List.drop_eq_nil_of_le h, idxL]
theorem idx_some {k : List UInt8} : ∀ {l : List LseT} {i : Nat} {n : Int}, idxL k l i = some n → ∃ j : Nat, n = ((i + j : Nat) : Int) ∧ j < l.length ∧ (l.getD j default).key = k ∧ ∀ m, m < j → (l.getD m default).key ≠ k
  | [], _, _, h => by simp [idxL] at h
  | x :: l, i, n, h => by
    simp only [idxL] at h
    split at h
    · rename_i hx
      cases h
      exact ⟨0, rfl, by simp, by simpa using hx, fun m hm => by omega⟩
    · rename_i hx
      obtain ⟨j, h1, h2, h3, h4⟩ := idx_some h
      refine ⟨j + 1, by omega, by simpa using h2, by simpa using h3, fun m hm => ?_⟩
      cases m with
      | zero => simpa using hx
      | succ m => simpa using h4 m (by omega)
theorem idx_none {k : List UInt8} : ∀ {l : List LseT} {i : Nat}, idxL k l i = none ↔ ∀ x ∈ l, x.key ≠ k
  | [], _ => by simp [idxL]
  | x :: l, i => by
    simp only [idxL]
    split
    · rename_i hx
      simp at hx
      simp [hx]
    · rename_i hx
      simp at hx
      rw [idx_none]
      simp [hx]
theorem find_some {l : List LseT} {k : List UInt8} {n : Int} (h : findL l k = some n) : ∃ j : Nat, n = (j : Int) ∧ j < l.length ∧ (l.getD j default).key = k := by
  obtain ⟨j, h1, h2, h3, _⟩ := idx_some h
  exact ⟨j, by simpa using h1, h2, h3⟩
theorem find_none {l : List LseT} {k : List UInt8} : findL l k = none ↔ ∀ x ∈ l, x.key ≠ k := idx_none
/-- the only lease of a key in a sorted list -/
theorem sort_at {l : List LseT} (hs : SortL l) {i j : Nat} (hi : i < l.length) (hj : j < l.length) (h : (l.getD i default).key = (l.getD j default).key) : i = j := by
  rcases Nat.lt_trichotomy i j with h1 | h1 | h1
  · have := pairwise_at hs h1 hj
    rw [h, bl_irrefl] at this; cases this
  · exact h1
  · have := pairwise_at hs h1 hi
    rw [h, bl_irrefl] at this; cases this
theorem find_is {l : List LseT} (hs : SortL l) {j : Nat} (hj : j < l.length) : findL l (l.getD j default).key = some (j : Int) := by
  cases h : findL l (l.getD j default).key with
  | none => exact absurd rfl (find_none.1 h _ (getD_mem' hj))
  | some n =>
    obtain ⟨i, h1, h2, h3⟩ := find_some h
    have := sort_at hs h2 hj h3
    rw [h1, this]
theorem set_found {l : List LseT} {x : LseT} : ∀ {j : Nat}, SortL l → j < l.length → (l.getD j default).key = x.key → setL x l = l.set j x := by
  induction l with
  | nil => intro j _ hj; simp at hj
  | cons y l ih =>
    intro j hs hj hk
    have hs' := (List.pairwise_cons.1 hs)
    cases j with
    | zero =>
      simp only [List.getD_cons_zero] at hk
      simp only [setL, hk, bl_irrefl, Bool.false_eq_true, if_false, List.set_cons_zero]
      congr 1
      rw [List.filter_cons, if_neg (by simp [hk])]
      refine List.filter_eq_self.2 fun z hz => ?_
      have := hs'.1 z hz
      simp only [Bool.not_eq_true', beq_eq_false_iff_ne, ne_eq]
      rintro e
      rw [hk, e, bl_irrefl] at this; cases this
    | succ j =>
      simp only [List.getD_cons_succ] at hk
      have hj : j < l.length := by simpa using hj
      have : Op.bytesLess y.key x.key = true := by rw [← hk]; exact hs'.1 _ (getD_mem' hj)
      simp only [setL, this, if_true, List.set_cons_succ]
      rw [ih hs'.2 hj hk]
theorem set_new {l : List LseT} {x : LseT} (hn : ∀ y ∈ l, y.key ≠ x.key) : setL x l = insL x l := by
  induction l with
  | nil => rfl
  | cons y l ih =>
    have hy := hn y (by simp)
    simp only [setL, insL]
    by_cases h : Op.bytesLess y.key x.key = true
    · rw [if_pos h, if_neg (by rw [bl_asymm h]; simp), ih (fun z hz => hn z (by simp [hz]))]
    · have h : Op.bytesLess y.key x.key = false := by simpa using h
      have h2 : Op.bytesLess x.key y.key = true := by
        cases h3 : Op.bytesLess x.key y.key with
        | true => rfl
        | false => exact absurd (bl_tri h h3) hy
      rw [if_neg (by rw [h]; simp), if_pos h2]
      congr 1
      refine List.filter_eq_self.2 fun z hz => ?_
      simpa using hn z hz
/-- the place of a key: how many leases have none above it -/
def plL (l : List LseT) (k : List UInt8) : Nat := (l.takeWhile fun x => !(Op.bytesLess k x.key)).length
theorem plL_le {l : List LseT} {k : List UInt8} : plL l k ≤ l.length := (List.takeWhile_prefix _).length_le
theorem pl_iff {l : List LseT} {k : List UInt8} (hs : SortL l) : ∀ {i : Nat}, i < l.length → (i < plL l k ↔ Op.bytesLess k (l.getD i default).key = false) := by
  induction l with
  | nil => intro i hi; simp at hi
  | cons y l ih =>
    intro i hi
    have hs' := (List.pairwise_cons.1 hs)
    simp only [plL, List.takeWhile_cons]
    cases hb : Op.bytesLess k y.key with
    | false =>
      simp only [Bool.not_false, if_true, List.length_cons]
      cases i with
      | zero => simp [hb]
      | succ i =>
        simp only [List.getD_cons_succ]
        rw [← ih hs'.2 (by simpa using hi)]
        simp only [plL]
        omega
    | true =>
      simp only [Bool.not_true, Bool.false_eq_true, if_false, List.length_nil, Nat.not_lt_zero, false_iff, Bool.not_eq_false]
      cases i with
      | zero => simpa using hb
      | succ i =>
        simp only [List.getD_cons_succ]
        exact bl_trans hb (hs'.1 _ (getD_mem' (by simpa using hi)))
theorem ins_place {l : List LseT} {x : LseT} : insL x l = l.take (plL l x.key) ++ x :: l.drop (plL l x.key) := by
  induction l with
  | nil => rfl
  | cons y l ih =>
    simp only [insL, plL, List.takeWhile_cons]
    cases hb : Op.bytesLess x.key y.key with
    | true => simp
    | false =>
      simp only [Bool.false_eq_true, if_false, Bool.not_false, if_true, List.length_cons, List.take_succ_cons, List.drop_succ_cons, List.cons_append]
      rw [ih]; rfl
/-- the same for numbers -/
def plN (l : List Int) (n : Int) : Nat := (l.takeWhile fun x => decide (x < n)).length
theorem plN_le {l : List Int} {n : Int} : plN l n ≤ l.length := (List.takeWhile_prefix _).length_le
theorem plN_iff {l : List Int} {n : Int} (hs : l.Pairwise (· < ·)) : ∀ {i : Nat}, i < l.length → (i < plN l n ↔ l.getD i default < n) := by
  induction l with
  | nil => intro i hi; simp at hi
  | cons y l ih =>
    intro i hi
    have hs' := (List.pairwise_cons.1 hs)
    simp only [plN, List.takeWhile_cons]
    by_cases hb : y < n
    · simp only [hb, decide_true, if_true, List.length_cons]
      cases i with
      | zero => simp [hb]
      | succ i =>
        simp only [List.getD_cons_succ]
        rw [← ih hs'.2 (by simpa using hi)]
        simp only [plN]
        omega
    · simp only [hb, decide_false, Bool.false_eq_true, if_false, List.length_nil, Nat.not_lt_zero, false_iff, Int.not_lt]
      cases i with
      | zero => simp; omega
      | succ i =>
        simp only [List.getD_cons_succ]
        have := hs'.1 _ (getD_mem' (show i < l.length by simpa using hi))
        omega
theorem insN_place {l : List Int} {n : Int} (hn : n ∉ l) : insN n l = l.take (plN l n) ++ n :: l.drop (plN l n) := by
  induction l with
  | nil => rfl
  | cons y l ih =>
    simp only [List.mem_cons, not_or] at hn
    simp only [insN, plN, List.takeWhile_cons]
    by_cases hb : y < n
    · have : ¬ n < y := by omega
      simp only [this, if_false, hb, decide_true, if_true, List.length_cons, List.take_succ_cons, List.drop_succ_cons, List.cons_append]
      rw [ih hn.2]; rfl
    · have : n < y := by omega
      simp [this, hb]
theorem insN_len {l : List Int} {n : Int} : (insN n l).length = l.length + 1 := by
  induction l with
  | nil => rfl
  | cons y l ih =>
    simp only [insN]
    split
    · rfl
    · simp [ih]
theorem insN_mem {l : List Int} {n m : Int} : m ∈ insN n l ↔ m = n ∨ m ∈ l := by
  induction l with
  | nil => simp [insN]
  | cons y l ih =>
    simp only [insN]
    split
    · simp
    · simp only [List.mem_cons, ih]
      constructor
      · rintro (h | h | h)
        · exact .inr (.inl h)
        · exact .inl h
        · exact .inr (.inr h)
      · rintro (h | h | h)
        · exact .inr (.inl h)
        · exact .inl h
        · exact .inr (.inr h)
theorem insN_asc {l : List Int} {n : Int} (h : AscN l) (hn : n ∉ l) (ho : numOk n = true) : AscN (insN n l) := by
  refine ⟨fun m hm => ?_, ?_⟩
  · rcases insN_mem.1 hm with rfl | hm
    · exact ho
    · exact h.1 m hm
  · have h2 := h.2
    clear h ho
    induction l with
    | nil => simp [insN]
    | cons y l ih =>
      simp only [List.mem_cons, not_or] at hn
      have h3 := List.pairwise_cons.1 h2
      simp only [insN]
      split
      · refine List.pairwise_cons.2 ⟨fun z hz => ?_, h2⟩
        rcases List.mem_cons.1 hz with rfl | hz
        · assumption
        · have := h3.1 z hz; omega
      · refine List.pairwise_cons.2 ⟨fun z hz => ?_, ih hn.2 h3.2⟩
        rcases insN_mem.1 hz with rfl | hz
        · omega
        · exact h3.1 z hz
theorem lessN_asc {l : List Int} {n : Int} (h : AscN l) : AscN (lessN l n) := ⟨fun m hm => h.1 m (List.mem_filter.1 hm).1, h.2.sublist List.filter_sublist⟩
theorem lessN_mem {l : List Int} {n m : Int} : m ∈ lessN l n ↔ m ∈ l ∧ m ≠ n := by simp [lessN]
theorem lessN_len {l : List Int} {n : Int} : (lessN l n).length ≤ l.length := List.length_filter_le _ _
end Go.Sx

namespace Go.Sx
open Go
set_option linter.unusedVariables false
set_option linter.unusedSimpArgs false

/-! what the functions of chapter 31 keep -/
structure VLs (x : LseT) : Prop where
  key : (x.key.length : Int) ≤ 64
  fits : fitsV x.val x.has = true
  hold : AscN x.hold
  fly : AscN x.fly
  apart : ∀ n ∈ x.hold, n ∉ x.fly
  rest : restL x = true
theorem validL_iff {x : LseT} : validL x = true ↔ VLs x := by
  simp only [validL, Bool.and_eq_true, decide_eq_true_eq, ascN_iff, clearL, List.all_eq_true, Bool.not_eq_true', List.contains_eq_mem, decide_eq_false_iff_not]
  exact ⟨fun ⟨h1, h2, h3, h4, h5, h6⟩ => ⟨h1, h2, h3, h4, h5, h6⟩, fun ⟨h1, h2, h3, h4, h5, h6⟩ => ⟨h1, h2, h3, h4, h5, h6⟩⟩
theorem LsOk.at {l : List LseT} (h : LsOk l) {i : Nat} (hi : i < l.length) : VLs (l.getD i default) := validL_iff.1 (h.ok _ (getD_mem' hi))
theorem ins_memL {x y : LseT} {l : List LseT} : y ∈ insL x l ↔ y = x ∨ y ∈ l := by
  rw [ins_place]
  simp only [List.mem_append, List.mem_cons]
  have h : y ∈ l ↔ y ∈ l.take (plL l x.key) ∨ y ∈ l.drop (plL l x.key) := by rw [← List.mem_append, List.take_append_drop]
  rw [h]
  constructor
  · rintro (h | h | h)
    · exact .inr (.inl h)
    · exact .inl h
    · exact .inr (.inr h)
  · rintro (h | h | h)
    · exact .inr (.inl h)
    · exact .inl h
    · exact .inr (.inr h)
theorem ins_lenL {x : LseT} {l : List LseT} : (insL x l).length = l.length + 1 := by
  rw [ins_place]
  have := plL_le (l := l) (k := x.key)
  simp only [List.length_append, List.length_take, List.length_cons, List.length_drop]; omega
theorem ins_sortL {x : LseT} {l : List LseT} (hs : SortL l) (hn : ∀ y ∈ l, y.key ≠ x.key) : SortL (insL x l) := by
  induction l with
  | nil => exact List.pairwise_singleton _ _
  | cons y l ih =>
    have h := List.pairwise_cons.1 hs
    simp only [insL]
    split
    · rename_i hb
      refine List.pairwise_cons.2 ⟨fun z hz => ?_, hs⟩
      rcases List.mem_cons.1 hz with rfl | hz
      · exact hb
      · exact bl_trans hb (h.1 z hz)
    · rename_i hb
      refine List.pairwise_cons.2 ⟨fun z hz => ?_, ih h.2 (fun z hz => hn z (by simp [hz]))⟩
      rcases ins_memL.1 hz with rfl | hz
      · cases hc : Op.bytesLess y.key z.key with
        | true => rfl
        | false => exact absurd (bl_tri hc (by simpa using hb)) (hn y (by simp))
      · exact h.1 z hz
theorem LsOk.ins {l : List LseT} {x : LseT} (h : LsOk l) (hx : VLs x) (hn : ∀ y ∈ l, y.key ≠ x.key) (hl : l.length ≠ 64) : LsOk (insL x l) :=
  ⟨by rw [ins_lenL]; have := h.len; omega, fun y hy => by
    rcases ins_memL.1 hy with rfl | hy
    · exact validL_iff.2 hx
    · exact h.ok y hy, ins_sortL h.sorted hn⟩
theorem getD_setL {l : List LseT} {j i : Nat} {x : LseT} (hj : j < l.length) : (l.set j x).getD i default = if i = j then x else l.getD i default := by
  by_cases e : i = j
  · subst e; simp [List.getD, hj]
  · simp [List.getD, e, List.getElem?_set, Ne.symm e]
theorem set_memL {l : List LseT} {j : Nat} {x y : LseT} (h : y ∈ l.set j x) : y = x ∨ y ∈ l := by
  rcases List.mem_or_eq_of_mem_set h with h | h
  · exact .inr h
  · exact .inl h
theorem LsOk.set {l : List LseT} {x : LseT} {j : Nat} (h : LsOk l) (hx : VLs x) (hj : j < l.length) (hk : x.key = (l.getD j default).key) : LsOk (l.set j x) := by
  refine ⟨by simpa using h.len, fun y hy => ?_, ?_⟩
  · rcases set_memL hy with rfl | hy
    · exact validL_iff.2 hx
    · exact h.ok y hy
  · refine pairwise_step (r := fun a b : LseT => Op.bytesLess a.key b.key = true) (fun a b c => bl_trans) (fun i hi => ?_)
    have hi : i + 1 < l.length := by simpa using hi
    have h0 := pairwise_at h.sorted (Nat.lt_succ_self i) hi
    rw [getD_setL hj, getD_setL hj]
    split <;> split
    · rename_i a b; omega
    · rename_i a b; subst a; rw [hk]; exact h0
    · rename_i a b; subst b; rw [hk]; exact h0
    · exact h0
theorem LsOk.sub {l m : List LseT} (h : LsOk l) (hs : m.Sublist l) : LsOk m := ⟨Nat.le_trans hs.length_le h.len, fun x hx => h.ok x (hs.subset hx), h.sorted.sublist hs⟩
theorem drop_one {l : List LseT} {i : Nat} : (l.drop i).drop 1 = l.drop (i + 1) := by rw [List.drop_drop]
theorem cut_sub {l : List LseT} {i : Nat} : (l.take i ++ l.drop (i + 1)).Sublist l := by
  have : (l.take i ++ l.drop (i + 1)).Sublist (l.take i ++ l.drop i) := (List.Sublist.refl _).append (drop_one ▸ List.drop_sublist 1 _)
  rwa [List.take_append_drop] at this
theorem restW {x : LseT} (hw : x.wait = false) : restL x = true ↔ ((x.nxt.1 = [] ∧ x.nxt.2.1 = [] ∧ x.nxt.2.2 = false) ∧ 0 < (x.hold.length : Int) + x.fly.length) := by
  simp [restL, hw, and_assoc]
theorem restY {x : LseT} (hw : x.wait = true) : restL x = true ↔ (validW x.nxt.1 x.nxt.2.1 x.nxt.2.2 = true ∧ x.nxt.1 = x.key) := by
  simp [restL, hw]
theorem fits_nil : fitsV [] false = true := by decide
theorem asc_one {n : Int} (h : numOk n = true) : AscN [n] := ⟨by simpa using h, by simp⟩
theorem asc_nil : AscN [] := ⟨by simp, by simp⟩
theorem strip_vl {x : LseT} {n : Int} (h : VLs x) (hk : keptL (stripL n x) = true) : VLs (stripL n x) := by
  refine ⟨h.key, h.fits, lessN_asc h.hold, lessN_asc h.fly, fun m hm hf => h.apart m (lessN_mem.1 hm).1 (lessN_mem.1 hf).1, ?_⟩
  have hr := h.rest
  cases hw : x.wait with
  | true =>
    rw [restY hw] at hr
    exact (restY (x := stripL n x) hw).2 hr
  | false =>
    rw [restW hw] at hr
    refine (restW (x := stripL n x) hw).2 ⟨hr.1, ?_⟩
    simp only [keptL, stripL, hw, Bool.false_or, decide_eq_true_eq] at hk
    exact hk
theorem find_at' {l : List LseT} {k : List UInt8} {n : Int} (h : findL l k = some n) : n.toNat < l.length ∧ (l.getD n.toNat default).key = k := by
  obtain ⟨j, rfl, h2, h3⟩ := find_some h
  simpa using ⟨h2, h3⟩
theorem send_keep {l : List LseT} {node : Int} {k v : List UInt8} {has : Bool} (h : LsOk l) (he : (sendL l node k v has).2 = 0) : LsOk (sendL l node k v has).1 := by
  unfold sendL at he ⊢
  split at he
  · simp at he
  rename_i hc
  rw [if_neg hc]
  simp only [Bool.or_eq_true, Bool.not_eq_true', not_or, Bool.not_eq_false, decide_eq_true_eq] at hc
  obtain ⟨_, hn, hk, hv⟩ := hc
  cases hf : findL l k with
  | none =>
    rw [hf] at he
    simp only at he ⊢
    split at he
    · simp at he
    rename_i hl
    rw [if_neg hl]
    refine h.ins ⟨hk, hv, asc_nil, asc_one hn, by simp, ?_⟩ (find_none.1 hf) hl
    exact (restW rfl).2 ⟨⟨rfl, rfl, rfl⟩, by simp⟩
  | some n =>
    obtain ⟨h1, h2⟩ := find_at' hf
    have hx := h.at h1
    rw [hf] at he
    simp only at he ⊢
    split at he
    · simp at he
    rename_i hw
    rw [if_neg hw]
    split at he
    · simp at he
    rename_i hval
    rw [if_neg hval]
    split at he
    · simp at he
    rename_i hd
    rw [if_neg hd]
    simp only [Bool.or_eq_true, List.contains_eq_mem, decide_eq_true_eq, not_or] at hd
    refine h.set ⟨hx.key, hx.fits, hx.hold, insN_asc hx.fly hd.2 hn, fun m hm hf => ?_, ?_⟩ h1 rfl
    · rcases insN_mem.1 hf with rfl | hf
      · exact hd.1 hm
      · exact hx.apart m hm hf
    · have hr := hx.rest
      simp only [Bool.not_eq_true] at hw
      rw [restW hw] at hr
      refine (restW (by exact hw)).2 ⟨hr.1, ?_⟩
      simp only [insN_len]; omega
theorem arrive_keep {l : List LseT} {node : Int} {k : List UInt8} (h : LsOk l) (he : (arriveL l node k).2 = 0) : LsOk (arriveL l node k).1 := by
  unfold arriveL at he ⊢
  split at he
  · simp at he
  rename_i hc
  rw [if_neg hc]
  cases hf : findL l k with
  | none => rw [hf] at he; simp at he
  | some n =>
    obtain ⟨h1, h2⟩ := find_at' hf
    have hx := h.at h1
    rw [hf] at he
    simp only at he ⊢
    split at he
    · rename_i hd
      rw [if_pos hd]
      simp only [List.contains_eq_mem, decide_eq_true_eq] at hd
      have hnh : node ∉ (l.getD n.toNat default).hold := fun hm => hx.apart node hm hd
      refine h.set ⟨hx.key, hx.fits, insN_asc hx.hold hnh (hx.fly.1 _ hd), lessN_asc hx.fly, fun m hm hf => ?_, ?_⟩ h1 rfl
      · rcases insN_mem.1 hm with rfl | hm
        · exact (lessN_mem.1 hf).2 rfl
        · exact hx.apart m hm (lessN_mem.1 hf).1
      · have hr := hx.rest
        cases hw : (l.getD n.toNat default).wait with
        | true => rw [restY hw] at hr; exact (restY rfl).2 hr
        | false =>
          rw [restW hw] at hr
          refine (restW rfl).2 ⟨hr.1, ?_⟩
          simp only [insN_len]; omega
    · simp at he
theorem begin_keep {l : List LseT} {w : Wr} (h : LsOk l) (he : (beginL l w).2 = 0) : LsOk (beginL l w).1 := by
  unfold beginL at he ⊢
  split at he
  · simp at he
  rename_i hc
  rw [if_neg hc]
  simp only [Bool.or_eq_true, Bool.not_eq_true', not_or, Bool.not_eq_false] at hc
  have hw1 : (w.1.length : Int) ≤ 64 := by
    have := hc.2
    simp only [validW, Bool.and_eq_true, decide_eq_true_eq] at this
    exact this.1.1
  cases hf : findL l w.1 with
  | none =>
    rw [hf] at he
    simp only at he ⊢
    split at he
    · simp at he
    rename_i hl
    rw [if_neg hl]
    exact h.ins ⟨hw1, fits_nil, asc_nil, asc_nil, by simp, (restY rfl).2 ⟨hc.2, rfl⟩⟩ (find_none.1 hf) hl
  | some n =>
    obtain ⟨h1, h2⟩ := find_at' hf
    have hx := h.at h1
    rw [hf] at he
    simp only at he ⊢
    split at he
    · simp at he
    rename_i hwt
    rw [if_neg hwt]
    exact h.set ⟨hx.key, hx.fits, hx.hold, hx.fly, hx.apart, (restY rfl).2 ⟨hc.2, h2.symm⟩⟩ h1 rfl
theorem without_keep' {l : List LseT} {i : Nat} {node : Int} (h : LsOk l) (hi : i < l.length) : LsOk (withoutL l i node) := by
  unfold withoutL
  split
  · rename_i hk
    have hs : l.take i ++ ([stripL node (l.getD i default)] ++ l.drop (i + 1)) = l.set i (stripL node (l.getD i default)) := by
      rw [List.set_eq_take_append_cons_drop, if_pos hi]; rfl
    rw [hs]
    exact h.set (strip_vl (h.at hi) hk) hi rfl
  · exact h.sub (by simpa using cut_sub)
theorem drop_keep {l : List LseT} {node : Int} {k : List UInt8} (h : LsOk l) (he : (dropL l node k).2 = 0) : LsOk (dropL l node k).1 := by
  unfold dropL at he ⊢
  split at he
  · simp at he
  rename_i hc
  rw [if_neg hc]
  cases hf : findL l k with
  | none => rw [hf] at he; simp at he
  | some n =>
    obtain ⟨h1, h2⟩ := find_at' hf
    rw [hf] at he
    simp only at he ⊢
    split at he
    · rename_i hd
      rw [if_pos hd]
      exact without_keep' h h1
    · simp at he
theorem finish_keep {l : List LseT} {k : List UInt8} (h : LsOk l) (he : (finishL l k).2 = 0) : LsOk (finishL l k).1.1 := by
  unfold finishL at he ⊢
  split at he
  · simp at he
  rename_i hc
  rw [if_neg hc]
  cases hf : findL l k with
  | none => rw [hf] at he; simp at he
  | some n =>
    rw [hf] at he
    simp only at he ⊢
    split at he
    · simp at he
    rename_i h1
    rw [if_neg h1]
    split at he
    · simp at he
    rename_i h2
    rw [if_neg h2]
    exact h.sub cut_sub
theorem crash_keep {l : List LseT} {node : Int} (h : LsOk l) : LsOk (crashL l node) := by
  have hl : (crashL l node).length ≤ l.length := Nat.le_trans (List.length_filter_le _ _) (by simp)
  refine ⟨Nat.le_trans hl h.len, fun x hx => ?_, ?_⟩
  · simp only [crashL, List.mem_filter, List.mem_map] at hx
    obtain ⟨⟨y, hy, rfl⟩, hk⟩ := hx
    exact validL_iff.2 (strip_vl (validL_iff.1 (h.ok y hy)) hk)
  · refine List.Pairwise.sublist List.filter_sublist ?_
    exact List.pairwise_map.2 h.sorted
/-- the numbers of a sorted list are few -/
theorem asc_len {l : List Int} (h : AscN l) : l.length ≤ 2147483647 := by
  have key : ∀ {l : List Int} {a : Int}, l.Pairwise (· < ·) → (∀ n ∈ l, a ≤ n ∧ n ≤ 2147483647) → a ≤ 2147483648 → (l.length : Int) ≤ 2147483648 - a := by
    intro l
    induction l with
    | nil => intro a _ _ h; simp; omega
    | cons x l ih =>
      intro a hp hb _
      have hp := List.pairwise_cons.1 hp
      have hx := hb x (by simp)
      have := ih (a := x + 1) hp.2 (fun n hn => ⟨by have := hp.1 n hn; omega, (hb n (by simp [hn])).2⟩) (by omega)
      simp only [List.length_cons]; omega
  have := key (a := 1) h.2 (fun n hn => by have := h.1 n hn; simp only [numOk, Bool.and_eq_true, decide_eq_true_eq] at this; exact this) (by omega)
  omega
/-- bounds -/
structure LsB (l : List LseT) : Prop where
  len : l.length ≤ 1000000
  hold : ∀ x ∈ l, x.hold.length ≤ 2147483700
  fly : ∀ x ∈ l, x.fly.length ≤ 2147483700
theorem LsOk.b {l : List LseT} (h : LsOk l) : LsB l := ⟨by have := h.len; omega, fun x hx => by have := asc_len (validL_iff.1 (h.ok x hx)).hold; omega, fun x hx => by have := asc_len (validL_iff.1 (h.ok x hx)).fly; omega⟩
theorem LsB.sub {l m : List LseT} (h : LsB l) (hs : m.Sublist l) : LsB m := ⟨Nat.le_trans hs.length_le h.len, fun x hx => h.hold x (hs.subset hx), fun x hx => h.fly x (hs.subset hx)⟩
theorem LsB.at {l : List LseT} (h : LsB l) (i : Nat) : (l.getD i default).hold.length ≤ 2147483700 ∧ (l.getD i default).fly.length ≤ 2147483700 := by
  by_cases hi : i < l.length
  · exact ⟨h.hold _ (getD_mem' hi), h.fly _ (getD_mem' hi)⟩
  · have : l.getD i default = default := by simp [List.getD, List.getElem?_eq_none (by omega : l.length ≤ i)]
    rw [this]; exact ⟨Nat.zero_le _, Nat.zero_le _⟩
theorem crash_b {l : List LseT} {node : Int} (h : LsB l) : LsB (crashL l node) := by
  have hl : (crashL l node).length ≤ l.length := Nat.le_trans (List.length_filter_le _ _) (by simp)
  have hm : ∀ x ∈ crashL l node, ∃ y ∈ l, x = stripL node y := by
    intro x hx
    simp only [crashL, List.mem_filter, List.mem_map] at hx
    obtain ⟨⟨y, hy, rfl⟩, _⟩ := hx
    exact ⟨y, hy, rfl⟩
  refine ⟨Nat.le_trans hl h.len, fun x hx => ?_, fun x hx => ?_⟩
  · obtain ⟨y, hy, rfl⟩ := hm x hx
    exact Nat.le_trans lessN_len (h.hold y hy)
  · obtain ⟨y, hy, rfl⟩ := hm x hx
    exact Nat.le_trans lessN_len (h.fly y hy)
/-- a step of a run -/
inductive StepL (l : List LseT) : List LseT → Prop where
  | stay : StepL l l
  | send {node : Int} {k v : List UInt8} {has : Bool} (h : (sendL l node k v has).2 = 0) : StepL l (sendL l node k v has).1
  | arrive {node : Int} {k : List UInt8} (h : (arriveL l node k).2 = 0) : StepL l (arriveL l node k).1
  | begin {w : Wr} (h : (beginL l w).2 = 0) : StepL l (beginL l w).1
  | drop {node : Int} {k : List UInt8} (h : (dropL l node k).2 = 0) : StepL l (dropL l node k).1
  | finish {k : List UInt8} (h : (finishL l k).2 = 0) : StepL l (finishL l k).1.1
  | crash {node : Int} : StepL l (crashL l node)
theorem StepL.ok {l m : List LseT} (h : StepL l m) (hl : LsOk l) : LsOk m := by
  cases h with
  | stay => exact hl
  | send h => exact send_keep hl h
  | arrive h => exact arrive_keep hl h
  | begin h => exact begin_keep hl h
  | drop h => exact drop_keep hl h
  | finish h => exact finish_keep hl h
  | crash => exact crash_keep hl
theorem send_chk {l : List LseT} {node : Int} {k v : List UInt8} {has : Bool} (h : (sendL l node k v has).2 = 0) : checkL l = true := by
  cases hc : checkL l with
  | true => rfl
  | false => simp [sendL, hc] at h
theorem arrive_chk {l : List LseT} {node : Int} {k : List UInt8} (h : (arriveL l node k).2 = 0) : checkL l = true := by
  cases hc : checkL l with
  | true => rfl
  | false => simp [arriveL, hc] at h
theorem begin_chk {l : List LseT} {w : Wr} (h : (beginL l w).2 = 0) : checkL l = true := by
  cases hc : checkL l with
  | true => rfl
  | false => simp [beginL, hc] at h
theorem drop_chk {l : List LseT} {node : Int} {k : List UInt8} (h : (dropL l node k).2 = 0) : checkL l = true := by
  cases hc : checkL l with
  | true => rfl
  | false => simp [dropL, hc] at h
theorem finish_chk {l : List LseT} {k : List UInt8} (h : (finishL l k).2 = 0) : checkL l = true := by
  cases hc : checkL l with
  | true => rfl
  | false => simp [finishL, hc] at h
theorem StepL.b {l m : List LseT} (h : StepL l m) (hl : LsB l) : LsB m := by
  cases h with
  | stay => exact hl
  | send h => exact (send_keep (checkL_iff.1 (send_chk h)) h).b
  | arrive h => exact (arrive_keep (checkL_iff.1 (arrive_chk h)) h).b
  | begin h => exact (begin_keep (checkL_iff.1 (begin_chk h)) h).b
  | drop h => exact (drop_keep (checkL_iff.1 (drop_chk h)) h).b
  | finish h => exact (finish_keep (checkL_iff.1 (finish_chk h)) h).b
  | crash => exact crash_b hl
end Go.Sx

namespace Go.Sx
open Go
set_option linter.unusedVariables false
set_option linter.unusedSimpArgs false

/-! no cache shows an old row -/
def FreshL (x : List LseT) (rows : List Row) : Prop := ∀ y ∈ x, 0 < (y.hold.length : Int) + y.fly.length → getF rows y.key = (y.val, y.has)
structure FrI (n : Nat) (x : List LseT) (rows : List Row) : Prop where
  ls : LsOk x
  tab : TabOk rows
  len : rows.length ≤ n
  fresh : FreshL x rows
theorem fr_zero : FrI 0 [] [] := ⟨⟨by simp, by simp, .nil⟩, tabOk_nil, by simp, by intro y hy; simp at hy⟩
theorem FrI.mono {n m : Nat} {x : List LseT} {rows : List Row} (h : FrI n x rows) (hn : n ≤ m) : FrI m x rows := ⟨h.ls, h.tab, Nat.le_trans h.len hn, h.fresh⟩
theorem fr_send {n : Nat} {x : List LseT} {rows : List Row} (h : FrI n x rows) {node : Int} {k : List UInt8} (he : (sendL x node k (getF rows k).1 (getF rows k).2).2 = 0) : FrI n (sendL x node k (getF rows k).1 (getF rows k).2).1 rows := by
  refine ⟨send_keep h.ls he, h.tab, h.len, ?_⟩
  unfold sendL at he ⊢
  split at he
  · simp at he
  rename_i hc
  rw [if_neg hc]
  cases hf : findL x k with
  | none =>
    rw [hf] at he
    simp only at he ⊢
    split at he
    · simp at he
    rename_i hl
    rw [if_neg hl]
    intro y hy hp
    rcases ins_memL.1 hy with rfl | hy
    · rfl
    · exact h.fresh y hy hp
  | some j =>
    obtain ⟨h1, h2⟩ := find_at' hf
    rw [hf] at he
    simp only at he ⊢
    split at he
    · simp at he
    rename_i hw
    rw [if_neg hw]
    split at he
    · simp at he
    rename_i hval
    rw [if_neg hval]
    split at he
    · simp at he
    rename_i hd
    rw [if_neg hd]
    intro y hy hp
    rcases set_memL hy with rfl | hy
    · simp only [Bool.or_eq_true, Bool.not_eq_true', not_or, Bool.not_eq_false, beq_iff_eq] at hval
      simp only [h2]
      rw [hval.1, hval.2]
    · exact h.fresh y hy hp
theorem fr_arrive {n : Nat} {x : List LseT} {rows : List Row} (h : FrI n x rows) {node : Int} {k : List UInt8} (he : (arriveL x node k).2 = 0) : FrI n (arriveL x node k).1 rows := by
  refine ⟨arrive_keep h.ls he, h.tab, h.len, ?_⟩
  unfold arriveL at he ⊢
  split at he
  · simp at he
  rename_i hc
  rw [if_neg hc]
  cases hf : findL x k with
  | none => rw [hf] at he; simp at he
  | some j =>
    obtain ⟨h1, h2⟩ := find_at' hf
    rw [hf] at he
    simp only at he ⊢
    split at he
    · rename_i hd
      rw [if_pos hd]
      intro y hy hp
      rcases set_memL hy with rfl | hy
      · simp only [List.contains_eq_mem, decide_eq_true_eq] at hd
        exact h.fresh (x.getD j.toNat default) (getD_mem' h1) (by have := List.length_pos_of_mem hd; omega)
      · exact h.fresh y hy hp
    · simp at he
theorem fr_begin {n : Nat} {x : List LseT} {rows : List Row} (h : FrI n x rows) {w : Wr} (he : (beginL x w).2 = 0) : FrI n (beginL x w).1 rows := by
  refine ⟨begin_keep h.ls he, h.tab, h.len, ?_⟩
  unfold beginL at he ⊢
  split at he
  · simp at he
  rename_i hc
  rw [if_neg hc]
  cases hf : findL x w.1 with
  | none =>
    rw [hf] at he
    simp only at he ⊢
    split at he
    · simp at he
    rename_i hl
    rw [if_neg hl]
    intro y hy hp
    rcases ins_memL.1 hy with rfl | hy
    · simp at hp
    · exact h.fresh y hy hp
  | some j =>
    obtain ⟨h1, h2⟩ := find_at' hf
    rw [hf] at he
    simp only at he ⊢
    split at he
    · simp at he
    rename_i hw
    rw [if_neg hw]
    intro y hy hp
    rcases set_memL hy with rfl | hy
    · exact h.fresh (x.getD j.toNat default) (getD_mem' h1) hp
    · exact h.fresh y hy hp
theorem fresh_strip {x : LseT} {rows : List Row} {node : Int} (h : 0 < (x.hold.length : Int) + x.fly.length → getF rows x.key = (x.val, x.has)) (hp : 0 < ((stripL node x).hold.length : Int) + (stripL node x).fly.length) :
    getF rows (stripL node x).key = ((stripL node x).val, (stripL node x).has) := by
  have h1 := lessN_len (l := x.hold) (n := node)
  have h2 := lessN_len (l := x.fly) (n := node)
  refine h ?_
  simp only [stripL] at hp
  omega
theorem fr_drop {n : Nat} {x : List LseT} {rows : List Row} (h : FrI n x rows) {node : Int} {k : List UInt8} (he : (dropL x node k).2 = 0) : FrI n (dropL x node k).1 rows := by
  refine ⟨drop_keep h.ls he, h.tab, h.len, ?_⟩
  unfold dropL at he ⊢
  split at he
  · simp at he
  rename_i hc
  rw [if_neg hc]
  cases hf : findL x k with
  | none => rw [hf] at he; simp at he
  | some j =>
    obtain ⟨h1, h2⟩ := find_at' hf
    rw [hf] at he
    simp only at he ⊢
    split at he
    · rename_i hd
      rw [if_pos hd]
      intro y hy hp
      simp only [withoutL, List.mem_append] at hy
      rcases hy with hy | hy | hy
      · exact h.fresh y (List.mem_of_mem_take hy) hp
      · split at hy
        · simp only [List.mem_singleton] at hy
          subst hy
          exact fresh_strip (h.fresh _ (getD_mem' h1)) hp
        · simp at hy
      · exact h.fresh y (List.mem_of_mem_drop hy) hp
    · simp at he
theorem fr_crash {n : Nat} {x : List LseT} {rows : List Row} (h : FrI n x rows) {node : Int} : FrI n (crashL x node) rows := by
  refine ⟨crash_keep h.ls, h.tab, h.len, fun y hy hp => ?_⟩
  simp only [crashL, List.mem_filter, List.mem_map] at hy
  obtain ⟨⟨z, hz, rfl⟩, _⟩ := hy
  exact fresh_strip (h.fresh z hz) hp
theorem get_do {rows : List Row} {w : Wr} {q : List UInt8} (hq : q ≠ w.1) (he : (doF rows w).2 = 0) : getF (doF rows w).1 q = getF rows q := by
  unfold doF at he ⊢
  split at he
  · simp at he
  rename_i h1
  rw [if_neg h1]
  split at he
  · rename_i h2
    rw [if_pos h2]
    simp only [get_without, if_neg hq]
  · rename_i h2
    rw [if_neg h2]
    unfold putF at he ⊢
    split at he
    · simp at he
    rename_i h3
    rw [if_neg h3]
    split at he
    · simp at he
    rename_i h4
    rw [if_neg h4]
    simp only [get_with, if_neg hq]
theorem do_len {rows : List Row} {w : Wr} : (doF rows w).1.length ≤ rows.length + 1 := by
  unfold doF
  split
  · simp
  · split
    · have := without_len (rows := rows) (k := w.1); simp only; omega
    · unfold putF
      split
      · simp
      · split
        · simp
        · simp only [withF, ins_len]
          have := without_len (rows := rows) (k := w.1); omega
theorem do_good {rows : List Row} {w : Wr} (h : TabOk rows) (hl : rows.length < 1024) (hw : validW w.1 w.2.1 w.2.2 = true) : (doF rows w).2 = 0 := by
  unfold doF
  rw [if_neg (by rw [hw]; simp)]
  split
  · rfl
  · have hv := validW_row hw
    rw [putW_ok (validT_iff.2 h) hv]
    simp only [withF, ins_len]
    have := without_len (rows := rows) (k := w.1); omega
theorem fr_finish {n : Nat} {x : List LseT} {rows : List Row} (h : FrI n x rows) (hn : n ≤ 1000) {k : List UInt8} (he : (finishL x k).2 = 0) :
    (applyF rows [(finishL x k).1.2]).2 = 0 ∧ FrI (n + 1) (finishL x k).1.1 (applyF rows [(finishL x k).1.2]).1 := by
  have hk := finish_keep h.ls he
  have main : ∃ i, i < x.length ∧ (x.getD i default).key = k ∧ (x.getD i default).wait = true ∧ finishL x k = ((x.take i ++ x.drop (i + 1), (x.getD i default).nxt), 0) := by
    unfold finishL at he ⊢
    split at he
    · simp at he
    rename_i hc
    rw [if_neg hc]
    cases hf : findL x k with
    | none => rw [hf] at he; simp at he
    | some j =>
      obtain ⟨h1, h2⟩ := find_at' hf
      rw [hf] at he
      simp only at he ⊢
      split at he
      · simp at he
      rename_i h3
      rw [if_neg h3]
      split at he
      · simp at he
      rename_i h4
      rw [if_neg h4]
      exact ⟨j.toNat, h1, h2, by simpa using h3, rfl⟩
  obtain ⟨i, hi, h2, hw, e⟩ := main
  rw [e] at hk ⊢
  simp only at hk ⊢
  have hx := h.ls.at hi
  have hr := (restY hw).1 hx.rest
  have hg := do_good h.tab (by have := h.len; omega) hr.1
  have hap : applyF rows [(x.getD i default).nxt] = ((doF rows (x.getD i default).nxt).1, 0) := by
    unfold applyF
    rw [if_pos (validT_iff.2 h.tab)]
    simp only [goF]
    rw [if_pos hg]
  rw [hap]
  refine ⟨rfl, hk, do_tab h.tab hg, by have := do_len (rows := rows) (w := (x.getD i default).nxt); have := h.len; simp only; omega, ?_⟩
  intro y hy hp
  have hy' : y ∈ x := (cut_sub (i := i)).subset hy
  have hne : y.key ≠ (x.getD i default).nxt.1 := by
    rw [hr.2]
    intro hyk
    -- y lies at another place
    obtain ⟨a, ha, rfl⟩ := List.getElem_of_mem hy
    have hya : ∃ b, b < x.length ∧ b ≠ i ∧ (x.take i ++ x.drop (i + 1))[a] = x.getD b default := by
      by_cases hai : a < i
      · refine ⟨a, by omega, by omega, ?_⟩
        rw [List.getElem_append_left (by simp; omega)]
        simp [List.getD, show a < x.length by omega]
      · simp only [List.length_append, List.length_take, List.length_drop] at ha
        refine ⟨a + 1, by omega, by omega, ?_⟩
        rw [List.getElem_append_right (by simp; omega)]
        simp only [List.length_take, List.getElem_drop]
        have : i + 1 + (a - min i x.length) = a + 1 := by omega
        simp [List.getD, show a + 1 < x.length by omega, this]
    obtain ⟨b, hb, hbi, heq⟩ := hya
    rw [heq] at hyk
    exact hbi (sort_at h.ls.sorted hb hi hyk)
  rw [get_do hne hg]
  exact h.fresh y hy' hp
/-- what a node has is the row that was committed last -/
theorem fr_look {n : Nat} {x : List LseT} {rows : List Row} (h : FrI n x rows) {node : Int} {k : List UInt8} (hl : (lookL x node k).2.2 = true) : ((lookL x node k).1, (lookL x node k).2.1) = getF rows k := by
  unfold lookL at hl ⊢
  cases hf : findL x k with
  | none => rw [hf] at hl; simp at hl
  | some j =>
    obtain ⟨h1, h2⟩ := find_at' hf
    rw [hf] at hl
    simp only at hl ⊢
    split at hl
    · rename_i hd
      rw [if_pos hd]
      simp only [List.contains_eq_mem, decide_eq_true_eq] at hd
      have := h.fresh _ (getD_mem' h1) (by have := List.length_pos_of_mem hd; omega)
      rw [← h2, this]
    · simp at hl
end Go.Sx
namespace Go.Sx
open Go
theorem mid_eq' {i j : Nat} (hi : i ≤ 2000000000000) (hj : j ≤ 2000000000000) : IntKind.i64.wrap ((IntKind.u64.wrap (IntKind.i64.wrap ((i : Int) + (j : Int)))).fdiv (2 ^ min (Int.toNat 1) IntKind.u64.bits)) = (((i + j) / 2 : Nat) : Int) := mid_eq hi hj
end Go.Sx

namespace Go.Sx
open Go
set_option linter.unusedVariables false
set_option linter.unusedSimpArgs false

/-! the full list (CacheFull) -/
deriving instance DecidableEq for LseT
def fullX (i : Nat) : LseT := ⟨[UInt8.ofNat i], [], false, [], [1], false, noWr⟩
def fullN (i : Nat) : List LseT := (List.range i).map fullX
theorem full_step : ∀ i, i < 64 → sendL (fullN i) 1 [UInt8.ofNat i] [] false = (fullN (i + 1), 0) := by decide +kernel
theorem full_chk : checkL (fullN 64) = true := by decide +kernel
theorem full_x : (sendL (fullN 64) 1 [120] [] false).2 = 16 := by decide +kernel
theorem full_b : (beginL (fullN 64) ([120], [], false)).2 = 16 := by decide +kernel
theorem full_send : ∀ i, i < 64 → (sendL (fullN 64) 2 [UInt8.ofNat i] [] false).2 = 0 ∧ (sendL (fullN 64) 2 [UInt8.ofNat i] [] false).1.length = 64 := by decide +kernel
theorem full_begin : ∀ i, i < 64 → (beginL (fullN 64) ([UInt8.ofNat i], [], true)).2 = 0 ∧ (beginL (fullN 64) ([UInt8.ofNat i], [], true)).1.length = 64 := by decide +kernel
theorem full_crash : (crashL (fullN 64) 1).length = 0 := by decide +kernel
theorem full_len {i : Nat} : (fullN i).length = i := by simp [fullN]
end Go.Sx
