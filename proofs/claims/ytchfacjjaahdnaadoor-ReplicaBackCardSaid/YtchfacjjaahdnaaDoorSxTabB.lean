/- Part of a symbolic executor over the model, proved sound, with plain laws: SxTabB. Written for these claims. -/
import Derived.Test.YtchfacjjaahdnaaDoorSxFold
namespace Go.Sx
open Go
set_option linter.unusedVariables false
set_option linter.unusedSimpArgs false

theorem jlt3 {p : Nat → Prop} (h0 : p 0) (h1 : p 1) (h2 : p 2) : ∀ j, j < 3 → p j
  | 0, _ => h0
  | 1, _ => h1
  | 2, _ => h2
  | j + 3, h => absurd h (by omega)
theorem dle_lit {α : Type} [Inhabited α] {enc : α → List D} {n K k : Nat} {g : Nat → Nat → D} {L : List α} (hk : K = k) (hn : n = L.length) (h : RowLe n k g (cellOf enc L)) : DLe (.list n K g) (encL enc k L) := by
  subst hk
  subst hn
  exact DLe.rows rfl h
theorem getD_len {α : Type} {L : List (List α)} {n : Nat} (h : ∀ x ∈ L, x.length ≤ n) (i : Nat) : (L.getD i default).length ≤ n := by
  rcases Nat.lt_or_ge i L.length with hi | hi
  · have e : L.getD i default = L[i] := by simp [List.getD, hi]
    rw [e]; exact h _ (List.getElem_mem hi)
  · have e : L.getD i default = default := by simp [List.getD, hi]
    rw [e]; exact Nat.zero_le _
def encS (s : List UInt8) : List D := [.str s]
def encLL (x : List Row) : List D := [encL encRow 2 x]
/-! the place of a bound in a table -/
def placeF (rows : List Row) (k : List UInt8) (t : Bool) : Nat := (rows.takeWhile fun r => decide (cmpB r.1 false k t < 0)).length
theorem place_le {rows : List Row} {k : List UInt8} {t : Bool} : placeF rows k t ≤ rows.length := (List.takeWhile_sublist _).length_le
theorem cmp_mono {a b k : List UInt8} {t : Bool} (h : Op.bytesLess a b = true) (hb : cmpB b false k t < 0) : cmpB a false k t < 0 := by
  cases t with
  | true => simp [cmpB]
  | false =>
    have h1 : Op.bytesLess b k = true := by
      by_cases e : Op.bytesLess b k = true
      · exact e
      · exfalso
        simp only [cmpB, Bool.false_and, Bool.false_eq_true, if_false, Bool.false_or, e] at hb
        split at hb <;> omega
    have h2 := bl_trans h h1
    simp [cmpB, h2]
theorem place_iff {rows : List Row} {k : List UInt8} {t : Bool} (hs : Sorted rows) {i : Nat} (hi : i < rows.length) : i < placeF rows k t ↔ cmpB (rows.getD i default).1 false k t < 0 := by
  induction rows generalizing i with
  | nil => simp at hi
  | cons r l ih =>
    simp only [placeF, List.takeWhile_cons]
    have hs' := List.pairwise_cons.1 hs
    by_cases hr : cmpB r.1 false k t < 0
    · simp only [hr, decide_true, if_true, List.length_cons]
      cases i with
      | zero => simp [hr]
      | succ i =>
        have := ih hs'.2 (i := i) (by simpa using hi)
        simp only [placeF] at this
        simp only [List.getD_cons_succ]
        rw [← this]
        omega
    · simp only [hr, decide_false, Bool.false_eq_true, if_false, List.length_nil, Nat.not_lt_zero, false_iff]
      cases i with
      | zero => simpa using hr
      | succ i =>
        intro h
        have hi' : i < l.length := by simpa using hi
        have hm : l.getD i default ∈ l := by
          have e : l.getD i default = l[i] := by simp [List.getD, hi']
          rw [e]; exact List.getElem_mem hi'
        exact hr (cmp_mono (hs'.1 _ hm) (by simpa using h))
theorem cmp_low {a k : List UInt8} {t : Bool} : (cmpB a false k t < 0) ↔ (t = true ∨ Op.bytesLess a k = true) := by
  cases t with
  | true => simp [cmpB]
  | false =>
    simp only [cmpB, Bool.false_and, Bool.false_eq_true, if_false, Bool.false_or, false_or]
    split <;> rename_i h
    · simp [h]
    · simp only [h]
      split <;> simp
def aboveF (rows : List Row) (k : List UInt8) (t : Bool) : Row × Bool :=
  if validT rows && validB k t && decide (placeF rows k t < rows.length) then (rows.getD (placeF rows k t) default, true) else (([], []), false)
def lastF (rows : List Row) (n : Nat) : Row × Bool := if n = 0 then (([], []), false) else (rows.getD (n - 1) default, true)
def belowB (rows : List Row) (k : List UInt8) (t : Bool) : Row × Bool :=
  if validT rows && validB k t then lastF rows (placeF rows k t) else (([], []), false)
theorem above_bad {rows : List Row} {k : List UInt8} {t : Bool} (h : validT rows = false ∨ validB k t = false ∨ placeF rows k t = rows.length) : aboveF rows k t = (([], []), false) := by
  unfold aboveF
  rcases h with h | h | h <;> simp [h]
theorem above_at {rows : List Row} {k : List UInt8} {t : Bool} (h1 : validT rows = true) (h2 : validB k t = true) (h3 : placeF rows k t < rows.length) : aboveF rows k t = (rows.getD (placeF rows k t) default, true) := by
  unfold aboveF
  rw [if_pos (by simp [h1, h2, h3])]
theorem below_bad {rows : List Row} {k : List UInt8} {t : Bool} (h : validT rows = false ∨ validB k t = false) : belowB rows k t = (([], []), false) := by
  unfold belowB
  rcases h with h | h <;> simp [h]
theorem below_ok {rows : List Row} {k : List UInt8} {t : Bool} (h1 : validT rows = true) (h2 : validB k t = true) : belowB rows k t = lastF rows (placeF rows k t) := by
  unfold belowB
  rw [if_pos (by simp [h1, h2])]
theorem last_zero {rows : List Row} : lastF rows 0 = (([], []), false) := rfl
theorem last_pos {rows : List Row} {n : Nat} (h : 0 < n) : lastF rows n = (rows.getD (n - 1) default, true) := by
  unfold lastF
  rw [if_neg (by omega)]
/-- the middle of two places -/
theorem mid_eq {i j : Nat} (hi : i ≤ 2000000000000) (hj : j ≤ 2000000000000) : IntKind.i64.wrap ((IntKind.u64.wrap (IntKind.i64.wrap ((i : Int) + (j : Int)))).fdiv (2 ^ min (Int.toNat 1) IntKind.u64.bits)) = (((i + j) / 2 : Nat) : Int) := by
  have e2 : IntKind.i64.wrap ((i : Int) + (j : Int)) = (i : Int) + (j : Int) := wrap_of (by omega) (by omega)
  have e1 : IntKind.u64.wrap ((i : Int) + (j : Int)) = ((i : Int) + (j : Int)) := by
    have e0 : ∀ n : Int, IntKind.u64.wrap n = n % 18446744073709551616 := fun n => rfl
    rw [e0]; omega
  rw [e2, e1, show (2 : Int) ^ min (Int.toNat 1) IntKind.u64.bits = 2 by decide, Int.fdiv_eq_ediv_of_nonneg _ (by omega), wrap_of (by omega) (by omega)]
  omega
/-! reading a table -/
def getF (rows : List Row) (k : List UInt8) : List UInt8 × Bool :=
  match rows.find? (fun r => r.1 == k) with
  | some r => (r.2, true)
  | none => ([], false)
theorem get_here {rows : List Row} {k : List UInt8} {i : Nat} (hi : i < rows.length) (h : ∀ j, j < i → ((rows.getD j default).1 == k) = false) (he : ((rows.getD i default).1 == k) = true) : getF rows k = ((rows.getD i default).2, true) := by
  have e : rows.find? (fun r => r.1 == k) = some (rows.getD i default) := by
    have g : ∀ j (hj : j < rows.length), rows.getD j default = rows[j] := fun j hj => by simp [List.getD, hj]
    rw [g i hi] at he ⊢
    rw [List.find?_eq_some_iff_getElem]
    refine ⟨he, i, hi, rfl, fun j hj => ?_⟩
    have := h j hj
    rw [g j (by omega)] at this
    simp [this]
  simp only [getF, e]
theorem get_none {rows : List Row} {k : List UInt8} (h : ∀ j, j < rows.length → ((rows.getD j default).1 == k) = false) : getF rows k = ([], false) := by
  have e : rows.find? (fun r => r.1 == k) = none := by
    rw [List.find?_eq_none]
    intro r hr
    obtain ⟨j, hj, rfl⟩ := List.getElem_of_mem hr
    have := h j hj
    have g : rows.getD j default = rows[j] := by simp [List.getD, hj]
    rw [g] at this
    simp [this]
  simp only [getF, e]
def cutF (rows : List Row) (n : Int) : List UInt8 × Bool × Bool :=
  if !(validT rows) || decide (n < 0) || decide (n > rows.length) then ([], false, false) else if n = rows.length then ([], true, true) else ((rows.getD n.toNat default).1, false, true)
theorem cut_bad {rows : List Row} {n : Int} (h : validT rows = false ∨ n < 0 ∨ n > rows.length) : cutF rows n = ([], false, false) := by
  unfold cutF
  rcases h with h | h | h <;> simp [h]
theorem cut_full {rows : List Row} {n : Int} (h : validT rows = true) (e : n = rows.length) : cutF rows n = ([], true, true) := by
  unfold cutF
  subst e
  have h1 : ¬ (rows.length : Int) < 0 := by omega
  simp [h, h1]
theorem cut_at {rows : List Row} {n : Int} (h : validT rows = true) (h0 : ¬ n < 0) (h1 : ¬ n > rows.length) (e : ¬ n = rows.length) : cutF rows n = ((rows.getD n.toNat default).1, false, true) := by
  unfold cutF
  simp [h, h0, h1, e]
/-! writes -/
abbrev Wr := List UInt8 × List UInt8 × Bool
def encWr (w : Wr) : List D := [.str w.1, .str w.2.1, .bool w.2.2]
def validW (k v : List UInt8) (d : Bool) : Bool := decide ((k.length : Int) ≤ 64) && decide ((v.length : Int) ≤ 64) && (!d || v == [])
/-- what a loop collects -/
def collect {α β : Type} (p : α → Bool) (f : α → β) (l : List α) : List β := (l.filter p).map f
theorem collect_keep {α β : Type} [Inhabited α] {p : α → Bool} {f : α → β} {l : List α} {i : Nat} (h : i < l.length) (hp : p (l.getD i default) = true) : collect p f (l.take (i + 1)) = collect p f (l.take i) ++ [f (l.getD i default)] := by
  rw [take_succ' h, collect, List.filter_append, List.map_append, List.filter_cons, if_pos hp, List.filter_nil]; rfl
theorem collect_drop {α β : Type} [Inhabited α] {p : α → Bool} {f : α → β} {l : List α} {i : Nat} (h : i < l.length) (hp : p (l.getD i default) = false) : collect p f (l.take (i + 1)) = collect p f (l.take i) := by
  rw [take_succ' h, collect, List.filter_append, List.map_append, List.filter_cons, if_neg (by rw [hp]; simp), List.filter_nil, List.map_nil, List.append_nil]; rfl
theorem collect_len {α β : Type} {p : α → Bool} {f : α → β} {l : List α} : (collect p f l).length ≤ l.length := by
  rw [collect, List.length_map]; exact List.length_filter_le _ _
def goneP (b : List Row) (r : Row) : Bool := !(getF b r.1).2
def goneW (r : Row) : Wr := (r.1, [], true)
def newP' (a : List Row) (r : Row) : Bool := !(getF a r.1).2 || !((getF a r.1).1 == r.2)
def newW (r : Row) : Wr := (r.1, r.2, false)
def diffF (a b : List Row) : List Wr := if validT a && validT b then collect (goneP b) goneW a ++ collect (newP' a) newW b else []
theorem diff_valid {a b : List Row} (h1 : validT a = true) (h2 : validT b = true) : diffF a b = collect (goneP b) goneW a ++ collect (newP' a) newW b := by
  unfold diffF
  rw [h1, h2]
  rfl
theorem diff_bad {a b : List Row} (h : validT a = false ∨ validT b = false) : diffF a b = [] := by
  unfold diffF
  rcases h with h | h <;> simp [h]
def sameF {α : Type} [DecidableEq α] (a b : List α) : Bool := decide (a = b)
theorem same_true {α : Type} [DecidableEq α] [Inhabited α] {a b : List α} (hl : a.length = b.length) (h : ∀ i, i < a.length → a.getD i default = b.getD i default) : sameF a b = true := by
  rw [sameF, decide_eq_true_eq]
  apply List.ext_getElem hl
  intro i h1 h2
  have := h i h1
  simpa [List.getD, h1, h2] using this
theorem same_false {α : Type} [DecidableEq α] [Inhabited α] {a b : List α} {i : Nat} (h : ¬ a.getD i default = b.getD i default) : sameF a b = false := by
  rw [sameF, decide_eq_false_iff_not]
  rintro rfl
  exact h rfl
theorem same_len {α : Type} [DecidableEq α] {a b : List α} (h : ¬ a.length = b.length) : sameF a b = false := by
  rw [sameF, decide_eq_false_iff_not]
  rintro rfl
  exact h rfl
theorem same_refl {α : Type} [DecidableEq α] (a : List α) : sameF a a = true := by simp [sameF]
end Go.Sx
