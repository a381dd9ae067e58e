/- Part of a symbolic executor over the model, proved sound, with plain laws: SxTool. Written for these claims. -/
import Derived.Test.YtigmgeglnbjfeaaDoorSxFrame
namespace Go.Sx
open Go
set_option linter.unusedVariables false
set_option linter.unusedSimpArgs false

variable {P : Program} {G : Nat → Option (Nat × (Nat → D))} {nt : Nat} {E : List Nat}

/-- A call of which it is known what its results are like. -/
theorem call_some {X : Type} {Q : X → Prop} {res : X → SV} {post : X → List (Nat × Blk)} {f : FuncId} {args : List SV} {pre : List (Nat × Blk)} {bor : List Nat} {K : SV → List (Nat × Blk) → Prop}
    (h : ∃ x, Q x ∧ Spec P G f args pre (res x) (post x)) (hb : ∀ x, bor = [] ∨ (flatS (res x) = true ∧ post x = [])) (k : ∀ x, Q x → K (res x) (post x)) : CallVC P G f args pre bor K := by
  obtain ⟨x, hq, hs⟩ := h
  exact .mk (res x) (post x) hs (hb x) (k x hq)

theorem draw_intro {ops : List Oper} {σ : St} {K : St → Prop} (h : ordB 0 ops = true) (k : drawOps P G E nt ops 0 ops σ [] fun feet σ => OrdVC ops feet (K σ)) : DrawVC P G E nt ops σ K := ⟨h, k⟩
theorem ord_intro {ops : List Oper} {feet : List Foot} {X : Prop} (h : orderB ops feet = true) (k : X) : OrdVC ops feet X := ⟨h, k⟩
/-- A call under a condition. -/
theorem call_if {p : Prop} {f : FuncId} {args : List SV} {pre : List (Nat × Blk)} {bor : List Nat} {K : SV → List (Nat × Blk) → Prop} {res : SV} {post : List (Nat × Blk)} (h : p → Spec P G f args pre res post)
    (hb : bor = [] ∨ (flatS res = true ∧ post = [])) (k : Need p (K res post)) : CallVC P G f args pre bor K := call_intro (h k.h) k.k hb
theorem call_some_if {p : Prop} {X : Type} {Q : X → Prop} {res : X → SV} {post : X → List (Nat × Blk)} {f : FuncId} {args : List SV} {pre : List (Nat × Blk)} {bor : List Nat} {K : SV → List (Nat × Blk) → Prop}
    (h : p → ∃ x, Q x ∧ Spec P G f args pre (res x) (post x)) (hb : ∀ x, bor = [] ∨ (flatS (res x) = true ∧ post x = [])) (k : Need p (∀ x, Q x → K (res x) (post x))) : CallVC P G f args pre bor K :=
  call_some (h k.h) hb k.k

/-- where two ways meet: the state waits for its ghost -/
inductive JoinVC {X : Type} (pre : X → Prop) (ent : X → Prop) : Prop where
  | mk (x : X) (h : ent x) (hp : pre x)
/-- The rule for ways that meet again: the slots and the own blocks that stay, those that change with the ghost x. -/
theorem join_auto {X : Type} {b : Bool} {x y : Code} {σ : St} {K : Ex → St → Prop} (keep keepO : List Nat) (slots : X → List (Nat × SV)) (own : X → List (Nat × Blk)) (pre : X → Prop)
    (h1 : b = true → exec P G E nt x σ fun e σ' => match e with
      | .normal => JoinVC pre fun x => invK keep keepO (slots x) (own x) σ fun σ2 => entK σ' σ2
      | .exit i => K (.exit i) σ'
      | .ret => K .ret σ')
    (h2 : b = false → exec P G E nt y σ fun e σ' => match e with
      | .normal => JoinVC pre fun x => invK keep keepO (slots x) (own x) σ fun σ2 => entK σ' σ2
      | .exit i => K (.exit i) σ'
      | .ret => K .ret σ')
    (k : ∀ x, pre x → invK keep keepO (slots x) (own x) σ fun σ1 => K .normal σ1) : bc b (exec P G E nt x σ (wkK K)) (exec P G E nt y σ (wkK K)) := by
  have hI : ∀ x, ∃ r, ∀ k, invK keep keepO (slots x) (own x) σ k ↔ k r := fun x => invK_eq
  have fin : ∀ {c : Code}, (exec P G E nt c σ fun e σ' => match e with
      | .normal => JoinVC pre fun x => invK keep keepO (slots x) (own x) σ fun σ2 => entK σ' σ2
      | .exit i => K (.exit i) σ'
      | .ret => K .ret σ') → exec P G E nt c σ (wkK K) := by
    intro c h
    refine exec_mono ?_ h
    intro e σ' h
    cases e with
    | normal =>
      obtain ⟨x, h3, h4⟩ := h
      obtain ⟨r, hr⟩ := hI x
      exact ⟨r, entC_of ((hr _).1 h3), (hr _).1 (k x h4)⟩
    | exit i => exact h
    | ret => exact h
  exact bc_intro (fun h => fin (h1 h)) (fun h => fin (h2 h))

/-! rows as lists -/
def cellOf {α : Type} [Inhabited α] (enc : α → List D) (xs : List α) (i j : Nat) : D := (enc (xs.getD i default)).getD j default
abbrev encL {α : Type} [Inhabited α] (enc : α → List D) (k : Nat) (xs : List α) : D := .list xs.length k (cellOf enc xs)
theorem getD_append_left {α : Type} {xs ys : List α} {i : Nat} {d : α} (h : i < xs.length) : (xs ++ ys).getD i d = xs.getD i d := by
  simp [List.getD, List.getElem?_append_left h]
theorem getD_append_right {α : Type} {xs ys : List α} {i : Nat} {d : α} (h : ¬ i < xs.length) : (xs ++ ys).getD i d = ys.getD (i - xs.length) d := by
  simp [List.getD, List.getElem?_append_right (Nat.le_of_not_lt h)]
theorem row_append {α : Type} [Inhabited α] {enc : α → List D} {k n : Nat} {xs ys : List α} {g1 g2 : Nat → Nat → D} (hn : n = xs.length) (h1 : RowLe n k g1 (cellOf enc xs)) (h2 : RowLe ys.length k g2 (cellOf enc ys)) :
    RowLe (n + ys.length) k (fun i j => if i < n then g1 i j else g2 (i - n) j) (cellOf enc (xs ++ ys)) := by
  subst hn
  refine ⟨fun i j hi hj => ?_⟩
  by_cases h : i < xs.length
  · simp only [h, if_true]
    have := h1.le i j h hj
    simpa only [cellOf, getD_append_left h] using this
  · simp only [h, if_false]
    have := h2.le (i - xs.length) j (by omega) hj
    simpa only [cellOf, getD_append_right h] using this
theorem row_one {α : Type} [Inhabited α] {enc : α → List D} {k : Nat} {x : α} {g : Nat → Nat → D} (h : ∀ j, j < k → DLe (g 0 j) ((enc x).getD j default)) : RowLe 1 k g (cellOf enc [x]) :=
  ⟨fun i j hi hj => by
    have : i = 0 := by omega
    subst this
    exact h j hj⟩
theorem row_snoc {α : Type} [Inhabited α] {enc : α → List D} {k n : Nat} {xs : List α} {x : α} {g1 g2 : Nat → Nat → D} (hn : n = xs.length) (h1 : RowLe n k g1 (cellOf enc xs)) (h : ∀ j, j < k → DLe (g2 0 j) ((enc x).getD j default)) :
    RowLe (n + 1) k (fun i j => if i < n then g1 i j else g2 (i - n) j) (cellOf enc (xs ++ [x])) :=
  row_append (ys := [x]) hn h1 (row_one h)
theorem row_nil {k : Nat} {g1 g2 : Nat → Nat → D} : RowLe 0 k g1 g2 := ⟨fun i j hi _ => absurd hi (by omega)⟩
theorem row_take {α : Type} [Inhabited α] {enc : α → List D} {k n : Nat} {xs : List α} (h : n ≤ xs.length) : RowLe n k (cellOf enc xs) (cellOf enc (xs.take n)) :=
  .of_eq fun i j hi _ => by simp [cellOf, List.getD, List.getElem?_take, hi]
theorem row_drop {α : Type} [Inhabited α] {enc : α → List D} {k m n : Nat} {xs : List α} : RowLe n k (fun i j => cellOf enc xs (m + i) j) (cellOf enc (xs.drop m)) :=
  .of_eq fun i j _ _ => by simp [cellOf, List.getD]
theorem DLe.rows {len len' k : Nat} {g g' : Nat → Nat → D} (h : len = len') (hr : RowLe len' k g g') : DLe (.list len k g) (.list len' k g') := DLe.list h (fun _ => rfl) hr.le
theorem jlt2 {p : Nat → Prop} (h0 : p 0) (h1 : p 1) : ∀ j, j < 2 → p j
  | 0, _ => h0
  | 1, _ => h1
theorem jlt1 {p : Nat → Prop} (h0 : p 0) : ∀ j, j < 1 → p j
  | 0, _ => h0
theorem jlt4 {p : Nat → Prop} (h0 : p 0) (h1 : p 1) (h2 : p 2) (h3 : p 3) : ∀ j, j < 4 → p j
  | 0, _ => h0
  | 1, _ => h1
  | 2, _ => h2
  | 3, _ => h3
/-- the list behind a list argument -/
theorem list_of {α : Type} [Inhabited α] {enc : α → List D} {Q : α → Prop} {k : Nat} (hk : ∀ x, (enc x).length = k) : ∀ {len : Nat} {get : Nat → Nat → D}, (∀ i, i < len → ∃ x, Q x ∧ (List.range k).map (get i) = enc x) →
    ∃ xs : List α, xs.length = len ∧ (∀ x ∈ xs, Q x) ∧ DLe (.list len k get) (encL enc k xs)
  | len, get, h => by
    let f : Nat → α := fun i => if hi : i < len then Classical.choose (h i hi) else default
    refine ⟨(List.range len).map f, by simp, ?_, DLe.rows (by simp) ?_⟩
    · intro x hx
      obtain ⟨i, hi, rfl⟩ := List.mem_map.1 hx
      have hi : i < len := List.mem_range.1 hi
      simp only [f, dif_pos hi]
      exact (Classical.choose_spec (h i hi)).1
    · refine .of_eq fun i j hi hj => ?_
      have hi : i < len := by simpa using hi
      have e := (Classical.choose_spec (h i hi)).2
      have : ((List.range len).map f).getD i default = f i := by simp [List.getD, hi]
      simp only [cellOf, this, f, dif_pos hi]
      rw [← e]
      simp [List.getD, hj]

theorem leL_app {a b c d : List SV} (h : LeL a c) (k : LeL b d) : LeL (a ++ b) (c ++ d) := ⟨fun I ρ w us hu => by
  have split : ∀ {a b : List SV} {us : List Value}, RepL I ρ w (a ++ b) us → ∃ u v, us = u ++ v ∧ RepL I ρ w a u ∧ RepL I ρ w b v := by
    intro a
    induction a with
    | nil => intro b us h; exact ⟨[], us, rfl, by simp [RepL], h⟩
    | cons x a ih =>
      intro b us h
      simp only [List.cons_append, RepL] at h
      obtain ⟨u, r, rfl, h1, h2⟩ := h
      obtain ⟨u', v', rfl, h3, h4⟩ := ih h2
      exact ⟨u :: u', v', rfl, by simp only [RepL]; exact ⟨u, u', rfl, h1, h3⟩, h4⟩
  obtain ⟨u, v, rfl, h1, h2⟩ := split hu
  exact (h.le _ _ _ _ h1).append (k.le _ _ _ _ h2)⟩
theorem row_snocA {α : Type} [Inhabited α] {enc : α → List D} {k n : Nat} {xs : List α} {x : α} {g1 g2 : Nat → Nat → D} (hn : n = xs.length) (h1 : RowLe n k g1 (cellOf enc xs)) (h : AllLt (fun j => DLe (g2 0 j) ((enc x).getD j default)) k) :
    RowLe (n + 1) k (fun i j => if i < n then g1 i j else g2 (i - n) j) (cellOf enc (xs ++ [x])) := row_snoc hn h1 h.out
theorem row_zero {n k : Nat} {g : Nat → Nat → D} : RowLe n k (fun i j => g (0 + i) j) g := .of_eq fun i j _ _ => by rw [Nat.zero_add]
theorem les_own {α : Type} [Inhabited α] {enc : α → List D} {k : Nat} {xs ys : List α} (h : xs = ys) : LeS (.d (.list xs.length k fun i j => cellOf enc xs (0 + i) j)) (.d (encL enc k ys)) := by
  subst h
  exact LeS.d (DLe.rows rfl row_zero)
theorem les_row {α : Type} [Inhabited α] {enc : α → List D} {k n : Nat} {g : Nat → Nat → D} {ys : List α} (hn : n = ys.length) (h : RowLe n k g (cellOf enc ys)) : LeS (.d (.list n k fun i j => g (0 + i) j)) (.d (encL enc k ys)) := by
  subst hn
  refine LeS.d (DLe.rows rfl ⟨fun i j hi hj => ?_⟩)
  rw [Nat.zero_add]
  exact h.le i j hi hj
theorem les_nil {α : Type} [Inhabited α] {enc : α → List D} {k : Nat} {ys : List α} (h : ys = []) : LeS (.d (.val (.slice none 0 0))) (.d (encL enc k ys)) := by
  subst h
  exact LeS.d DLe.nil
theorem take_succ' {α : Type} [Inhabited α] {xs : List α} {i : Nat} (h : i < xs.length) : xs.take (i + 1) = xs.take i ++ [xs.getD i default] := by
  rw [List.take_add_one, List.getElem?_eq_getElem h]
  simp [List.getD, h]
theorem drop_cons' {α : Type} [Inhabited α] {xs : List α} {i : Nat} (h : i < xs.length) : xs.drop i = xs.getD i default :: xs.drop (i + 1) := by
  rw [List.drop_eq_getElem_cons h]
  simp [List.getD, h]
/-! bytes in order -/
theorem bl_irrefl : ∀ x : List UInt8, Op.bytesLess x x = false
  | [] => rfl
  | a :: x => by simp [Op.bytesLess, bl_irrefl x]
theorem bl_trans : ∀ {x y z : List UInt8}, Op.bytesLess x y = true → Op.bytesLess y z = true → Op.bytesLess x z = true
  | [], [], z, h, _ => by simp [Op.bytesLess] at h
  | [], _ :: _, [], _, h => by simp [Op.bytesLess] at h
  | [], _ :: _, _ :: _, _, _ => by simp [Op.bytesLess]
  | _ :: _, [], _, h, _ => by simp [Op.bytesLess] at h
  | _ :: _, _ :: _, [], _, h => by simp [Op.bytesLess] at h
  | a :: x, b :: y, c :: z, h1, h2 => by
    simp only [Op.bytesLess, Bool.or_eq_true, Bool.and_eq_true, decide_eq_true_eq, beq_iff_eq] at h1 h2 ⊢
    rcases h1 with h1 | ⟨rfl, h1⟩
    · rcases h2 with h2 | ⟨rfl, h2⟩
      · exact .inl (UInt8.lt_trans h1 h2)
      · exact .inl h1
    · rcases h2 with h2 | ⟨rfl, h2⟩
      · exact .inl h2
      · exact .inr ⟨rfl, bl_trans h1 h2⟩
theorem bl_tri : ∀ {x y : List UInt8}, Op.bytesLess x y = false → Op.bytesLess y x = false → x = y
  | [], [], _, _ => rfl
  | [], _ :: _, h, _ => by simp [Op.bytesLess] at h
  | _ :: _, [], _, h => by simp [Op.bytesLess] at h
  | a :: x, b :: y, h1, h2 => by
    simp only [Op.bytesLess, Bool.or_eq_false_iff, Bool.and_eq_false_iff, decide_eq_false_iff_not, beq_eq_false_iff_ne] at h1 h2
    have hab : a = b := by
      have h3 := h1.1
      have h4 := h2.1
      exact UInt8.le_antisymm (UInt8.not_lt.1 h4) (UInt8.not_lt.1 h3)
    subst hab
    have h3 : Op.bytesLess x y = false := h1.2.resolve_left (fun h => h rfl)
    have h4 : Op.bytesLess y x = false := h2.2.resolve_left (fun h => h rfl)
    rw [bl_tri h3 h4]
theorem bl_asymm {x y : List UInt8} (h : Op.bytesLess x y = true) : Op.bytesLess y x = false := by
  cases h' : Op.bytesLess y x with
  | false => rfl
  | true => have := bl_trans h h'; rw [bl_irrefl] at this; cases this
theorem bl_ne {x y : List UInt8} (h : Op.bytesLess x y = true) : x ≠ y := by
  rintro rfl
  rw [bl_irrefl] at h
  cases h
theorem bl_nil {x : List UInt8} : Op.bytesLess x [] = false := by cases x <;> rfl
theorem bl_le_trans {x y z : List UInt8} (h1 : Op.bytesLess y x = false) (h2 : Op.bytesLess z y = false) : Op.bytesLess z x = false := by
  cases h : Op.bytesLess z x with
  | false => rfl
  | true =>
    exfalso
    cases h3 : Op.bytesLess x y with
    | true => rw [bl_trans h h3] at h2; cases h2
    | false => have := bl_tri h1 h3; subst this; rw [h] at h2; cases h2
theorem bl_lt_le {x y z : List UInt8} (h1 : Op.bytesLess x y = true) (h2 : Op.bytesLess z y = false) : Op.bytesLess x z = true := by
  cases h : Op.bytesLess x z with
  | true => rfl
  | false =>
    exfalso
    cases h3 : Op.bytesLess z x with
    | true => rw [bl_trans h3 h1] at h2; cases h2
    | false => have := bl_tri h h3; subst this; rw [h1] at h2; cases h2
theorem bl_le_lt {x y z : List UInt8} (h1 : Op.bytesLess y x = false) (h2 : Op.bytesLess y z = true) : Op.bytesLess x z = true := by
  cases h : Op.bytesLess x z with
  | true => rfl
  | false =>
    exfalso
    cases h3 : Op.bytesLess x y with
    | true => have := bl_trans h3 h2; rw [h] at this; cases this
    | false => have := bl_tri h1 h3; subst this; rw [h] at h2; cases h2
theorem bl_leq {x y : List UInt8} : (Op.bytesLess x y || x == y) = !(Op.bytesLess y x) := by
  cases h1 : Op.bytesLess x y with
  | true => simp [bl_asymm h1]
  | false =>
    cases h2 : Op.bytesLess y x with
    | true => simp [Ne.symm (bl_ne h2)]
    | false => simp [bl_tri h1 h2]
theorem bl_gtr {x y : List UInt8} : (!(Op.bytesLess x y || x == y)) = Op.bytesLess y x := by rw [bl_leq, Bool.not_not]

end Go.Sx
