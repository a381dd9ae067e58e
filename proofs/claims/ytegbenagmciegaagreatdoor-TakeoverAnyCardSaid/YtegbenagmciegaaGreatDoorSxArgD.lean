/- Part of a symbolic executor over the model, proved sound, with plain laws: SxArgD. Written for these claims. -/
import Derived.Test.YtegbenagmciegaaGreatDoorSxGrp10
namespace Go.Sx
open Go
set_option linter.unusedVariables false
set_option linter.unusedSimpArgs false

/-! arguments whose lists hold lists -/
/-- data, cell by cell, that says no more -/
structure DL (xs ys : List D) : Prop where
  len : xs.length = ys.length
  le : ∀ j, j < xs.length → DLe (xs.getD j default) (ys.getD j default)
theorem DL.nil : DL [] [] := ⟨rfl, fun j h => absurd h (Nat.not_lt_zero _)⟩
theorem DL.cons {x y : D} {xs ys : List D} (h : DLe x y) (hs : DL xs ys) : DL (x :: xs) (y :: ys) := by
  refine ⟨by simp [hs.len], fun j hj => ?_⟩
  cases j with
  | zero => exact h
  | succ j =>
    have := hs.le j (by simpa using hj)
    simpa [List.getD] using this
theorem DL.refl : ∀ (xs : List D), DL xs xs := fun xs => ⟨rfl, fun _ _ => DLe.refl _⟩
theorem DL.app {a b c d : List D} (h : DL a c) (k : DL b d) : DL (a ++ b) (c ++ d) := by
  refine ⟨by simp [h.len, k.len], fun j hj => ?_⟩
  simp only [List.getD]
  by_cases hl : j < a.length
  · rw [List.getElem?_append_left hl, List.getElem?_append_left (by rw [← h.len]; exact hl)]
    exact h.le j hl
  · rw [List.getElem?_append_right (by omega), List.getElem?_append_right (by rw [← h.len]; omega), ← h.len]
    simp only [List.length_append] at hj
    exact k.le _ (by omega)
theorem DL.one {x y : D} (h : LeL [.d x] [.d y]) : DL [x] [y] :=
  DL.cons ⟨fun I w v hv => by
    have := h.le I (fun _ => ⟨0, 0, 0, 0⟩) w [v] (by simp only [RepL]; exact ⟨v, [], rfl, by simpa only [RepS] using hv, rfl⟩)
    simp only [RepL] at this
    obtain ⟨u, r, e, h1, rfl⟩ := this
    simp only [List.cons.injEq, and_true] at e
    subst e
    simpa only [RepS] using h1⟩ DL.nil
theorem list_ofD {α : Type} [Inhabited α] {enc : α → List D} {Q : α → Prop} {k : Nat} (hk : ∀ x, (enc x).length = k) {len : Nat} {get : Nat → Nat → D} (h : ∀ i, i < len → ∃ x, Q x ∧ DL ((List.range k).map (get i)) (enc x)) :
    ∃ xs : List α, xs.length = len ∧ (∀ x ∈ xs, Q x) ∧ DLe (.list len k get) (encL enc k xs) := by
  let f : Nat → α := fun i => if hi : i < len then Classical.choose (h i hi) else default
  refine ⟨(List.range len).map f, by simp, ?_, DLe.rows (by simp) ⟨fun i j hi hj => ?_⟩⟩
  · intro x hx
    obtain ⟨i, hi, rfl⟩ := List.mem_map.1 hx
    have hi : i < len := List.mem_range.1 hi
    simp only [f, dif_pos hi]
    exact (Classical.choose_spec (h i hi)).1
  · have hi : i < len := by simpa using hi
    have e := (Classical.choose_spec (h i hi)).2
    have : ((List.range len).map f).getD i default = f i := by simp [List.getD, hi]
    simp only [cellOf, this, f, dif_pos hi]
    have h1 := e.le j (by simpa using hj)
    have h2 : ((List.range k).map (get i)).getD j default = get i j := by simp [List.getD, hj]
    rw [h2] at h1
    exact h1
/-- a group is small -/
def smM (m : MemT) : Bool := decide ((m.copy.rows.length : Int) ≤ 40) && (decide ((m.copy.pend.length : Int) ≤ 80) && (decide ((m.copy.out.rows.length : Int) ≤ 40) && decide ((m.copy.inn.rows.length : Int) ≤ 40)))
def smallG (g : GrpT) : Bool := g.mem.all smM && decide ((g.mem.length : Int) ≤ 10)
theorem sm_step {ms : List MemT} {i : Nat} (h : i < ms.length) : (ms.drop i).all smM = (smM (ms.getD i default) && (ms.drop (i + 1)).all smM) := by
  rw [drop_cons' h, List.all_cons]
theorem sm_end {ms : List MemT} {i : Nat} (h : ms.length ≤ i) : (ms.drop i).all smM = true := by
  rw [List.drop_eq_nil_of_le h]; rfl
theorem smallG_b {g : GrpT} (h : smallG g = true) (hs : ∀ m ∈ g.mem, I64 m.copy.sv) : GrpB 1000 g := by
  simp only [smallG, Bool.and_eq_true, List.all_eq_true, decide_eq_true_eq] at h
  refine ⟨by omega, fun m hm => ⟨?_, hs m hm⟩⟩
  have := h.1 m hm
  simp only [smM, Bool.and_eq_true, decide_eq_true_eq] at this
  omega
end Go.Sx

namespace Go.Sx
open Go
set_option linter.unusedVariables false
set_option linter.unusedSimpArgs false

/-! drawn groups, changed in one thing -/
def PM (ms : List MemT) : Prop := ∀ m ∈ ms, m.copy.out = noPart ∧ m.copy.inn = noPart
theorem PM.at {ms : List MemT} (h : PM ms) {i : Nat} (hi : i < ms.length) : (ms.getD i default).copy.out = noPart ∧ (ms.getD i default).copy.inn = noPart := h _ (getD_mem hi)
theorem PM.set {ms : List MemT} {p : Nat} {x : MemT} (h : PM ms) (hx : x.copy.out = noPart ∧ x.copy.inn = noPart) : PM (ms.set p x) := by
  intro m hm
  rcases List.mem_or_eq_of_mem_set hm with hm | rfl
  · exact h m hm
  · exact hx
theorem pm_own {g : GrpT} (hn : 1 ≤ g.mem.length) (h : PM g.mem) (ho : (ownerG g).2 = true) : (ownerG g).1.copy.out = noPart ∧ (ownerG g).1.copy.inn = noPart := by
  rw [(own_of ho).1]; exact h.at (by omega)
theorem pm_propose {g : GrpT} {w : Wr} (hn : 1 ≤ g.mem.length) (h : PM g.mem) (he : (proposeG g w).2 = 0) : PM (proposeG g w).1.mem := by
  obtain ⟨h1, h2, h3⟩ := propose_inv he
  obtain ⟨e, _⟩ := append_okC h2
  rw [h3, e]
  exact h.set (pm_own hn h h1)
theorem pm_commit {g : GrpT} (hn : 1 ≤ g.mem.length) (h : PM g.mem) (he : (commitG g).2 = 0) : PM (commitG g).1.1.mem := by
  obtain ⟨h1, _, h3, h4⟩ := commit_inv he
  obtain ⟨e, _⟩ := commit_okC h3
  rw [h4, e]
  exact h.set (pm_own hn h h1)
theorem pm_replicate {g : GrpT} {id : Int} (hn : 1 ≤ g.mem.length) (h : PM g.mem) (he : (replicateG g id).2 = 0) : PM (replicateG g id).1.mem := by
  obtain ⟨h1, h2, h3⟩ := replicate_inv he
  rw [replicate_ok h1 h2 h3]
  exact h.set (pm_own hn h h1)
theorem pm_crash {g : GrpT} {id : Int} (h : PM g.mem) (he : (crashG g id).2 = 0) : PM (crashG g id).1.mem := by
  obtain ⟨h1, _, h4⟩ := crash_inv he
  obtain ⟨i1, _, _⟩ := index_nat h1
  rw [h4]
  exact h.set (h.at i1)
theorem pm_take {g : GrpT} (h : PM g.mem) (he : (takeG g).2 = 0) : PM (takeG g).1.mem := by
  obtain ⟨i, _, hi, _, _, _, _, e⟩ := take_inv he
  rw [e]
  intro m hm
  simp only [takenL, List.mem_cons, List.mem_append] at hm
  rcases hm with rfl | hm | hm
  · exact h.at hi
  · exact h m (List.mem_of_mem_take hm)
  · exact h m (List.mem_of_mem_drop hm)
theorem pm_finish {g : GrpT} (hn : 1 ≤ g.mem.length) (h : PM g.mem) (he : (finishG g).2 = 0) : PM (finishG g).1.1.mem := by
  obtain ⟨h1, _, _, h4, h5⟩ := finish_inv he
  obtain ⟨_, _, _, _, _, _, h6, h7⟩ := settle_keep h4
  have := pm_own hn h h1
  rw [h5]
  exact h.set (by simp only; rw [h6, h7]; exact this)
theorem pm_change {g : GrpT} (hn : 1 ≤ g.mem.length) (h : PM g.mem) (he : (changeG g (own0 g).copy []).2 = 0) : PM (changeG g (own0 g).copy []).1.mem := by
  obtain ⟨_, _, _, _, h5⟩ := change_inv he
  rw [h5]
  exact h.set (h.at (i := 0) (by omega))
theorem pm_new {c : CopyT} {n : Nat} (h : c.out = noPart ∧ c.inn = noPart) : PM (memG c n) := by
  intro m hm
  obtain ⟨i, hi, rfl⟩ := mem_getD hm
  rw [memG_len] at hi
  rw [memG_get hi]; exact h
theorem copyB_of {c : CopyT} (hv : validC c = true) (h : c.out = noPart ∧ c.inn = noPart) : CopyB 1100 c := by
  obtain ⟨h1, h2, h3, _, h5, _⟩ := valid_head hv
  have h6 := (valid_rest hv).2
  have h7 := stamp_of.1 h2
  have h8 := h3.len
  simp only [validR', validR, CopyT.rng, Bool.and_eq_true, validB, decide_eq_true_eq] at h1
  have ht : I64 c.took ∧ I64 c.src := by
    simp only [tookC, serOk, numOk, Bool.or_eq_true, Bool.and_eq_true, beq_iff_eq, decide_eq_true_eq] at h6
    unfold I64
    omega
  exact ⟨by omega, by omega, by rw [h.1]; exact noPart_b, by rw [h.2]; exact noPart_b, ht.1, ht.2, by unfold I64; omega, by unfold I64; omega, by omega, by omega⟩
structure OddB (n : Nat) (g : GrpT) : Prop where
  len : g.mem.length ≤ 100
  all : ∀ m ∈ g.mem, CopyB n m.copy
theorem OddB.b {n : Nat} {g : GrpT} (h : OddB n g) (hn : n ≤ 1000000) : GrpB 1000 g :=
  ⟨by have := h.len; omega, fun m hm => by
    have := h.all m hm
    have h1 := this.rows
    have h2 := this.pend
    have h3 := this.out.rows
    have h4 := this.inn.rows
    exact ⟨⟨by omega, by omega, by omega, by omega⟩, this.sv⟩⟩
theorem OddB.mono {n k : Nat} {g : GrpT} (h : OddB n g) (hk : n ≤ k) : OddB k g := ⟨h.len, fun m hm => (h.all m hm).mono hk⟩
theorem OddB.at {n : Nat} {g : GrpT} (h : OddB n g) {i : Nat} (hi : i < g.mem.length) : CopyB n (g.mem.getD i default).copy := h.all _ (getD_mem hi)
theorem odd_set {n : Nat} {g : GrpT} {p : Nat} {x : MemT} {a : Int} {b : Bool} (h : OddB n g) (hx : CopyB (n + 1) x.copy) : OddB (n + 1) ⟨a, b, g.mem.set p x⟩ := by
  refine ⟨by simpa using h.len, fun m hm => ?_⟩
  rcases List.mem_or_eq_of_mem_set hm with hm | rfl
  · exact (h.all m hm).mono (by omega)
  · exact hx
theorem odd_take {n k : Nat} {g : GrpT} {a : Int} {b : Bool} (h : OddB n g) : OddB (n + 1) ⟨a, b, g.mem.take k⟩ :=
  ⟨by have := h.len; simp only [List.length_take]; omega, fun m hm => (h.all m (List.mem_of_mem_take hm)).mono (by omega)⟩
theorem odd_same {n : Nat} {g : GrpT} {a : Int} {b : Bool} (h : OddB n g) : OddB (n + 1) ⟨a, b, g.mem⟩ := ⟨h.len, fun m hm => (h.all m hm).mono (by omega)⟩
theorem ev_odd {r : Rng} {n : Nat} {g : GrpT} (h : EvM r n g.mem) (hp : PM g.mem) : OddB 1100 g := ⟨by have := h.le; omega, fun m hm => copyB_of (h.all m hm).v (hp m hm)⟩
theorem row_setI0 {ms : List MemT} {p n : Nat} {v : Int} (hp : p < ms.length) : RowLe n 32 (fun i' j' => if i' = p then if j' < 0 + 0 then cellOf encMem ms i' j' else if j' < 0 + 0 + [D.int .i64 v].length then [D.int .i64 v].getD (j' - (0 + 0)) default else cellOf encMem ms i' j' else cellOf encMem ms i' j')
    (cellOf encMem (ms.set p { ms.getD p default with id := v })) := by
  refine .of_eq fun i' j' _ hj => ?_
  by_cases hi : i' = p
  · subst hi
    simp only [cellOf, if_pos, getD_set_self hp, List.length_singleton]
    match j', hj with
    | 0, _ => rfl
    | j + 1, hj =>
      rw [if_neg (by omega), if_neg (by omega)]
      rfl
  · simp only [if_neg hi, cellOf, getD_set_ne hi]
theorem row_setI {ms : List MemT} {p n : Nat} {v : Int} (hp : p < ms.length) : RowLe n 32 (fun i j => if 0 + i = 0 + p then if j < 0 + 0 then cellOf encMem ms (0 + i) j else if j < 0 + 0 + [D.int .i64 v].length then [D.int .i64 v].getD (j - (0 + 0)) default else cellOf encMem ms (0 + i) j else cellOf encMem ms (0 + i) j)
    (cellOf encMem (ms.set p { ms.getD p default with id := v })) := by
  have := row_setI0 (n := n) (v := v) hp
  simp only [Nat.zero_add] at this ⊢
  exact this
theorem cut_leaf {ms : List MemT} {v : Int} (h : 0 ≤ v ∧ v ≤ (ms.length : Int)) : DLe (.list v.toNat 32 fun i j => cellOf encMem ms (0 + Int.toNat 0 + i) j) (encL encMem 32 (ms.take v.toNat)) :=
  DLe.rows (by simp only [List.length_take]; omega) (.of_eq fun i j hi _ => by
    have hi : i < v.toNat := by simp only [List.length_take] at hi; omega
    have e : 0 + Int.toNat 0 + i = i := by simp
    rw [e]
    unfold cellOf
    have : (ms.take v.toNat).getD i default = ms.getD i default := by simp [List.getD, List.getElem?_take, hi]
    rw [this])
theorem odd_snoc {n : Nat} {ms : List MemT} (h : ∀ m ∈ ms, CopyB n m.copy) {x : Int} (h0 : 0 < ms.length) : ∀ m ∈ ms ++ [{ ms.getD 0 default with id := x }], CopyB n m.copy := by
  intro m hm
  rw [List.mem_append, List.mem_singleton] at hm
  rcases hm with hm | rfl
  · exact h m hm
  · show CopyB n (ms.getD 0 default).copy
    exact h _ (getD_mem h0)
end Go.Sx
