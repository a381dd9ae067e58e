/- Part of a symbolic executor over the model, proved sound, with plain laws: SxGrp. Written for these claims. -/
import Derived.Test.YtngdpchhogfhfaaGreatDoorSxTab
import Derived.Test.YtngdpchhogfhfaaGreatDoorSxDL
set_option linter.unusedVariables false
set_option linter.unusedSimpArgs false
namespace Go.Sx
open Go
structure MemT where
  id : Int
  up : Bool
  copy : CopyT
instance : Inhabited MemT := ⟨⟨0, false, default⟩⟩
structure GrpT where
  num : Int
  opn : Bool
  mem : List MemT
def noMem : MemT := ⟨0, false, noCopy⟩
def noGrp : GrpT := ⟨0, false, []⟩
def encMem (m : MemT) : List D := .int .i64 m.id :: .bool m.up :: encCopy m.copy
abbrev memL (m : MemT) : List SV := .d (.int .i64 m.id) :: .d (.bool m.up) :: copyL m.copy
abbrev grpL (g : GrpT) : List SV := [.d (.int .i64 g.num), .d (.bool g.opn), .d (encL encMem 32 g.mem)]
def idxG (id : Int) : List MemT → Nat → Int
  | [], _ => -1
  | m :: ms, i => if m.id = id then i else idxG id ms (i + 1)
def indexG (ms : List MemT) (id : Int) (f : Nat) : Int := idxG id (ms.drop f) f
theorem index_step {ms : List MemT} {id : Int} {i : Nat} (h : i < ms.length) : indexG ms id i = if (ms.getD i default).id = id then (i : Int) else indexG ms id (i + 1) := by
  unfold indexG
  rw [List.drop_eq_getElem_cons h, idxG, show ms.getD i default = ms[i] by simp [List.getD, h]]
theorem index_end {ms : List MemT} {id : Int} {i : Nat} (h : ms.length ≤ i) : indexG ms id i = -1 := by
  unfold indexG
  rw [List.drop_eq_nil_of_le h, idxG]
theorem index_range {ms : List MemT} {id : Int} {f : Nat} : indexG ms id f = -1 ∨ ∃ i, indexG ms id f = (i : Nat) ∧ f ≤ i ∧ i < ms.length ∧ (ms.getD i default).id = id := by
  induction hn : ms.length - f generalizing f with
  | zero => exact .inl (index_end (by omega))
  | succ n ih =>
    have hf : f < ms.length := by omega
    rw [index_step hf]
    split
    · rename_i h; exact .inr ⟨f, rfl, Nat.le_refl _, hf, h⟩
    · rcases ih (f := f + 1) (by omega) with h | ⟨i, h1, h2, h3, h4⟩
      · exact .inl h
      · exact .inr ⟨i, h1, by omega, h3, h4⟩
def ownerG (g : GrpT) : MemT × Bool := if g.mem.length = 0 then (noMem, false) else if (g.mem.getD 0 default).up then (g.mem.getD 0 default, true) else (noMem, false)
def withG (g : GrpT) (c : CopyT) : GrpT := { g with mem := g.mem.set 0 { g.mem.getD 0 default with copy := c } }
def proposeG (g : GrpT) (w : Wr) : GrpT × Int :=
  if (ownerG g).2 = false then (noGrp, 14) else if g.opn = false then (noGrp, 7) else if ¬ (appendC (ownerG g).1.copy w).2 = 0 then (noGrp, (appendC (ownerG g).1.copy w).2) else (withG g (appendC (ownerG g).1.copy w).1, 0)
def replicateG (g : GrpT) (id : Int) : GrpT × Int :=
  if (ownerG g).2 = false then (noGrp, 14) else if indexG g.mem id 1 < 0 then (noGrp, 6) else if (g.mem.getD (indexG g.mem id 1).toNat default).up = false then (noGrp, 14)
  else ({ g with mem := g.mem.set (indexG g.mem id 1).toNat { g.mem.getD (indexG g.mem id 1).toNat default with copy := (ownerG g).1.copy } }, 0)
def crashG (g : GrpT) (id : Int) : GrpT × Int :=
  if indexG g.mem id 0 < 0 then (noGrp, 6) else if (g.mem.getD (indexG g.mem id 0).toNat default).up = false then (noGrp, 7)
  else ({ g with mem := g.mem.set (indexG g.mem id 0).toNat { g.mem.getD (indexG g.mem id 0).toNat default with up := false } }, 0)
def hasG (g : GrpT) (id : Int) : Bool :=
  (ownerG g).2 && (decide (0 ≤ indexG g.mem id 1) && ((g.mem.getD (indexG g.mem id 1).toNat default).up && (!(((ownerG g).1.copy.pend.length : Int) == 0) &&
    (((g.mem.getD (indexG g.mem id 1).toNat default).copy.se == (ownerG g).1.copy.se) && decide (IntKind.i64.wrap ((g.mem.getD (indexG g.mem id 1).toNat default).copy.sv + ((g.mem.getD (indexG g.mem id 1).toNat default).copy.pend.length : Int)) > (ownerG g).1.copy.sv)))))
/-- bounds of what is in a group -/
structure GrpB (n : Nat) (g : GrpT) : Prop where
  len : g.mem.length ≤ n
  small : ∀ m ∈ g.mem, (m.copy.rows.length ≤ 1000000 ∧ m.copy.pend.length ≤ 1000000 ∧ m.copy.out.rows.length ≤ 4398046511104 ∧ m.copy.inn.rows.length ≤ 4398046511104) ∧ I64 m.copy.sv
theorem mem_small {n : Nat} {g : GrpT} (h : GrpB n g) (i : Nat) : (g.mem.getD i default).copy.rows.length ≤ 1000000 ∧ (g.mem.getD i default).copy.pend.length ≤ 1000000 ∧ (g.mem.getD i default).copy.out.rows.length ≤ 4398046511104 ∧ (g.mem.getD i default).copy.inn.rows.length ≤ 4398046511104 := by
  rcases Nat.lt_or_ge i g.mem.length with hi | hi
  · exact (h.small _ (getD_mem hi)).1
  · have e : g.mem.getD i default = default := by simp [List.getD, hi]
    rw [e]; simp [default]
theorem getD_set_self {ms : List MemT} {p : Nat} {x : MemT} (h : p < ms.length) : (ms.set p x).getD p default = x := by simp [List.getD, h]
theorem getD_set_ne {ms : List MemT} {p i : Nat} {x : MemT} (h : i ≠ p) : (ms.set p x).getD i default = ms.getD i default := by
  simp [List.getD, List.getElem?_set_ne (Ne.symm h)]
/-- a copy is stored into one member of a list -/
theorem row_setC {ms : List MemT} {p n : Nat} {c : CopyT} (hp : p < ms.length) : RowLe n 32 (fun i' j' => if i' = p then if j' < 0 + 2 then cellOf encMem ms i' j' else if j' < 0 + 2 + (encCopy c).length then (encCopy c).getD (j' - (0 + 2)) default else cellOf encMem ms i' j' else cellOf encMem ms i' j')
    (cellOf encMem (ms.set p { ms.getD p default with copy := c })) := by
  refine .of_eq fun i' j' _ hj => ?_
  have hl : (encCopy c).length = 30 := rfl
  by_cases hi : i' = p
  · subst hi
    simp only [cellOf, if_pos, getD_set_self hp, hl]
    match j', hj with
    | 0, _ => rfl
    | 1, _ => rfl
    | j + 2, hj =>
      rw [if_neg (by omega), if_pos (by omega)]
      simp only [encMem, Nat.zero_add, Nat.add_sub_cancel]
      rfl
  · simp only [if_neg hi, cellOf, getD_set_ne hi]
theorem set_self {ms : List MemT} {p : Nat} : ms.set p { ms.getD p default with copy := (ms.getD p default).copy } = ms := by
  rcases Nat.lt_or_ge p ms.length with h | h
  · have e : ms.getD p default = ms[p] := by simp [List.getD, h]
    rw [e]; exact List.set_getElem_self h
  · exact List.set_eq_of_length_le h
theorem row_sameC {ms : List MemT} {p n : Nat} (hp : p < ms.length) : RowLe n 32 (fun i' j' => if i' = p then if j' < 0 + 2 then cellOf encMem ms i' j' else if j' < 0 + 2 + (encCopy (ms.getD p default).copy).length then (encCopy (ms.getD p default).copy).getD (j' - (0 + 2)) default else cellOf encMem ms i' j' else cellOf encMem ms i' j')
    (cellOf encMem ms) := by
  have := row_setC (n := n) (c := (ms.getD p default).copy) hp
  rw [set_self] at this
  exact this
theorem row_shift {n k : Nat} {F G : Nat → Nat → D} (h : RowLe n k F G) : RowLe n k (fun i j => F (0 + i) j) G := by
  have e : (fun i j => F (0 + i) j) = F := by funext i j; rw [Nat.zero_add]
  rw [e]; exact h
/-- the mark of one member of a list is stored -/
theorem row_setU {ms : List MemT} {p n : Nat} {b : Bool} (hp : p < ms.length) : RowLe n 32 (fun i' j' => if i' = p then if j' < 0 + 1 then cellOf encMem ms i' j' else if j' < 0 + 1 + [D.bool b].length then [D.bool b].getD (j' - (0 + 1)) default else cellOf encMem ms i' j' else cellOf encMem ms i' j')
    (cellOf encMem (ms.set p { ms.getD p default with up := b })) := by
  refine .of_eq fun i' j' _ hj => ?_
  by_cases hi : i' = p
  · subst hi
    simp only [cellOf, if_pos, getD_set_self hp, List.length_singleton]
    match j', hj with
    | 0, _ => rfl
    | 1, _ => rfl
    | j + 2, hj =>
      rw [if_neg (by omega), if_neg (by omega)]
      rfl
  · simp only [if_neg hi, cellOf, getD_set_ne hi]
theorem owner_mem {g : GrpT} (h : (ownerG g).2 = true) : ¬ g.mem.length = 0 ∧ (g.mem.getD 0 default).up = true ∧ (ownerG g).1 = g.mem.getD 0 default := by
  unfold ownerG at h ⊢
  split at h
  · cases h
  · rename_i h1
    split at h
    · rename_i h2; rw [if_neg h1, if_pos h2]; exact ⟨h1, h2, rfl⟩
    · cases h
theorem owner_small {n : Nat} {g : GrpT} (h : GrpB n g) : (ownerG g).1.copy.rows.length ≤ 1000000 ∧ (ownerG g).1.copy.pend.length ≤ 1000000 ∧ (ownerG g).1.copy.out.rows.length ≤ 4398046511104 ∧ (ownerG g).1.copy.inn.rows.length ≤ 4398046511104 := by
  cases ho : (ownerG g).2 with
  | true => rw [(owner_mem ho).2.2]; exact mem_small h 0
  | false =>
    unfold ownerG at ho ⊢
    split
    · simp [noMem, noCopy, noPart]
    · split
      · rename_i h1 h2; rw [if_neg h1, if_pos h2] at ho; cases ho
      · simp [noMem, noCopy, noPart]
theorem index_nat {ms : List MemT} {id : Int} {f : Nat} (h : ¬ indexG ms id f < 0) : (indexG ms id f).toNat < ms.length ∧ ((indexG ms id f).toNat : Int) = indexG ms id f ∧ f ≤ (indexG ms id f).toNat := by
  rcases index_range (ms := ms) (id := id) (f := f) with h1 | ⟨i, h1, h2, h3, _⟩
  · omega
  · rw [h1]; simp; omega
theorem row_setC' {ms : List MemT} {p n : Nat} {c : CopyT} (hp : p < ms.length) : RowLe n 32 (fun i j => if 0 + i = 0 + p then if j < 0 + 2 then cellOf encMem ms (0 + i) j else if j < 0 + 2 + (encCopy c).length then (encCopy c).getD (j - (0 + 2)) default else cellOf encMem ms (0 + i) j else cellOf encMem ms (0 + i) j)
    (cellOf encMem (ms.set p { ms.getD p default with copy := c })) := by
  have := row_setC (n := n) (c := c) hp
  simp only [Nat.zero_add] at this ⊢
  exact this
theorem row_setU' {ms : List MemT} {p n : Nat} {b : Bool} (hp : p < ms.length) : RowLe n 32 (fun i j => if 0 + i = 0 + p then if j < 0 + 1 then cellOf encMem ms (0 + i) j else if j < 0 + 1 + [D.bool b].length then [D.bool b].getD (j - (0 + 1)) default else cellOf encMem ms (0 + i) j else cellOf encMem ms (0 + i) j)
    (cellOf encMem (ms.set p { ms.getD p default with up := b })) := by
  have := row_setU (n := n) (b := b) hp
  simp only [Nat.zero_add] at this ⊢
  exact this
theorem replicate_ok {g : GrpT} {id : Int} (h1 : (ownerG g).2 = true) (h2 : ¬ indexG g.mem id 1 < 0) (h3 : (g.mem.getD (indexG g.mem id 1).toNat default).up = true) :
    replicateG g id = ({ g with mem := g.mem.set (indexG g.mem id 1).toNat { g.mem.getD (indexG g.mem id 1).toNat default with copy := (ownerG g).1.copy } }, 0) := by
  unfold replicateG
  rw [if_neg (by simp [h1]), if_neg h2, if_neg (by rw [h3]; simp)]
def anyG (g : GrpT) (ms : List MemT) : Bool := ms.any fun m => m.up && !(hasG g m.id)
theorem any_step {g : GrpT} {ms : List MemT} {i : Nat} (h : i < ms.length) : anyG g (ms.drop i) = (((ms.getD i default).up && !(hasG g (ms.getD i default).id)) || anyG g (ms.drop (i + 1))) := by
  unfold anyG
  rw [List.drop_eq_getElem_cons h, List.any_cons, show ms.getD i default = ms[i] by simp [List.getD, h]]
theorem any_end {g : GrpT} {ms : List MemT} {i : Nat} (h : ms.length ≤ i) : anyG g (ms.drop i) = false := by
  unfold anyG
  rw [List.drop_eq_nil_of_le h]; rfl
def noWr : Wr := ([], [], false)
def commitG (g : GrpT) : (GrpT × Wr) × Int :=
  if (ownerG g).2 = false then ((noGrp, noWr), 14) else if g.opn = false ∨ (ownerG g).1.copy.pend.length = 0 then ((noGrp, noWr), 7) else if anyG g (g.mem.drop 1) = true then ((noGrp, noWr), 13)
  else if ¬ (commitC (ownerG g).1.copy).2 = 0 then ((noGrp, noWr), (commitC (ownerG g).1.copy).2) else ((withG g (commitC (ownerG g).1.copy).1, (ownerG g).1.copy.pend.getD 0 default), 0)
theorem commit_down {g : GrpT} (h : (ownerG g).2 = false) : commitG g = ((noGrp, noWr), 14) := by rw [commitG, if_pos h]
theorem commit_idle {g : GrpT} (h : (ownerG g).2 = true) (h1 : g.opn = false ∨ (ownerG g).1.copy.pend.length = 0) : commitG g = ((noGrp, noWr), 7) := by rw [commitG, if_neg (by simp [h]), if_pos h1]
theorem commit_busy {g : GrpT} (h : (ownerG g).2 = true) (h1 : g.opn = true) (h2 : ¬ (ownerG g).1.copy.pend.length = 0) (h3 : anyG g (g.mem.drop 1) = true) : commitG g = ((noGrp, noWr), 13) := by
  rw [commitG, if_neg (by simp [h]), if_neg (by simp [h1]; intro e; exact h2 (by simp [e])), if_pos h3]
theorem commit_fails {g : GrpT} (h : (ownerG g).2 = true) (h1 : g.opn = true) (h2 : ¬ (ownerG g).1.copy.pend.length = 0) (h3 : anyG g (g.mem.drop 1) = false) (h4 : ¬ (commitC (ownerG g).1.copy).2 = 0) : commitG g = ((noGrp, noWr), (commitC (ownerG g).1.copy).2) := by
  rw [commitG, if_neg (by simp [h]), if_neg (by simp [h1]; intro e; exact h2 (by simp [e])), if_neg (by rw [h3]; simp), if_pos h4]
theorem commit_done {g : GrpT} (h : (ownerG g).2 = true) (h1 : g.opn = true) (h2 : ¬ (ownerG g).1.copy.pend.length = 0) (h3 : anyG g (g.mem.drop 1) = false) (h4 : (commitC (ownerG g).1.copy).2 = 0) : commitG g = ((withG g (commitC (ownerG g).1.copy).1, (ownerG g).1.copy.pend.getD 0 default), 0) := by
  rw [commitG, if_neg (by simp [h]), if_neg (by simp [h1]; intro e; exact h2 (by simp [e])), if_neg (by rw [h3]; simp), if_neg (by simp [h4])]
end Go.Sx

namespace Go.Sx
open Go
theorem goF_app {b : List Wr} : ∀ {a : List Wr} {r : List Row}, goF r (a ++ b) = if (goF r a).2 = 0 then goF (goF r a).1 b else goF r a
  | [], r => by simp [goF]
  | w :: a, r => by
    simp only [List.cons_append, goF]
    split
    · exact goF_app
    · rename_i h; simp only [h, if_false]
theorem append_okC {c : CopyT} {w : Wr} (h : (appendC c w).2 = 0) : (appendC c w).1 = { c with pend := c.pend ++ [w] } ∧ validC c = true ∧ validC { c with pend := c.pend ++ [w] } = true ∧ c.pend.length < 64 := by
  unfold appendC at h ⊢
  split at h
  · simp at h
  · rename_i h1
    split at h
    · simp at h
    · rename_i h2
      split at h
      · simp at h
      · rename_i h3
        simp only [Bool.not_eq_true', Bool.and_eq_true, Bool.not_eq_false] at h1 h2
        rw [if_neg (by simp [h1]), if_neg (by simp [h2]), if_neg h3]
        obtain ⟨g1, g2, g3, g4, g5, g6⟩ := valid_head h1.1
        obtain ⟨g7, g8⟩ := valid_rest h1.1
        refine ⟨rfl, h1.1, ?_, by omega⟩
        refine valid_of g1 g2 g3 g4 ?_ ?_ ?_ g7 g8
        · simp only [List.length_append, List.length_singleton]; omega
        · simp only [List.length_append, List.length_singleton]; omega
        · intro y hy
          rcases List.mem_append.1 hy with hy | hy
          · exact valid_pend h1.1 y hy
          · rw [List.mem_singleton.1 hy]; exact ⟨h1.2, h2⟩
theorem commit_okC {c : CopyT} (h : (commitC c).2 = 0) : (commitC c).1 = { c with rows := (doF c.rows (c.pend.getD 0 default)).1, pend := c.pend.drop 1, sv := c.sv + 1 } ∧ validC c = true ∧ c.pend.length ≠ 0 ∧ c.sv ≠ 1099511627776 ∧
    (doF c.rows (c.pend.getD 0 default)).2 = 0 ∧ validC (commitC c).1 = true := by
  have e : validC c = true ∧ c.pend.length ≠ 0 ∧ c.sv ≠ 1099511627776 := by
    unfold commitC at h
    split at h
    · simp at h
    · split at h
      · simp at h
      · split at h
        · simp at h
        · rename_i h1 h2 h3
          exact ⟨by simpa using h1, h2, h3⟩
  obtain ⟨h1, h2, h3⟩ := e
  obtain ⟨h4, h5⟩ := commit_valid h1 h2 h3
  have e : (commitC c).1 = { c with rows := (doF c.rows (c.pend.getD 0 default)).1, pend := c.pend.drop 1, sv := c.sv + 1 } := by
    unfold commitC
    rw [if_neg (by simp [h1]), if_neg h2, if_neg h3]
  exact ⟨e, h1, h2, h3, h4, by rw [e]; exact h5⟩
def SmallC (c : CopyT) : Prop := c.rows.length ≤ 1000000 ∧ c.pend.length ≤ 1000000 ∧ c.out.rows.length ≤ 4398046511104 ∧ c.inn.rows.length ≤ 4398046511104
theorem smallC_of {c x : CopyT} (hs : SmallC c) (h : validC x = true) (ho : x.out = c.out) (hi : x.inn = c.inn) : SmallC x := by
  obtain ⟨h1, h2, h3, h4⟩ := hs
  obtain ⟨_, _, _, _, h5, h6⟩ := valid_head h
  exact ⟨by omega, by omega, by rw [ho]; exact h3, by rw [hi]; exact h4⟩
/-- a follower's copy, and the owner's -/
structure Behind (c o : CopyT) : Prop where
  rng : c.rng = o.rng
  se : c.se = o.se
  out : c.out = o.out
  inn : c.inn = o.inn
  took : c.took = o.took
  src : c.src = o.src
  ex : ∃ d : Nat, d ≤ c.pend.length ∧ o.sv = c.sv + d ∧ goF c.rows (c.pend.take d) = (o.rows, 0) ∧ ∃ t, o.pend = c.pend.drop d ++ t
theorem Behind.refl (c : CopyT) : Behind c c := ⟨rfl, rfl, rfl, rfl, rfl, rfl, 0, by omega, by omega, rfl, [], by simp⟩
theorem Behind.append {c o : CopyT} (h : Behind c o) (w : Wr) : Behind c { o with pend := o.pend ++ [w] } := by
  obtain ⟨d, h1, h2, h3, t, h4⟩ := h.ex
  exact ⟨h.rng, h.se, h.out, h.inn, h.took, h.src, d, h1, h2, h3, t ++ [w], by simp [h4]⟩
theorem Behind.commit {c o : CopyT} (h : Behind c o) (hc : (commitC o).2 = 0) (hv : c.sv + (c.pend.length : Int) > o.sv) : Behind c (commitC o).1 := by
  obtain ⟨d, h1, h2, h3, t, h4⟩ := h.ex
  obtain ⟨e, _, _, _, e2, _⟩ := commit_okC hc
  rw [e]
  have hd : d < c.pend.length := by omega
  have e3 : c.pend.drop d = c.pend.getD d default :: c.pend.drop (d + 1) := by
    rw [List.drop_eq_getElem_cons hd]; simp [List.getD, hd]
  have e4 : o.pend.getD 0 default = c.pend.getD d default := by rw [h4, e3]; rfl
  refine ⟨h.rng, h.se, h.out, h.inn, h.took, h.src, d + 1, by omega, by simp only; omega, ?_, t, ?_⟩
  · have e5 : c.pend.take (d + 1) = c.pend.take d ++ [c.pend.getD d default] := by
      rw [List.take_add_one, List.getElem?_eq_getElem hd]; simp [List.getD, hd]
    rw [e5, goF_app, h3, if_pos rfl, ← e4]
    simp only [goF, e2, if_true]
  · simp only [h4, e3, List.cons_append, List.drop_succ_cons, List.drop_zero]
def Uniq (ms : List MemT) : Prop := ∀ i j, i < ms.length → j < ms.length → (ms.getD i default).id = (ms.getD j default).id → i = j
theorem uniq_set {ms : List MemT} {p : Nat} {x : MemT} (hu : Uniq ms) (hx : x.id = (ms.getD p default).id) : Uniq (ms.set p x) := by
  have e : ∀ i, i < ms.length → ((ms.set p x).getD i default).id = (ms.getD i default).id := by
    intro i hi
    by_cases h : i = p
    · subst h; rw [getD_set_self hi, hx]
    · rw [getD_set_ne h]
  intro i j hi hj h
  rw [List.length_set] at hi hj
  rw [e i hi, e j hj] at h
  exact hu i j hi hj h
theorem getD_cutM {ms : List MemT} {p i : Nat} (hp : p < ms.length) (hi : i + 1 < ms.length) : (ms.take p ++ ms.drop (p + 1)).getD i default = ms.getD (if i < p then i else i + 1) default := by
  split
  · rename_i h
    rw [getD_append_left (by simp; omega)]
    simp [List.getD, List.getElem?_take, h]
  · rename_i h
    rw [getD_append_right (by simp; omega)]
    simp only [List.length_take, List.getD, List.getElem?_drop]
    congr 2
    omega
theorem mem_getD {ms : List MemT} {m : MemT} (h : m ∈ ms) : ∃ i, i < ms.length ∧ ms.getD i default = m := by
  obtain ⟨i, hi, rfl⟩ := List.getElem_of_mem h
  exact ⟨i, hi, by simp [List.getD, hi]⟩
abbrev own0 (g : GrpT) : MemT := g.mem.getD 0 default
/-- sound and open -/
structure SndG (g : GrpT) : Prop where
  n1 : 1 ≤ g.mem.length
  n5 : g.mem.length ≤ 5
  num : numOk g.num = true
  opn : g.opn = true
  uniq : Uniq g.mem
  all : ∀ m ∈ g.mem, numOk m.id = true ∧ validC m.copy = true ∧ SmallC m.copy
  beh : ∀ i, 0 < i → i < g.mem.length → (g.mem.getD i default).up = true → Behind (g.mem.getD i default).copy (own0 g).copy
theorem SndG.at {g : GrpT} (h : SndG g) {i : Nat} (hi : i < g.mem.length) : numOk (g.mem.getD i default).id = true ∧ validC (g.mem.getD i default).copy = true ∧ SmallC (g.mem.getD i default).copy := h.all _ (getD_mem hi)
theorem valid_i64 {c : CopyT} (h : validC c = true) : 0 ≤ c.sv ∧ c.sv ≤ 1099511627776 ∧ 0 ≤ c.se ∧ c.se ≤ 1099511627776 ∧ c.pend.length ≤ 64 := by
  obtain ⟨_, h2, _, _, h5, _⟩ := valid_head h
  have := stamp_of.1 h2
  omega
theorem SndG.b {g : GrpT} (h : SndG g) : GrpB 1000 g := ⟨by have := h.n5; omega, fun m hm => ⟨(h.all m hm).2.2, by have := valid_i64 (h.all m hm).2.1; unfold I64; omega⟩⟩
theorem own_of {g : GrpT} (h : (ownerG g).2 = true) : (ownerG g).1 = own0 g ∧ (own0 g).up = true := ⟨(owner_mem h).2.2, (owner_mem h).2.1⟩
theorem propose_inv {g : GrpT} {w : Wr} (he : (proposeG g w).2 = 0) : (ownerG g).2 = true ∧ (appendC (ownerG g).1.copy w).2 = 0 ∧ (proposeG g w).1 = withG g (appendC (ownerG g).1.copy w).1 := by
  unfold proposeG at he ⊢
  split at he
  · simp at he
  · rename_i h1
    split at he
    · simp at he
    · rename_i h2
      split at he
      · rename_i h3; exact absurd he h3
      · rename_i h3
        rw [if_neg h1, if_neg h2, if_neg h3]
        exact ⟨by simpa using h1, by simpa using h3, rfl⟩
/-- what a step keeps of the owner -/
structure KeepO (a b : MemT) : Prop where
  id : b.id = a.id
  up : b.up = a.up
  se : b.copy.se = a.copy.se
  sv : b.copy.sv = a.copy.sv
  rows : b.copy.rows = a.copy.rows
  rng : b.copy.rng = a.copy.rng
theorem KeepO.refl (a : MemT) : KeepO a a := ⟨rfl, rfl, rfl, rfl, rfl, rfl⟩
theorem replicate_inv {g : GrpT} {id : Int} (he : (replicateG g id).2 = 0) : (ownerG g).2 = true ∧ ¬ indexG g.mem id 1 < 0 ∧ (g.mem.getD (indexG g.mem id 1).toNat default).up = true := by
  unfold replicateG at he
  split at he
  · simp at he
  · rename_i h1
    split at he
    · simp at he
    · rename_i h2
      split at he
      · simp at he
      · rename_i h3
        exact ⟨by simpa using h1, h2, by simpa using h3⟩
theorem crash_inv {g : GrpT} {id : Int} (he : (crashG g id).2 = 0) : ¬ indexG g.mem id 0 < 0 ∧ (g.mem.getD (indexG g.mem id 0).toNat default).up = true ∧ (crashG g id).1 = { g with mem := g.mem.set (indexG g.mem id 0).toNat { g.mem.getD (indexG g.mem id 0).toNat default with up := false } } := by
  unfold crashG at he ⊢
  split at he
  · simp at he
  · rename_i h2
    split at he
    · simp at he
    · rename_i h3
      rw [if_neg h2, if_neg h3]
      exact ⟨h2, by simpa using h3, rfl⟩
theorem commit_inv {g : GrpT} (he : (commitG g).2 = 0) : (ownerG g).2 = true ∧ anyG g (g.mem.drop 1) = false ∧ (commitC (ownerG g).1.copy).2 = 0 ∧ (commitG g).1 = (withG g (commitC (ownerG g).1.copy).1, (ownerG g).1.copy.pend.getD 0 default) := by
  unfold commitG at he ⊢
  split at he
  · simp at he
  · rename_i h1
    split at he
    · simp at he
    · rename_i h2
      split at he
      · simp at he
      · rename_i h3
        split at he
        · rename_i h4; exact absurd he h4
        · rename_i h4
          rw [if_neg h1, if_neg h2, if_neg h3, if_neg h4]
          exact ⟨by simpa using h1, by simpa using h3, by simpa using h4, rfl⟩
end Go.Sx

namespace Go.Sx
open Go
def dupL (ids : List Int) (j : Nat) : Bool := (List.range ids.length).any fun i => decide (j ≤ i) && (ids.take i).contains (ids.getD i default)
theorem dup_step {ids : List Int} {j : Nat} (h : j < ids.length) : dupL ids j = ((ids.take j).contains (ids.getD j default) || dupL ids (j + 1)) := by
  rw [Bool.eq_iff_iff]
  simp only [dupL, List.any_eq_true, List.mem_range, Bool.and_eq_true, decide_eq_true_eq, Bool.or_eq_true]
  constructor
  · rintro ⟨i, h1, h2, h3⟩
    by_cases e : i = j
    · subst e; exact .inl h3
    · exact .inr ⟨i, h1, by omega, h3⟩
  · rintro (h1 | ⟨i, h1, h2, h3⟩)
    · exact ⟨j, h, by omega, h1⟩
    · exact ⟨i, h1, by omega, h3⟩
theorem dup_end {ids : List Int} {j : Nat} (h : ids.length ≤ j) : dupL ids j = false := by
  cases e : dupL ids j with
  | false => rfl
  | true =>
    simp only [dupL, List.any_eq_true, List.mem_range, Bool.and_eq_true, decide_eq_true_eq] at e
    obtain ⟨i, h1, h2, _⟩ := e
    omega
def memL' (c : CopyT) (ids : List Int) : List MemT := ids.map fun i => ⟨i, true, c⟩
theorem memL_len {c : CopyT} {ids : List Int} : (memL' c ids).length = ids.length := by simp [memL']
theorem memL_take {c : CopyT} {ids : List Int} {j : Nat} (h : j < ids.length) : memL' c (ids.take (j + 1)) = memL' c (ids.take j) ++ [⟨ids.getD j default, true, c⟩] := by
  rw [take_succ' h]; simp [memL']
theorem memL_index {c : CopyT} {id : Int} : ∀ {ids : List Int} {f : Nat}, (idxG id (memL' c ids) f < 0 ↔ ids.contains id = false)
  | [], f => by simp [memL', idxG]
  | x :: ids, f => by
    have ih := memL_index (c := c) (id := id) (ids := ids) (f := f + 1)
    simp only [memL', List.map_cons, idxG, List.contains_cons] at ih ⊢
    by_cases h : x = id
    · subst h; simp
    · rw [if_neg h, ih]
      have : (id == x) = false := by simp [Ne.symm h]
      simp [this]
theorem memL_index0 {c : CopyT} {id : Int} {ids : List Int} : (indexG (memL' c ids) id 0 < 0 ↔ ids.contains id = false) := by
  unfold indexG; rw [List.drop_zero]; exact memL_index
def newG (n : Int) (ids : List Int) (c : CopyT) : GrpT × Int :=
  if numOk n = false ∨ ids.length = 0 ∨ validC c = false ∨ ids.all numOk = false then (noGrp, 1) else if ids.length > 5 then (noGrp, 3) else if dupL ids 0 = true then (noGrp, 5) else (⟨n, true, memL' c ids⟩, 0)
theorem newG_bad {n : Int} {ids : List Int} {c : CopyT} (h : numOk n = false ∨ ids.length = 0 ∨ validC c = false ∨ ids.all numOk = false) : newG n ids c = (noGrp, 1) := by rw [newG, if_pos h]
theorem newG_long {n : Int} {ids : List Int} {c : CopyT} (h1 : numOk n = true) (h2 : validC c = true) (h3 : ids.all numOk = true) (h : ids.length > 5) : newG n ids c = (noGrp, 3) := by
  rw [newG, if_neg (by simp only [h1, h2, h3, Bool.true_eq_false, or_false, false_or]; omega), if_pos h]
theorem newG_dup {n : Int} {ids : List Int} {c : CopyT} (h1 : numOk n = true) (h2 : validC c = true) (h3 : ids.all numOk = true) (h4 : ids.length ≠ 0) (h : ¬ ids.length > 5) (hd : dupL ids 0 = true) : newG n ids c = (noGrp, 5) := by
  rw [newG, if_neg (by simp only [h1, h2, h3, Bool.true_eq_false, or_false, false_or]; omega), if_neg h, if_pos hd]
theorem newG_ok {n : Int} {ids : List Int} {c : CopyT} (h1 : numOk n = true) (h2 : validC c = true) (h3 : ids.all numOk = true) (h4 : ids.length ≠ 0) (h : ¬ ids.length > 5) (hd : dupL ids 0 = false) : newG n ids c = (⟨n, true, memL' c ids⟩, 0) := by
  rw [newG, if_neg (by simp only [h1, h2, h3, Bool.true_eq_false, or_false, false_or]; omega), if_neg h, if_neg (by rw [hd]; simp)]
theorem all_step {ids : List Int} {i : Nat} (h : i < ids.length) : (ids.take (i + 1)).all numOk = ((ids.take i).all numOk && numOk (ids.getD i default)) := by
  rw [take_succ' h]; simp
def liveL (ms : List MemT) : List Int := (ms.filter (·.up)).map (·.id)
theorem live_take {ms : List MemT} {i : Nat} (h : i < ms.length) : liveL (ms.take (i + 1)) = liveL (ms.take i) ++ (if (ms.getD i default).up then [(ms.getD i default).id] else []) := by
  rw [take_succ' h]
  simp only [liveL, List.filter_append, List.map_append]
  congr 1
  cases e : (ms.getD i default).up <;> simp [-List.getD_eq_getElem?_getD, e]
def renewL : Int → List (Int × Int) → Int × Int
  | m, [] => if m = 1099511627776 then (0, 16) else (m + 1, 0)
  | m, s :: l => if stampOk s.1 s.2 then renewL (if s.1 > m then s.1 else m) l else (0, 1)
def renewAt (l : List (Int × Int)) (i : Nat) (m : Int) : Int × Int := renewL m (l.drop i)
theorem renew_step {l : List (Int × Int)} {i : Nat} {m : Int} (h : i < l.length) : renewAt l i m = if stampOk (l.getD i default).1 (l.getD i default).2 then renewAt l (i + 1) (if (l.getD i default).1 > m then (l.getD i default).1 else m) else (0, 1) := by
  unfold renewAt
  rw [drop_cons' h, renewL]
theorem renew_end {l : List (Int × Int)} {i : Nat} {m : Int} (h : l.length ≤ i) : renewAt l i m = if m = 1099511627776 then (0, 16) else (m + 1, 0) := by
  unfold renewAt
  rw [List.drop_eq_nil_of_le h, renewL]
def renewF (l : List (Int × Int)) : Int × Int := renewAt l 0 0
theorem renew_one {e v : Int} (h : stampOk e v = true) (he : e < 1099511627776) : renewF [(e, v)] = (e + 1, 0) := by
  have := stamp_of.1 h
  simp only [renewF, renewAt, List.drop_zero, renewL, h, if_true]
  have hm : (if e > 0 then e else 0) = e := by split <;> omega
  rw [hm, if_neg (by omega)]
def closeG (g : GrpT) (c : CopyT) : GrpT := { withG g c with opn := false }
def changeG (g : GrpT) (c : CopyT) (l : List (Int × Int)) : GrpT × Int :=
  if (ownerG g).2 = false then (noGrp, 14) else if g.opn = false then (noGrp, 7) else if validC c = false then (noGrp, 1)
  else if ¬ (renewF (((ownerG g).1.copy.se, (ownerG g).1.copy.sv) :: l)).2 = 0 then (noGrp, (renewF (((ownerG g).1.copy.se, (ownerG g).1.copy.sv) :: l)).2)
  else (closeG g { c with se := (renewF (((ownerG g).1.copy.se, (ownerG g).1.copy.sv) :: l)).1, sv := 0 }, 0)
def heirL : List MemT → Nat → Int
  | [], _ => -1
  | m :: ms, i => if m.up then i else heirL ms (i + 1)
def heirG (ms : List MemT) (f : Nat) : Int := heirL (ms.drop f) f
theorem heir_step {ms : List MemT} {i : Nat} (h : i < ms.length) : heirG ms i = if (ms.getD i default).up then (i : Int) else heirG ms (i + 1) := by
  unfold heirG
  rw [drop_cons' h, heirL]
theorem heir_end {ms : List MemT} {i : Nat} (h : ms.length ≤ i) : heirG ms i = -1 := by
  unfold heirG
  rw [List.drop_eq_nil_of_le h, heirL]
theorem heir_range {ms : List MemT} : ∀ {n f : Nat}, n = ms.length - f → heirG ms f = -1 ∨ ∃ i, heirG ms f = (i : Nat) ∧ f ≤ i ∧ i < ms.length ∧ (ms.getD i default).up = true ∧ ∀ j, f ≤ j → j < i → (ms.getD j default).up = false
  | 0, f, hn => .inl (heir_end (by omega))
  | n + 1, f, hn => by
    rw [heir_step (by omega)]
    split
    · rename_i h; exact .inr ⟨f, rfl, by omega, by omega, h, fun j h1 h2 => by omega⟩
    · rename_i h
      rcases heir_range (ms := ms) (n := n) (f := f + 1) (by omega) with h1 | ⟨i, h1, h2, h3, h4, h5⟩
      · exact .inl h1
      · refine .inr ⟨i, h1, by omega, h3, h4, fun j hj1 hj2 => ?_⟩
        by_cases e : j = f
        · subst e; simpa using h
        · exact h5 j (by omega) hj2
def candG (g : GrpT) : Int × Bool := if heirG g.mem 0 < 1 then (0, false) else ((g.mem.getD (heirG g.mem 0).toNat default).id, true)
def takenL (ms : List MemT) (i : Nat) (e : Int) : List MemT := { ms.getD i default with copy := { (ms.getD i default).copy with se := e, sv := 0 } } :: (ms.take i ++ ms.drop (i + 1))
def takeG (g : GrpT) : GrpT × Int :=
  if g.mem.length = 0 ∨ heirG g.mem 0 = 0 then (noGrp, 7) else if heirG g.mem 0 < 0 then (noGrp, 15)
  else if ¬ (renewF [((g.mem.getD (heirG g.mem 0).toNat default).copy.se, (g.mem.getD (heirG g.mem 0).toNat default).copy.sv)]).2 = 0 then (noGrp, (renewF [((g.mem.getD (heirG g.mem 0).toNat default).copy.se, (g.mem.getD (heirG g.mem 0).toNat default).copy.sv)]).2)
  else ({ g with opn := false, mem := takenL g.mem (heirG g.mem 0).toNat (renewF [((g.mem.getD (heirG g.mem 0).toNat default).copy.se, (g.mem.getD (heirG g.mem 0).toNat default).copy.sv)]).1 }, 0)
def stale (o : CopyT) (m : MemT) : Bool := m.up && !(sameC m.copy o)
def readyG (g : GrpT) : Bool := (ownerG g).2 && (!g.opn && !((g.mem.drop 1).any (stale (ownerG g).1.copy)))
theorem stale_step {o : CopyT} {ms : List MemT} {i : Nat} (h : i < ms.length) : (ms.drop i).any (stale o) = (stale o (ms.getD i default) || (ms.drop (i + 1)).any (stale o)) := by
  rw [drop_cons' h, List.any_cons]
theorem stale_end {o : CopyT} {ms : List MemT} {i : Nat} (h : ms.length ≤ i) : (ms.drop i).any (stale o) = false := by
  rw [List.drop_eq_nil_of_le h]; rfl
def openG (g : GrpT) (c : CopyT) : GrpT := { withG g c with opn := true }
def finishG (g : GrpT) : (GrpT × List Wr) × Int :=
  if (ownerG g).2 = false then ((noGrp, []), 14) else if g.opn = true then ((noGrp, []), 7) else if readyG g = false then ((noGrp, []), 13)
  else if ¬ (settleF (ownerG g).1.copy).2 = 0 then ((noGrp, []), (settleF (ownerG g).1.copy).2) else ((openG g (settleF (ownerG g).1.copy).1, (ownerG g).1.copy.pend), 0)
/-- the replications of Recover: of the members ms, from the i-th on -/
def recL : List MemT → GrpT → GrpT × Int
  | [], g => (g, 0)
  | m :: ms, g => if m.up then (if ¬ (replicateG g m.id).2 = 0 then (noGrp, (replicateG g m.id).2) else recL ms (replicateG g m.id).1) else recL ms g
def recAt (ms : List MemT) (i : Nat) (g : GrpT) : GrpT × Int := recL (ms.drop i) g
theorem rec_step {ms : List MemT} {i : Nat} {g : GrpT} (h : i < ms.length) : recAt ms i g = if (ms.getD i default).up then (if ¬ (replicateG g (ms.getD i default).id).2 = 0 then (noGrp, (replicateG g (ms.getD i default).id).2) else recAt ms (i + 1) (replicateG g (ms.getD i default).id).1) else recAt ms (i + 1) g := by
  unfold recAt
  rw [drop_cons' h, recL]
theorem rec_end {ms : List MemT} {i : Nat} {g : GrpT} (h : ms.length ≤ i) : recAt ms i g = (g, 0) := by
  unfold recAt
  rw [List.drop_eq_nil_of_le h, recL]
def rec2 (g : GrpT) : (GrpT × List Wr) × Int := if ¬ (recAt g.mem 1 g).2 = 0 then ((noGrp, []), (recAt g.mem 1 g).2) else finishG (recAt g.mem 1 g).1
def downG (g : GrpT) : Bool := decide (0 < g.mem.length) && !(own0 g).up
def recoverG (g : GrpT) : (GrpT × List Wr) × Int :=
  if downG g = true then (if ¬ (takeG g).2 = 0 then ((noGrp, []), (takeG g).2) else rec2 (takeG g).1)
  else if 0 < g.mem.length ∧ g.opn = true then ((noGrp, []), 7) else rec2 g
structure ViewT where
  own : Int
  lk : List UInt8
  lt : Bool
  hk : List UInt8
  ht : Bool
  se : Int
  sv : Int
  rows : List Row
def viewOf (m : MemT) : ViewT := ⟨m.id, m.copy.lk, m.copy.lt, m.copy.hk, m.copy.ht, m.copy.se, m.copy.sv, m.copy.rows⟩
end Go.Sx

namespace Go.Sx
open Go
end Go.Sx

namespace Go.Sx
open Go
def CB (c : CopyT) : Prop := SmallC c ∧ I64 c.sv
theorem cb_no : CB noCopy := ⟨⟨by simp [noCopy], by simp [noCopy], by simp [noCopy, noPart], by simp [noCopy, noPart]⟩, by simp [noCopy, i64_zero]⟩
theorem cb_default : CB (default : CopyT) := ⟨⟨by simp [default], by simp [default], by simp [default], by simp [default]⟩, by simp [default, i64_zero]⟩
theorem cb_valid {c x : CopyT} (h : CB c) (hv : validC x = true) (ho : x.out = c.out) (hi : x.inn = c.inn) : CB x :=
  ⟨smallC_of h.1 hv ho hi, by have := valid_i64 hv; unfold I64; omega⟩
theorem commit_b {c : CopyT} (h : CB c) : CB (commitC c).1 := by
  by_cases he : (commitC c).2 = 0
  · obtain ⟨e, _, _, _, _, hv⟩ := commit_okC he
    exact cb_valid h hv (by rw [e]) (by rw [e])
  · have : (commitC c).1 = noCopy := by
      unfold commitC at he ⊢
      split
      · rfl
      · rename_i h1
        rw [if_neg h1] at he
        split
        · rfl
        · rename_i h2
          rw [if_neg h2] at he
          split
          · rfl
          · rename_i h3
            rw [if_neg h3] at he
            exact absurd rfl he
    rw [this]; exact cb_no
theorem settleC_b : ∀ (n : Nat) {c : CopyT}, CB c → CB (settleC n c).1
  | 0, c, h => h
  | n + 1, c, h => by
    unfold settleC
    split
    · exact h
    · split
      · exact settleC_b n (commit_b h)
      · exact cb_no
theorem settle_b {c : CopyT} (h : CB c) : CB (settleF c).1 := by
  unfold settleF
  split
  · exact cb_no
  · exact settleC_b _ h
theorem grpb_no : GrpB 1000 noGrp := ⟨by simp [noGrp], by simp [noGrp]⟩
theorem grpb_at {g : GrpT} (h : GrpB 1000 g) (i : Nat) : CB (g.mem.getD i default).copy := by
  rcases Nat.lt_or_ge i g.mem.length with hi | hi
  · exact h.small _ (getD_mem hi)
  · have e : g.mem.getD i default = default := by simp [List.getD, hi]
    rw [e]; exact cb_default
theorem grpb_owner {g : GrpT} (h : GrpB 1000 g) : CB (ownerG g).1.copy := by
  cases ho : (ownerG g).2 with
  | true => rw [(owner_mem ho).2.2]; exact grpb_at h 0
  | false =>
    have : (ownerG g).1 = noMem := by
      unfold ownerG at ho ⊢
      split
      · rfl
      · rename_i h1
        rw [if_neg h1] at ho
        split
        · rename_i h2; rw [if_pos h2] at ho; cases ho
        · rfl
    rw [this]; exact cb_no
theorem grpb_set {g : GrpT} {p : Nat} {x : MemT} (h : GrpB 1000 g) (hx : CB x.copy) : GrpB 1000 { g with mem := g.mem.set p x } := by
  refine ⟨by simpa using h.len, ?_⟩
  intro m hm
  rcases List.mem_or_eq_of_mem_set hm with hm | rfl
  · exact h.small m hm
  · exact hx
theorem grpb_with {g : GrpT} {c : CopyT} (h : GrpB 1000 g) (hc : CB c) : GrpB 1000 (withG g c) := grpb_set h hc
theorem replicate_b {g : GrpT} {id : Int} (h : GrpB 1000 g) : GrpB 1000 (replicateG g id).1 := by
  unfold replicateG
  repeat' split
  all_goals first
    | exact grpb_no
    | exact grpb_set h (grpb_owner h)
theorem change_b {g : GrpT} {c : CopyT} {l : List (Int × Int)} (h : GrpB 1000 g) (hc : SmallC c) : GrpB 1000 (changeG g c l).1 := by
  unfold changeG
  repeat' split
  all_goals first
    | exact grpb_no
    | skip
  have := grpb_with (c := { c with se := (renewF (((ownerG g).1.copy.se, (ownerG g).1.copy.sv) :: l)).1, sv := 0 }) h ⟨hc, i64_zero⟩
  exact ⟨this.len, this.small⟩
theorem taken_b {g : GrpT} {i : Nat} {e : Int} (h : GrpB 1000 g) (hi : i < g.mem.length) : GrpB 1000 { g with opn := false, mem := takenL g.mem i e } := by
  have hl := h.len
  refine ⟨by simp only [takenL, List.length_cons, List.length_append, List.length_take, List.length_drop]; omega, ?_⟩
  intro m hm
  simp only [takenL, List.mem_cons, List.mem_append] at hm
  rcases hm with rfl | hm | hm
  · exact ⟨(grpb_at h i).1, i64_zero⟩
  · exact h.small m (List.mem_of_mem_take hm)
  · exact h.small m (List.mem_of_mem_drop hm)
theorem take_b {g : GrpT} (h : GrpB 1000 g) : GrpB 1000 (takeG g).1 := by
  unfold takeG
  split
  · exact grpb_no
  · split
    · exact grpb_no
    · split
      · exact grpb_no
      · refine taken_b h ?_
        rcases heir_range (ms := g.mem) (n := g.mem.length) (f := 0) (by omega) with h1 | ⟨i, h1, _, h2, _⟩
        · rename_i h3 _; omega
        · rw [h1]; simpa using h2
theorem finish_b {g : GrpT} (h : GrpB 1000 g) : GrpB 1000 (finishG g).1.1 := by
  unfold finishG
  repeat' split
  all_goals first
    | exact grpb_no
    | skip
  have := grpb_with h (settle_b (grpb_owner h))
  exact ⟨this.len, this.small⟩
theorem rec_b {ms : List MemT} : ∀ {g : GrpT}, GrpB 1000 g → GrpB 1000 (recL ms g).1 := by
  induction ms with
  | nil => intro g h; exact h
  | cons m ms ih =>
    intro g h
    unfold recL
    repeat' split
    all_goals first
      | exact grpb_no
      | exact ih (replicate_b h)
      | exact ih h
theorem rec2_b {g : GrpT} (h : GrpB 1000 g) : GrpB 1000 (rec2 g).1.1 := by
  unfold rec2
  split
  · exact grpb_no
  · exact finish_b (rec_b h)
theorem recover_b {g : GrpT} (h : GrpB 1000 g) : GrpB 1000 (recoverG g).1.1 := by
  unfold recoverG
  repeat' split
  all_goals first
    | exact grpb_no
    | exact rec2_b (take_b h)
    | exact rec2_b h
end Go.Sx

namespace Go.Sx
open Go
def encStp (s : Int × Int) : List D := [.int .i64 s.1, .int .i64 s.2]
end Go.Sx

namespace Go.Sx
open Go
theorem renew_one' {e v : Int} (h : (renewF [(e, v)]).2 = 0) : stampOk e v = true ∧ (renewF [(e, v)]).1 = e + 1 ∧ e < 1099511627776 := by
  cases hs : stampOk e v with
  | false => simp [renewF, renewAt, renewL, hs] at h
  | true =>
    have h1 := stamp_of.1 hs
    have hm : (if e > 0 then e else 0) = e := by split <;> omega
    have e1 : renewF [(e, v)] = if e = 1099511627776 then (0, 16) else (e + 1, 0) := by
      simp only [renewF, renewAt, List.drop_zero, renewL, hs, if_true, hm]
    rw [e1] at h ⊢
    split at h
    · cases h
    · rename_i h2
      rw [if_neg h2]
      exact ⟨rfl, rfl, by omega⟩
theorem valid_stamp {c : CopyT} {e : Int} (hv : validC c = true) (h0 : 0 ≤ e) (h1 : e ≤ 1099511627776) : validC { c with se := e, sv := 0 } = true := by
  obtain ⟨g1, g2, g3, g4, g5, g6⟩ := valid_head hv
  obtain ⟨g7, g8⟩ := valid_rest hv
  exact valid_of g1 (stamp_of.2 ⟨⟨h0, h1⟩, by simp, by simp⟩) g3 g4 g5 g6 (fun w hw => by have := valid_pend hv w hw; exact this) g7 g8
structure CopyE (r : Rng) (n : Nat) (c : CopyT) : Prop where
  v : validC c = true
  small : SmallC c
  rng : c.rng = r
  se : c.se ≤ 2 + (n : Int)
  sv : c.sv ≤ 1 + 64 * (n : Int)
theorem CopyE.mono {r : Rng} {n m : Nat} {c : CopyT} (h : CopyE r n c) (hn : n ≤ m) : CopyE r m c := ⟨h.v, h.small, h.rng, by have := h.se; omega, by have := h.sv; omega⟩
structure EvM (r : Rng) (n : Nat) (ms : List MemT) : Prop where
  n1 : 1 ≤ ms.length
  le : ms.length ≤ 5
  uniq : Uniq ms
  all : ∀ m ∈ ms, CopyE r n m.copy
theorem EvM.mono {r : Rng} {n m : Nat} {ms : List MemT} (h : EvM r n ms) (hn : n ≤ m) : EvM r m ms := ⟨h.n1, h.le, h.uniq, fun x hx => (h.all x hx).mono hn⟩
theorem EvM.b {r : Rng} {n : Nat} {g : GrpT} (h : EvM r n g.mem) : GrpB 1000 g := ⟨by have := h.le; omega, fun m hm => ⟨(h.all m hm).small, by have := valid_i64 (h.all m hm).v; unfold I64; omega⟩⟩
theorem EvM.at {r : Rng} {n : Nat} {ms : List MemT} (h : EvM r n ms) {i : Nat} (hi : i < ms.length) : CopyE r n (ms.getD i default).copy := h.all _ (getD_mem hi)
theorem EvM.set {r : Rng} {n : Nat} {ms : List MemT} {p : Nat} {x : MemT} (h : EvM r n ms) (hid : x.id = (ms.getD p default).id) (hx : CopyE r (n + 1) x.copy) : EvM r (n + 1) (ms.set p x) := by
  refine ⟨by simpa using h.n1, by simpa using h.le, uniq_set h.uniq hid, ?_⟩
  intro m hm
  rcases List.mem_or_eq_of_mem_set hm with hm | rfl
  · exact (h.all m hm).mono (by omega)
  · exact hx
theorem settleC_keep : ∀ (k : Nat) {c : CopyT}, validC c = true → (settleC k c).2 = 0 → validC (settleC k c).1 = true ∧ (settleC k c).1.rng = c.rng ∧ (settleC k c).1.se = c.se ∧ c.sv ≤ (settleC k c).1.sv ∧ (settleC k c).1.sv ≤ c.sv + k ∧ (settleC k c).1.out = c.out ∧ (settleC k c).1.inn = c.inn
  | 0, c, hv, _ => ⟨hv, rfl, rfl, by simp [settleC], by simp [settleC], rfl, rfl⟩
  | k + 1, c, hv, h => by
    unfold settleC at h ⊢
    split
    · exact ⟨hv, rfl, rfl, by simp, by show c.sv ≤ c.sv + ((k + 1 : Nat) : Int); omega, rfl, rfl⟩
    · rename_i hp
      rw [if_neg hp] at h
      split
      · rename_i hc
        rw [if_pos hc] at h
        obtain ⟨e, _, _, _, _, hv2⟩ := commit_okC hc
        obtain ⟨h1, h2, h3, h4, h5, h6, h7⟩ := settleC_keep k hv2 h
        rw [e] at h2 h3 h4 h5 h6 h7
        simp only at h3 h4 h5 h6 h7
        rw [e]
        exact ⟨by rw [e] at h1; exact h1, h2, h3, by omega, by omega, h6, h7⟩
      · rename_i hc
        rw [if_neg hc] at h
        exact absurd h hc
theorem settle_keep {c : CopyT} (h : (settleF c).2 = 0) : validC c = true ∧ validC (settleF c).1 = true ∧ (settleF c).1.rng = c.rng ∧ (settleF c).1.se = c.se ∧ c.sv ≤ (settleF c).1.sv ∧ (settleF c).1.sv ≤ c.sv + c.pend.length ∧ (settleF c).1.out = c.out ∧ (settleF c).1.inn = c.inn := by
  unfold settleF at h ⊢
  split
  · rename_i h1; rw [if_pos h1] at h; cases h
  · rename_i h1
    rw [if_neg h1] at h
    have hv : validC c = true := by simpa using h1
    exact ⟨hv, settleC_keep _ hv h⟩
theorem finish_inv {g : GrpT} (he : (finishG g).2 = 0) : (ownerG g).2 = true ∧ g.opn = false ∧ readyG g = true ∧ (settleF (ownerG g).1.copy).2 = 0 ∧ (finishG g).1 = (openG g (settleF (ownerG g).1.copy).1, (ownerG g).1.copy.pend) := by
  unfold finishG at he ⊢
  split at he
  · simp at he
  · rename_i h1
    split at he
    · simp at he
    · rename_i h2
      split at he
      · simp at he
      · rename_i h3
        split at he
        · rename_i h4; exact absurd he h4
        · rename_i h4
          rw [if_neg h1, if_neg h2, if_neg h3, if_neg h4]
          exact ⟨by simpa using h1, by simpa using h2, by simpa using h3, by simpa using h4, rfl⟩
theorem change_inv {g : GrpT} {c : CopyT} {l : List (Int × Int)} (he : (changeG g c l).2 = 0) : (ownerG g).2 = true ∧ g.opn = true ∧ validC c = true ∧ (renewF (((ownerG g).1.copy.se, (ownerG g).1.copy.sv) :: l)).2 = 0 ∧ (changeG g c l).1 = closeG g { c with se := (renewF (((ownerG g).1.copy.se, (ownerG g).1.copy.sv) :: l)).1, sv := 0 } := by
  unfold changeG at he ⊢
  split at he
  · simp at he
  · rename_i h1
    split at he
    · simp at he
    · rename_i h2
      split at he
      · simp at he
      · rename_i h3
        split at he
        · rename_i h4; exact absurd he h4
        · rename_i h4
          rw [if_neg h1, if_neg h2, if_neg h3, if_neg h4]
          exact ⟨by simpa using h1, by simpa using h2, by simpa using h3, by simpa using h4, rfl⟩
theorem take_inv {g : GrpT} (he : (takeG g).2 = 0) : ∃ i, 0 < i ∧ i < g.mem.length ∧ heirG g.mem 0 = (i : Nat) ∧ (g.mem.getD i default).up = true ∧ (∀ j, j < i → (g.mem.getD j default).up = false) ∧ (renewF [((g.mem.getD i default).copy.se, (g.mem.getD i default).copy.sv)]).2 = 0 ∧
    (takeG g).1 = { g with opn := false, mem := takenL g.mem i (renewF [((g.mem.getD i default).copy.se, (g.mem.getD i default).copy.sv)]).1 } := by
  have hr := heir_range (ms := g.mem) (n := g.mem.length) (f := 0) (by omega)
  unfold takeG at he ⊢
  split at he
  · simp at he
  · rename_i h1
    split at he
    · simp at he
    · rename_i h2
      split at he
      · rename_i h3; exact absurd he h3
      · rename_i h3
        rw [if_neg h1, if_neg h2, if_neg h3]
        rcases hr with hr | ⟨i, k1, _, k3, k4, k5⟩
        · omega
        · rw [k1] at h1 h3 ⊢
          simp only [Int.toNat_natCast] at h3 ⊢
          refine ⟨i, by omega, k3, rfl, k4, fun j hj => k5 j (by omega) hj, ?_, rfl⟩
          simpa [-List.getD_eq_getElem?_getD] using h3
theorem taken_get {ms : List MemT} {i j : Nat} {e : Int} (hi : i < ms.length) (hj : j < ms.length) : (takenL ms i e).getD j default = if j = 0 then { ms.getD i default with copy := { (ms.getD i default).copy with se := e, sv := 0 } } else ms.getD (if j ≤ i then j - 1 else j) default := by
  unfold takenL
  cases j with
  | zero => rfl
  | succ j =>
    rw [if_neg (by omega)]
    have : ∀ (x : MemT) (l : List MemT), (x :: l).getD (j + 1) default = l.getD j default := fun x l => by simp [List.getD]
    rw [this, getD_cutM hi (by omega)]
    by_cases h : j < i
    · rw [if_pos h, if_pos (by omega)]; rfl
    · rw [if_neg h, if_neg (by omega)]
theorem taken_len {ms : List MemT} {i : Nat} {e : Int} (hi : i < ms.length) : (takenL ms i e).length = ms.length := by
  simp only [takenL, List.length_cons, List.length_append, List.length_take, List.length_drop]; omega
theorem taken_uniq {ms : List MemT} {i : Nat} {e : Int} (hi : i < ms.length) (hu : Uniq ms) : Uniq (takenL ms i e) := by
  have hid : ∀ j, j < ms.length → ((takenL ms i e).getD j default).id = (ms.getD (if j = 0 then i else if j ≤ i then j - 1 else j) default).id := by
    intro j hj
    rw [taken_get hi hj]
    by_cases h : j = 0
    · rw [if_pos h, if_pos h]
    · rw [if_neg h, if_neg h]
  intro j k hj hk h
  rw [taken_len hi] at hj hk
  rw [hid j hj, hid k hk] at h
  have hσ : ∀ j, j < ms.length → (if j = 0 then i else if j ≤ i then j - 1 else j) < ms.length := fun j hj => by
    split
    · exact hi
    · split <;> omega
  have := hu _ _ (hσ j hj) (hσ k hk) h
  by_cases h1 : j = 0 <;> by_cases h2 : k = 0 <;> by_cases h3 : j ≤ i <;> by_cases h4 : k ≤ i <;> simp only [h1, h2, h3, h4, if_true, if_false] at this <;> omega
end Go.Sx

namespace Go.Sx
open Go
/-! the example of chapter 26 -/
end Go.Sx

namespace Go.Sx
open Go
def AllSe (ms : List MemT) (P : Int → Prop) : Prop := ∀ i, i < ms.length → (ms.getD i default).up = true → P (ms.getD i default).copy.se
def Later (last : ViewT) (v : ViewT) : Prop := last.se < v.se ∨ (last.se = v.se ∧ last.sv < v.sv) ∨ last = v
theorem AllSe.set {ms : List MemT} {P : Int → Prop} {p : Nat} {x : MemT} (h : AllSe ms P) (hx : x.up = true → P x.copy.se) : AllSe (ms.set p x) P := by
  intro i hi hu
  rw [List.length_set] at hi
  by_cases e : i = p
  · subst e
    rw [getD_set_self hi] at hu ⊢
    exact hx hu
  · rw [getD_set_ne e] at hu ⊢
    exact h i hi hu
theorem AllSe.imp {ms : List MemT} {P Q : Int → Prop} (h : AllSe ms P) (hq : ∀ e, P e → Q e) : AllSe ms Q := fun i hi hu => hq _ (h i hi hu)
theorem ready_inv {g : GrpT} (h : readyG g = true) : (ownerG g).2 = true ∧ g.opn = false ∧ ∀ i, 1 ≤ i → i < g.mem.length → (g.mem.getD i default).up = true → sameC (g.mem.getD i default).copy (ownerG g).1.copy = true := by
  simp only [readyG, Bool.and_eq_true, Bool.not_eq_true', List.any_eq_false] at h
  refine ⟨h.1, h.2.1, fun i h1 hi hu => ?_⟩
  have hm : g.mem.getD i default ∈ g.mem.drop 1 := by
    rw [List.mem_iff_getElem]
    refine ⟨i - 1, by simp; omega, ?_⟩
    have : (g.mem.drop 1)[i - 1]'(by simp; omega) = g.mem[i] := by rw [List.getElem_drop]; congr 1; omega
    rw [this]
    simp [List.getD, hi]
  have := h.2.2 _ hm
  simpa [-List.getD_eq_getElem?_getD, stale, hu] using this
end Go.Sx

namespace Go.Sx
open Go
end Go.Sx

namespace Go.Sx
open Go
end Go.Sx

namespace Go.Sx
open Go
def PM (ms : List MemT) : Prop := ∀ m ∈ ms, m.copy.out = noPart ∧ m.copy.inn = noPart
theorem PM.at {ms : List MemT} (h : PM ms) {i : Nat} (hi : i < ms.length) : (ms.getD i default).copy.out = noPart ∧ (ms.getD i default).copy.inn = noPart := h _ (getD_mem hi)
theorem PM.set {ms : List MemT} {p : Nat} {x : MemT} (h : PM ms) (hx : x.copy.out = noPart ∧ x.copy.inn = noPart) : PM (ms.set p x) := by
  intro m hm
  rcases List.mem_or_eq_of_mem_set hm with hm | rfl
  · exact h m hm
  · exact hx
structure OddB (n : Nat) (g : GrpT) : Prop where
  len : g.mem.length ≤ 100
  all : ∀ m ∈ g.mem, CopyB n m.copy
theorem OddB.b {n : Nat} {g : GrpT} (h : OddB n g) (hn : n ≤ 1000000) : GrpB 1000 g :=
  ⟨by have := h.len; omega, fun m hm => by
    have := h.all m hm
    have h1 := this.rows
    have h2 := this.pend
    have h3 := this.out.rows
    have h4 := this.inn.rows
    exact ⟨⟨by omega, by omega, by omega, by omega⟩, this.sv⟩⟩
theorem OddB.mono {n k : Nat} {g : GrpT} (h : OddB n g) (hk : n ≤ k) : OddB k g := ⟨h.len, fun m hm => (h.all m hm).mono hk⟩
theorem OddB.at {n : Nat} {g : GrpT} (h : OddB n g) {i : Nat} (hi : i < g.mem.length) : CopyB n (g.mem.getD i default).copy := h.all _ (getD_mem hi)
end Go.Sx

namespace Go.Sx
open Go
end Go.Sx
