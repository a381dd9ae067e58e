/- Part of a symbolic executor over the model, proved sound, with plain laws: SxGrp. Written for these claims. -/
import Derived.Test.YtohenbaodklohaaDoorSxTab
import Derived.Test.YtohenbaodklohaaDoorSxDL
namespace Go.Sx
open Go
set_option linter.unusedVariables false
set_option linter.unusedSimpArgs false

/-! groups (chapter 25) -/
structure MemT where
  id : Int
  up : Bool
  copy : CopyT
instance : Inhabited MemT := ⟨⟨0, false, default⟩⟩
structure GrpT where
  num : Int
  opn : Bool
  mem : List MemT
def noMem : MemT := ⟨0, false, noCopy⟩
def noGrp : GrpT := ⟨0, false, []⟩
def encMem (m : MemT) : List D := .int .i64 m.id :: .bool m.up :: encCopy m.copy
abbrev memL (m : MemT) : List SV := .d (.int .i64 m.id) :: .d (.bool m.up) :: copyL m.copy
abbrev grpL (g : GrpT) : List SV := [.d (.int .i64 g.num), .d (.bool g.opn), .d (encL encMem 32 g.mem)]
def idxG (id : Int) : List MemT → Nat → Int
  | [], _ => -1
  | m :: ms, i => if m.id = id then i else idxG id ms (i + 1)
def indexG (ms : List MemT) (id : Int) (f : Nat) : Int := idxG id (ms.drop f) f
theorem index_step {ms : List MemT} {id : Int} {i : Nat} (h : i < ms.length) : indexG ms id i = if (ms.getD i default).id = id then (i : Int) else indexG ms id (i + 1) := by
  unfold indexG
  rw [List.drop_eq_getElem_cons h, idxG, show ms.getD i default = ms[i] by simp [List.getD, h]]
theorem index_end {ms : List MemT} {id : Int} {i : Nat} (h : ms.length ≤ i) : indexG ms id i = -1 := by
  unfold indexG
  rw [List.drop_eq_nil_of_le h, idxG]
theorem index_range {ms : List MemT} {id : Int} {f : Nat} : indexG ms id f = -1 ∨ ∃ i, indexG ms id f = (i : Nat) ∧ f ≤ i ∧ i < ms.length ∧ (ms.getD i default).id = id := by
  induction hn : ms.length - f generalizing f with
  | zero => exact .inl (index_end (by omega))
  | succ n ih =>
    have hf : f < ms.length := by omega
    rw [index_step hf]
    split
    · rename_i h; exact .inr ⟨f, rfl, Nat.le_refl _, hf, h⟩
    · rcases ih (f := f + 1) (by omega) with h | ⟨i, h1, h2, h3, h4⟩
      · exact .inl h
      · exact .inr ⟨i, h1, by omega, h3, h4⟩
def ownerG (g : GrpT) : MemT × Bool := if g.mem.length = 0 then (noMem, false) else if (g.mem.getD 0 default).up then (g.mem.getD 0 default, true) else (noMem, false)
def setG (ms : List MemT) (i : Nat) (m : MemT) : List MemT := ms.set i m
def withG (g : GrpT) (c : CopyT) : GrpT := { g with mem := g.mem.set 0 { g.mem.getD 0 default with copy := c } }
def proposeG (g : GrpT) (w : Wr) : GrpT × Int :=
  if (ownerG g).2 = false then (noGrp, 14) else if g.opn = false then (noGrp, 7) else if ¬ (appendC (ownerG g).1.copy w).2 = 0 then (noGrp, (appendC (ownerG g).1.copy w).2) else (withG g (appendC (ownerG g).1.copy w).1, 0)
def replicateG (g : GrpT) (id : Int) : GrpT × Int :=
  if (ownerG g).2 = false then (noGrp, 14) else if indexG g.mem id 1 < 0 then (noGrp, 6) else if (g.mem.getD (indexG g.mem id 1).toNat default).up = false then (noGrp, 14)
  else ({ g with mem := g.mem.set (indexG g.mem id 1).toNat { g.mem.getD (indexG g.mem id 1).toNat default with copy := (ownerG g).1.copy } }, 0)
def crashG (g : GrpT) (id : Int) : GrpT × Int :=
  if indexG g.mem id 0 < 0 then (noGrp, 6) else if (g.mem.getD (indexG g.mem id 0).toNat default).up = false then (noGrp, 7)
  else ({ g with mem := g.mem.set (indexG g.mem id 0).toNat { g.mem.getD (indexG g.mem id 0).toNat default with up := false } }, 0)
def recruitG (g : GrpT) (id : Int) : GrpT × Int :=
  if (ownerG g).2 = false then (noGrp, 14) else if g.opn = false then (noGrp, 7) else if numOk id = false then (noGrp, 1) else if indexG g.mem id 0 ≥ 0 then (noGrp, 5) else if (g.mem.length : Int) ≥ 5 then (noGrp, 3)
  else ({ g with mem := g.mem ++ [⟨id, true, (ownerG g).1.copy⟩] }, 0)
def hasG (g : GrpT) (id : Int) : Bool :=
  (ownerG g).2 && (decide (0 ≤ indexG g.mem id 1) && ((g.mem.getD (indexG g.mem id 1).toNat default).up && (!(((ownerG g).1.copy.pend.length : Int) == 0) &&
    (((g.mem.getD (indexG g.mem id 1).toNat default).copy.se == (ownerG g).1.copy.se) && decide (IntKind.i64.wrap ((g.mem.getD (indexG g.mem id 1).toNat default).copy.sv + ((g.mem.getD (indexG g.mem id 1).toNat default).copy.pend.length : Int)) > (ownerG g).1.copy.sv)))))
/-- bounds of what is in a group -/
structure GrpB (n : Nat) (g : GrpT) : Prop where
  len : g.mem.length ≤ n
  small : ∀ m ∈ g.mem, (m.copy.rows.length ≤ 1000000 ∧ m.copy.pend.length ≤ 1000000 ∧ m.copy.out.rows.length ≤ 4398046511104 ∧ m.copy.inn.rows.length ≤ 4398046511104) ∧ I64 m.copy.sv
theorem mem_small {n : Nat} {g : GrpT} (h : GrpB n g) (i : Nat) : (g.mem.getD i default).copy.rows.length ≤ 1000000 ∧ (g.mem.getD i default).copy.pend.length ≤ 1000000 ∧ (g.mem.getD i default).copy.out.rows.length ≤ 4398046511104 ∧ (g.mem.getD i default).copy.inn.rows.length ≤ 4398046511104 := by
  rcases Nat.lt_or_ge i g.mem.length with hi | hi
  · exact (h.small _ (getD_mem hi)).1
  · have e : g.mem.getD i default = default := by simp [List.getD, hi]
    rw [e]; simp [default]
theorem getD_set_self {ms : List MemT} {p : Nat} {x : MemT} (h : p < ms.length) : (ms.set p x).getD p default = x := by simp [List.getD, h]
theorem getD_set_ne {ms : List MemT} {p i : Nat} {x : MemT} (h : i ≠ p) : (ms.set p x).getD i default = ms.getD i default := by
  simp [List.getD, List.getElem?_set_ne (Ne.symm h)]
/-- a copy is stored into one member of a list -/
theorem row_setC {ms : List MemT} {p n : Nat} {c : CopyT} (hp : p < ms.length) : RowLe n 32 (fun i' j' => if i' = p then if j' < 0 + 2 then cellOf encMem ms i' j' else if j' < 0 + 2 + (encCopy c).length then (encCopy c).getD (j' - (0 + 2)) default else cellOf encMem ms i' j' else cellOf encMem ms i' j')
    (cellOf encMem (ms.set p { ms.getD p default with copy := c })) := by
  refine .of_eq fun i' j' _ hj => ?_
  have hl : (encCopy c).length = 30 := rfl
  by_cases hi : i' = p
  · subst hi
    simp only [cellOf, if_pos, getD_set_self hp, hl]
    match j', hj with
    | 0, _ => rfl
    | 1, _ => rfl
    | j + 2, hj =>
      rw [if_neg (by omega), if_pos (by omega)]
      simp only [encMem, Nat.zero_add, Nat.add_sub_cancel]
      rfl
  · simp only [if_neg hi, cellOf, getD_set_ne hi]
theorem set_self {ms : List MemT} {p : Nat} : ms.set p { ms.getD p default with copy := (ms.getD p default).copy } = ms := by
  rcases Nat.lt_or_ge p ms.length with h | h
  · have e : ms.getD p default = ms[p] := by simp [List.getD, h]
    rw [e]; exact List.set_getElem_self h
  · exact List.set_eq_of_length_le h
theorem row_sameC {ms : List MemT} {p n : Nat} (hp : p < ms.length) : RowLe n 32 (fun i' j' => if i' = p then if j' < 0 + 2 then cellOf encMem ms i' j' else if j' < 0 + 2 + (encCopy (ms.getD p default).copy).length then (encCopy (ms.getD p default).copy).getD (j' - (0 + 2)) default else cellOf encMem ms i' j' else cellOf encMem ms i' j')
    (cellOf encMem ms) := by
  have := row_setC (n := n) (c := (ms.getD p default).copy) hp
  rw [set_self] at this
  exact this
theorem row_shift {n k : Nat} {F G : Nat → Nat → D} (h : RowLe n k F G) : RowLe n k (fun i j => F (0 + i) j) G := by
  have e : (fun i j => F (0 + i) j) = F := by funext i j; rw [Nat.zero_add]
  rw [e]; exact h
/-- the mark of one member of a list is stored -/
theorem row_setU {ms : List MemT} {p n : Nat} {b : Bool} (hp : p < ms.length) : RowLe n 32 (fun i' j' => if i' = p then if j' < 0 + 1 then cellOf encMem ms i' j' else if j' < 0 + 1 + [D.bool b].length then [D.bool b].getD (j' - (0 + 1)) default else cellOf encMem ms i' j' else cellOf encMem ms i' j')
    (cellOf encMem (ms.set p { ms.getD p default with up := b })) := by
  refine .of_eq fun i' j' _ hj => ?_
  by_cases hi : i' = p
  · subst hi
    simp only [cellOf, if_pos, getD_set_self hp, List.length_singleton]
    match j', hj with
    | 0, _ => rfl
    | 1, _ => rfl
    | j + 2, hj =>
      rw [if_neg (by omega), if_neg (by omega)]
      rfl
  · simp only [if_neg hi, cellOf, getD_set_ne hi]
theorem owner_mem {g : GrpT} (h : (ownerG g).2 = true) : ¬ g.mem.length = 0 ∧ (g.mem.getD 0 default).up = true ∧ (ownerG g).1 = g.mem.getD 0 default := by
  unfold ownerG at h ⊢
  split at h
  · cases h
  · rename_i h1
    split at h
    · rename_i h2; rw [if_neg h1, if_pos h2]; exact ⟨h1, h2, rfl⟩
    · cases h
theorem owner_small {n : Nat} {g : GrpT} (h : GrpB n g) : (ownerG g).1.copy.rows.length ≤ 1000000 ∧ (ownerG g).1.copy.pend.length ≤ 1000000 ∧ (ownerG g).1.copy.out.rows.length ≤ 4398046511104 ∧ (ownerG g).1.copy.inn.rows.length ≤ 4398046511104 := by
  cases ho : (ownerG g).2 with
  | true => rw [(owner_mem ho).2.2]; exact mem_small h 0
  | false =>
    unfold ownerG at ho ⊢
    split
    · simp [noMem, noCopy, noPart]
    · split
      · rename_i h1 h2; rw [if_neg h1, if_pos h2] at ho; cases ho
      · simp [noMem, noCopy, noPart]
theorem index_nat {ms : List MemT} {id : Int} {f : Nat} (h : ¬ indexG ms id f < 0) : (indexG ms id f).toNat < ms.length ∧ ((indexG ms id f).toNat : Int) = indexG ms id f ∧ f ≤ (indexG ms id f).toNat := by
  rcases index_range (ms := ms) (id := id) (f := f) with h1 | ⟨i, h1, h2, h3, _⟩
  · omega
  · rw [h1]; simp; omega
theorem row_setC' {ms : List MemT} {p n : Nat} {c : CopyT} (hp : p < ms.length) : RowLe n 32 (fun i j => if 0 + i = 0 + p then if j < 0 + 2 then cellOf encMem ms (0 + i) j else if j < 0 + 2 + (encCopy c).length then (encCopy c).getD (j - (0 + 2)) default else cellOf encMem ms (0 + i) j else cellOf encMem ms (0 + i) j)
    (cellOf encMem (ms.set p { ms.getD p default with copy := c })) := by
  have := row_setC (n := n) (c := c) hp
  simp only [Nat.zero_add] at this ⊢
  exact this
theorem row_setU' {ms : List MemT} {p n : Nat} {b : Bool} (hp : p < ms.length) : RowLe n 32 (fun i j => if 0 + i = 0 + p then if j < 0 + 1 then cellOf encMem ms (0 + i) j else if j < 0 + 1 + [D.bool b].length then [D.bool b].getD (j - (0 + 1)) default else cellOf encMem ms (0 + i) j else cellOf encMem ms (0 + i) j)
    (cellOf encMem (ms.set p { ms.getD p default with up := b })) := by
  have := row_setU (n := n) (b := b) hp
  simp only [Nat.zero_add] at this ⊢
  exact this
theorem replicate_ok {g : GrpT} {id : Int} (h1 : (ownerG g).2 = true) (h2 : ¬ indexG g.mem id 1 < 0) (h3 : (g.mem.getD (indexG g.mem id 1).toNat default).up = true) :
    replicateG g id = ({ g with mem := g.mem.set (indexG g.mem id 1).toNat { g.mem.getD (indexG g.mem id 1).toNat default with copy := (ownerG g).1.copy } }, 0) := by
  unfold replicateG
  rw [if_neg (by simp [h1]), if_neg h2, if_neg (by rw [h3]; simp)]
theorem recruit_ok {g : GrpT} {id : Int} (h1 : (ownerG g).2 = true) (h2 : g.opn = true) (h3 : numOk id = true) (h4 : ¬ indexG g.mem id 0 ≥ 0) (h5 : ¬ (g.mem.length : Int) ≥ 5) :
    recruitG g id = ({ g with mem := g.mem ++ [⟨id, true, (ownerG g).1.copy⟩] }, 0) := by
  unfold recruitG
  rw [if_neg (by simp [h1]), if_neg (by simp [h2]), if_neg (by simp [h3]), if_neg h4, if_neg h5]
theorem rowL_snoc {ms : List MemT} {x : MemT} {g2 : Nat → Nat → D} (h : ∀ j, j < 32 → DLe (g2 0 j) ((encMem x).getD j default)) : RowLe (ms ++ [x]).length 32 (fun i j => if 0 + i < ms.length then cellOf encMem ms (0 + i) j else g2 (0 + i - ms.length) j) (cellOf encMem (ms ++ [x])) := by
  rw [List.length_append, List.length_singleton]
  have := row_snoc (n := ms.length) (xs := ms) (x := x) (g1 := cellOf encMem ms) (g2 := g2) rfl (RowLe.refl _ _ _) h
  simp only [Nat.zero_add]
  exact this
def anyG (g : GrpT) (ms : List MemT) : Bool := ms.any fun m => m.up && !(hasG g m.id)
theorem any_step {g : GrpT} {ms : List MemT} {i : Nat} (h : i < ms.length) : anyG g (ms.drop i) = (((ms.getD i default).up && !(hasG g (ms.getD i default).id)) || anyG g (ms.drop (i + 1))) := by
  unfold anyG
  rw [List.drop_eq_getElem_cons h, List.any_cons, show ms.getD i default = ms[i] by simp [List.getD, h]]
theorem any_end {g : GrpT} {ms : List MemT} {i : Nat} (h : ms.length ≤ i) : anyG g (ms.drop i) = false := by
  unfold anyG
  rw [List.drop_eq_nil_of_le h]; rfl
def noWr : Wr := ([], [], false)
def commitG (g : GrpT) : (GrpT × Wr) × Int :=
  if (ownerG g).2 = false then ((noGrp, noWr), 14) else if g.opn = false ∨ (ownerG g).1.copy.pend.length = 0 then ((noGrp, noWr), 7) else if anyG g (g.mem.drop 1) = true then ((noGrp, noWr), 13)
  else if ¬ (commitC (ownerG g).1.copy).2 = 0 then ((noGrp, noWr), (commitC (ownerG g).1.copy).2) else ((withG g (commitC (ownerG g).1.copy).1, (ownerG g).1.copy.pend.getD 0 default), 0)
theorem commit_down {g : GrpT} (h : (ownerG g).2 = false) : commitG g = ((noGrp, noWr), 14) := by rw [commitG, if_pos h]
theorem commit_idle {g : GrpT} (h : (ownerG g).2 = true) (h1 : g.opn = false ∨ (ownerG g).1.copy.pend.length = 0) : commitG g = ((noGrp, noWr), 7) := by rw [commitG, if_neg (by simp [h]), if_pos h1]
theorem commit_busy {g : GrpT} (h : (ownerG g).2 = true) (h1 : g.opn = true) (h2 : ¬ (ownerG g).1.copy.pend.length = 0) (h3 : anyG g (g.mem.drop 1) = true) : commitG g = ((noGrp, noWr), 13) := by
  rw [commitG, if_neg (by simp [h]), if_neg (by simp [h1]; intro e; exact h2 (by simp [e])), if_pos h3]
theorem commit_fails {g : GrpT} (h : (ownerG g).2 = true) (h1 : g.opn = true) (h2 : ¬ (ownerG g).1.copy.pend.length = 0) (h3 : anyG g (g.mem.drop 1) = false) (h4 : ¬ (commitC (ownerG g).1.copy).2 = 0) : commitG g = ((noGrp, noWr), (commitC (ownerG g).1.copy).2) := by
  rw [commitG, if_neg (by simp [h]), if_neg (by simp [h1]; intro e; exact h2 (by simp [e])), if_neg (by rw [h3]; simp), if_pos h4]
theorem commit_done {g : GrpT} (h : (ownerG g).2 = true) (h1 : g.opn = true) (h2 : ¬ (ownerG g).1.copy.pend.length = 0) (h3 : anyG g (g.mem.drop 1) = false) (h4 : (commitC (ownerG g).1.copy).2 = 0) : commitG g = ((withG g (commitC (ownerG g).1.copy).1, (ownerG g).1.copy.pend.getD 0 default), 0) := by
  rw [commitG, if_neg (by simp [h]), if_neg (by simp [h1]; intro e; exact h2 (by simp [e])), if_neg (by rw [h3]; simp), if_neg (by simp [h4])]
def memG (c : CopyT) (n : Nat) : List MemT := (List.range n).map fun i : Nat => ⟨(10 : Int) + (i : Int), true, c⟩
def idsG (n : Nat) : List Int := (List.range n).map fun i : Nat => (10 : Int) + (i : Int)
theorem memG_len {c : CopyT} {n : Nat} : (memG c n).length = n := by simp [memG]
theorem idsG_len {n : Nat} : (idsG n).length = n := by simp [idsG]
theorem memG_succ {c : CopyT} {n : Nat} : memG c (n + 1) = memG c n ++ [⟨10 + (n : Int), true, c⟩] := by simp [memG, List.range_succ]
theorem idsG_succ {n : Nat} : idsG (n + 1) = idsG n ++ [10 + (n : Int)] := by simp [idsG, List.range_succ]
theorem idsG_get {n i : Nat} (h : i < n) : (idsG n).getD i default = 10 + (i : Int) := by simp [idsG, List.getD, h]
theorem memG_get {c : CopyT} {n i : Nat} (h : i < n) : (memG c n).getD i default = ⟨10 + (i : Int), true, c⟩ := by simp [memG, List.getD, h]
theorem memG_new {c : CopyT} {n : Nat} : indexG (memG c n) (10 + (n : Int)) 0 = -1 := by
  rcases index_range (ms := memG c n) (id := 10 + (n : Int)) (f := 0) with h | ⟨i, _, _, h3, h4⟩
  · exact h
  · rw [memG_len] at h3
    rw [memG_get h3] at h4
    simp only at h4
    omega
end Go.Sx

namespace Go.Sx
open Go
set_option linter.unusedVariables false
set_option linter.unusedSimpArgs false

/-! sound groups (chapter 25) -/
theorem goF_app {b : List Wr} : ∀ {a : List Wr} {r : List Row}, goF r (a ++ b) = if (goF r a).2 = 0 then goF (goF r a).1 b else goF r a
  | [], r => by simp [goF]
  | w :: a, r => by
    simp only [List.cons_append, goF]
    split
    · exact goF_app
    · rename_i h; simp only [h, if_false]
theorem append_okC {c : CopyT} {w : Wr} (h : (appendC c w).2 = 0) : (appendC c w).1 = { c with pend := c.pend ++ [w] } ∧ validC c = true ∧ validC { c with pend := c.pend ++ [w] } = true ∧ c.pend.length < 64 := by
  unfold appendC at h ⊢
  split at h
  · simp at h
  · rename_i h1
    split at h
    · simp at h
    · rename_i h2
      split at h
      · simp at h
      · rename_i h3
        simp only [Bool.not_eq_true', Bool.and_eq_true, Bool.not_eq_false] at h1 h2
        rw [if_neg (by simp [h1]), if_neg (by simp [h2]), if_neg h3]
        obtain ⟨g1, g2, g3, g4, g5, g6⟩ := valid_head h1.1
        obtain ⟨g7, g8⟩ := valid_rest h1.1
        refine ⟨rfl, h1.1, ?_, by omega⟩
        refine valid_of g1 g2 g3 g4 ?_ ?_ ?_ g7 g8
        · simp only [List.length_append, List.length_singleton]; omega
        · simp only [List.length_append, List.length_singleton]; omega
        · intro y hy
          rcases List.mem_append.1 hy with hy | hy
          · exact valid_pend h1.1 y hy
          · rw [List.mem_singleton.1 hy]; exact ⟨h1.2, h2⟩
theorem commit_okC {c : CopyT} (h : (commitC c).2 = 0) : (commitC c).1 = { c with rows := (doF c.rows (c.pend.getD 0 default)).1, pend := c.pend.drop 1, sv := c.sv + 1 } ∧ validC c = true ∧ c.pend.length ≠ 0 ∧ c.sv ≠ 1099511627776 ∧
    (doF c.rows (c.pend.getD 0 default)).2 = 0 ∧ validC (commitC c).1 = true := by
  have e : validC c = true ∧ c.pend.length ≠ 0 ∧ c.sv ≠ 1099511627776 := by
    unfold commitC at h
    split at h
    · simp at h
    · split at h
      · simp at h
      · split at h
        · simp at h
        · rename_i h1 h2 h3
          exact ⟨by simpa using h1, h2, h3⟩
  obtain ⟨h1, h2, h3⟩ := e
  obtain ⟨h4, h5⟩ := commit_valid h1 h2 h3
  have e : (commitC c).1 = { c with rows := (doF c.rows (c.pend.getD 0 default)).1, pend := c.pend.drop 1, sv := c.sv + 1 } := by
    unfold commitC
    rw [if_neg (by simp [h1]), if_neg h2, if_neg h3]
  exact ⟨e, h1, h2, h3, h4, by rw [e]; exact h5⟩
def SmallC (c : CopyT) : Prop := c.rows.length ≤ 1000000 ∧ c.pend.length ≤ 1000000 ∧ c.out.rows.length ≤ 4398046511104 ∧ c.inn.rows.length ≤ 4398046511104
theorem smallC_of {c x : CopyT} (hs : SmallC c) (h : validC x = true) (ho : x.out = c.out) (hi : x.inn = c.inn) : SmallC x := by
  obtain ⟨h1, h2, h3, h4⟩ := hs
  obtain ⟨_, _, _, _, h5, h6⟩ := valid_head h
  exact ⟨by omega, by omega, by rw [ho]; exact h3, by rw [hi]; exact h4⟩
/-- a follower's copy, and the owner's -/
structure Behind (c o : CopyT) : Prop where
  rng : c.rng = o.rng
  se : c.se = o.se
  out : c.out = o.out
  inn : c.inn = o.inn
  took : c.took = o.took
  src : c.src = o.src
  ex : ∃ d : Nat, d ≤ c.pend.length ∧ o.sv = c.sv + d ∧ goF c.rows (c.pend.take d) = (o.rows, 0) ∧ ∃ t, o.pend = c.pend.drop d ++ t
theorem Behind.refl (c : CopyT) : Behind c c := ⟨rfl, rfl, rfl, rfl, rfl, rfl, 0, by omega, by omega, rfl, [], by simp⟩
theorem Behind.append {c o : CopyT} (h : Behind c o) (w : Wr) : Behind c { o with pend := o.pend ++ [w] } := by
  obtain ⟨d, h1, h2, h3, t, h4⟩ := h.ex
  exact ⟨h.rng, h.se, h.out, h.inn, h.took, h.src, d, h1, h2, h3, t ++ [w], by simp [h4]⟩
theorem Behind.commit {c o : CopyT} (h : Behind c o) (hc : (commitC o).2 = 0) (hv : c.sv + (c.pend.length : Int) > o.sv) : Behind c (commitC o).1 := by
  obtain ⟨d, h1, h2, h3, t, h4⟩ := h.ex
  obtain ⟨e, _, _, _, e2, _⟩ := commit_okC hc
  rw [e]
  have hd : d < c.pend.length := by omega
  have e3 : c.pend.drop d = c.pend.getD d default :: c.pend.drop (d + 1) := by
    rw [List.drop_eq_getElem_cons hd]; simp [List.getD, hd]
  have e4 : o.pend.getD 0 default = c.pend.getD d default := by rw [h4, e3]; rfl
  refine ⟨h.rng, h.se, h.out, h.inn, h.took, h.src, d + 1, by omega, by simp only; omega, ?_, t, ?_⟩
  · have e5 : c.pend.take (d + 1) = c.pend.take d ++ [c.pend.getD d default] := by
      rw [List.take_add_one, List.getElem?_eq_getElem hd]; simp [List.getD, hd]
    rw [e5, goF_app, h3, if_pos rfl, ← e4]
    simp only [goF, e2, if_true]
  · simp only [h4, e3, List.cons_append, List.drop_succ_cons, List.drop_zero]
theorem index_none {ms : List MemT} {id : Int} : ∀ {n f : Nat}, n = ms.length - f → indexG ms id f < 0 → ∀ i, f ≤ i → i < ms.length → (ms.getD i default).id ≠ id
  | 0, f, hn, _, i, h1, h2 => by omega
  | n + 1, f, hn, h, i, h1, h2 => by
    rw [index_step (by omega)] at h
    split at h
    · omega
    · rename_i hne
      by_cases e : i = f
      · subst e; exact hne
      · exact index_none (n := n) (f := f + 1) (by omega) h i (by omega) h2
def Uniq (ms : List MemT) : Prop := ∀ i j, i < ms.length → j < ms.length → (ms.getD i default).id = (ms.getD j default).id → i = j
theorem index_at {ms : List MemT} {f i : Nat} (hu : Uniq ms) (hf : f ≤ i) (hi : i < ms.length) : indexG ms (ms.getD i default).id f = i := by
  rcases index_range (ms := ms) (id := (ms.getD i default).id) (f := f) with h | ⟨j, h1, h2, h3, h4⟩
  · exact absurd rfl (index_none rfl (by omega) i hf hi)
  · rw [h1, hu j i h3 hi h4]
theorem uniq_set {ms : List MemT} {p : Nat} {x : MemT} (hu : Uniq ms) (hx : x.id = (ms.getD p default).id) : Uniq (ms.set p x) := by
  have e : ∀ i, i < ms.length → ((ms.set p x).getD i default).id = (ms.getD i default).id := by
    intro i hi
    by_cases h : i = p
    · subst h; rw [getD_set_self hi, hx]
    · rw [getD_set_ne h]
  intro i j hi hj h
  rw [List.length_set] at hi hj
  rw [e i hi, e j hj] at h
  exact hu i j hi hj h
theorem uniq_snoc {ms : List MemT} {x : MemT} (hu : Uniq ms) (hx : indexG ms x.id 0 < 0) : Uniq (ms ++ [x]) := by
  have hn := index_none rfl hx
  have e1 : ∀ i, i < ms.length → (ms ++ [x]).getD i default = ms.getD i default := fun i hi => getD_append_left hi
  have e2 : (ms ++ [x]).getD ms.length default = x := by rw [getD_append_right (by omega)]; simp
  intro i j hi hj h
  simp only [List.length_append, List.length_singleton] at hi hj
  by_cases h1 : i < ms.length
  · by_cases h2 : j < ms.length
    · rw [e1 i h1, e1 j h2] at h; exact hu i j h1 h2 h
    · have : j = ms.length := by omega
      subst this
      rw [e1 i h1, e2] at h
      exact absurd h (hn i (by omega) h1)
  · have : i = ms.length := by omega
    subst this
    by_cases h2 : j < ms.length
    · rw [e1 j h2, e2] at h
      exact absurd h.symm (hn j (by omega) h2)
    · omega
theorem getD_cutM {ms : List MemT} {p i : Nat} (hp : p < ms.length) (hi : i + 1 < ms.length) : (ms.take p ++ ms.drop (p + 1)).getD i default = ms.getD (if i < p then i else i + 1) default := by
  split
  · rename_i h
    rw [getD_append_left (by simp; omega)]
    simp [List.getD, List.getElem?_take, h]
  · rename_i h
    rw [getD_append_right (by simp; omega)]
    simp only [List.length_take, List.getD, List.getElem?_drop]
    congr 2
    omega
theorem uniq_cut {ms : List MemT} {p : Nat} (hu : Uniq ms) (hp : p < ms.length) : Uniq (ms.take p ++ ms.drop (p + 1)) := by
  intro i j hi hj h
  simp only [List.length_append, List.length_take, List.length_drop] at hi hj
  rw [getD_cutM hp (by omega), getD_cutM hp (by omega)] at h
  have := hu _ _ (by split <;> omega) (by split <;> omega) h
  split at this <;> split at this <;> omega
theorem getD_mem' {ms : List MemT} {i : Nat} (h : i < ms.length) : ms.getD i default ∈ ms := getD_mem h
theorem mem_getD {ms : List MemT} {m : MemT} (h : m ∈ ms) : ∃ i, i < ms.length ∧ ms.getD i default = m := by
  obtain ⟨i, hi, rfl⟩ := List.getElem_of_mem h
  exact ⟨i, hi, by simp [List.getD, hi]⟩
def dismissG (g : GrpT) (id : Int) : GrpT × Int :=
  if (ownerG g).2 = false then (noGrp, 14) else if g.opn = false then (noGrp, 7) else if indexG g.mem id 1 < 0 then (noGrp, 6)
  else ({ g with mem := g.mem.take (indexG g.mem id 1).toNat ++ g.mem.drop ((indexG g.mem id 1).toNat + 1) }, 0)
theorem dismiss_ok {g : GrpT} {id : Int} (h1 : (ownerG g).2 = true) (h2 : g.opn = true) (h3 : ¬ indexG g.mem id 1 < 0) : dismissG g id = ({ g with mem := g.mem.take (indexG g.mem id 1).toNat ++ g.mem.drop ((indexG g.mem id 1).toNat + 1) }, 0) := by
  unfold dismissG
  rw [if_neg (by simp [h1]), if_neg (by simp [h2]), if_neg h3]
abbrev own0 (g : GrpT) : MemT := g.mem.getD 0 default
/-- sound and open -/
structure SndG (g : GrpT) : Prop where
  n1 : 1 ≤ g.mem.length
  n5 : g.mem.length ≤ 5
  num : numOk g.num = true
  opn : g.opn = true
  uniq : Uniq g.mem
  all : ∀ m ∈ g.mem, numOk m.id = true ∧ validC m.copy = true ∧ SmallC m.copy
  beh : ∀ i, 0 < i → i < g.mem.length → (g.mem.getD i default).up = true → Behind (g.mem.getD i default).copy (own0 g).copy
theorem SndG.at {g : GrpT} (h : SndG g) {i : Nat} (hi : i < g.mem.length) : numOk (g.mem.getD i default).id = true ∧ validC (g.mem.getD i default).copy = true ∧ SmallC (g.mem.getD i default).copy := h.all _ (getD_mem hi)
theorem valid_i64 {c : CopyT} (h : validC c = true) : 0 ≤ c.sv ∧ c.sv ≤ 1099511627776 ∧ 0 ≤ c.se ∧ c.se ≤ 1099511627776 ∧ c.pend.length ≤ 64 := by
  obtain ⟨_, h2, _, _, h5, _⟩ := valid_head h
  have := stamp_of.1 h2
  omega
theorem SndG.b {g : GrpT} (h : SndG g) : GrpB 1000 g := ⟨by have := h.n5; omega, fun m hm => ⟨(h.all m hm).2.2, by have := valid_i64 (h.all m hm).2.1; unfold I64; omega⟩⟩
/-- a member's copy is replaced -/
theorem snd_set {g : GrpT} {p : Nat} {x : MemT} (h : SndG g) (hp : p < g.mem.length) (hid : x.id = (g.mem.getD p default).id) (hv : validC x.copy = true) (hs : SmallC x.copy)
    (hb : ∀ i, 0 < i → i < g.mem.length → ((g.mem.set p x).getD i default).up = true → Behind ((g.mem.set p x).getD i default).copy ((g.mem.set p x).getD 0 default).copy) : SndG { g with mem := g.mem.set p x } := by
  refine ⟨by simpa using h.n1, by simpa using h.n5, h.num, h.opn, uniq_set h.uniq hid, ?_, ?_⟩
  · intro m hm
    rcases List.mem_or_eq_of_mem_set hm with hm | rfl
    · exact h.all m hm
    · exact ⟨by rw [hid]; exact (h.at hp).1, hv, hs⟩
  · intro i h0 hi hu
    rw [List.length_set] at hi
    exact hb i h0 hi hu
theorem own_of {g : GrpT} (h : (ownerG g).2 = true) : (ownerG g).1 = own0 g ∧ (own0 g).up = true := ⟨(owner_mem h).2.2, (owner_mem h).2.1⟩
theorem owner_is {g : GrpT} (h : SndG g) (hu : (own0 g).up = true) : ownerG g = (own0 g, true) := by
  have := h.n1
  unfold ownerG
  rw [if_neg (by omega), if_pos hu]
theorem propose_inv {g : GrpT} {w : Wr} (he : (proposeG g w).2 = 0) : (ownerG g).2 = true ∧ (appendC (ownerG g).1.copy w).2 = 0 ∧ (proposeG g w).1 = withG g (appendC (ownerG g).1.copy w).1 := by
  unfold proposeG at he ⊢
  split at he
  · simp at he
  · rename_i h1
    split at he
    · simp at he
    · rename_i h2
      split at he
      · rename_i h3; exact absurd he h3
      · rename_i h3
        rw [if_neg h1, if_neg h2, if_neg h3]
        exact ⟨by simpa using h1, by simpa using h3, rfl⟩
/-- what a step keeps of the owner -/
structure KeepO (a b : MemT) : Prop where
  id : b.id = a.id
  up : b.up = a.up
  se : b.copy.se = a.copy.se
  sv : b.copy.sv = a.copy.sv
  rows : b.copy.rows = a.copy.rows
  rng : b.copy.rng = a.copy.rng
theorem KeepO.refl (a : MemT) : KeepO a a := ⟨rfl, rfl, rfl, rfl, rfl, rfl⟩
theorem snd_propose {g : GrpT} {w : Wr} (h : SndG g) (he : (proposeG g w).2 = 0) : SndG (proposeG g w).1 ∧ KeepO (own0 g) (own0 (proposeG g w).1) ∧ (own0 (proposeG g w).1).copy.pend = (own0 g).copy.pend ++ [w] := by
  obtain ⟨h1, h2, h3⟩ := propose_inv he
  have ho := own_of h1
  rw [ho.1] at h2 h3
  obtain ⟨e, _, hv, _⟩ := append_okC h2
  have hn := h.n1
  rw [h3, e]
  have h0 := h.at (i := 0) (by omega)
  have e0 : own0 (withG g { (own0 g).copy with pend := (own0 g).copy.pend ++ [w] }) = { own0 g with copy := { (own0 g).copy with pend := (own0 g).copy.pend ++ [w] } } := getD_set_self (by omega)
  refine ⟨?_, ?_, ?_⟩
  · refine snd_set h (by omega) rfl hv (smallC_of h0.2.2 hv rfl rfl) ?_
    intro i hi0 hi hu
    rw [getD_set_ne (by omega)] at hu
    rw [getD_set_ne (by omega), getD_set_self (by omega)]
    exact (h.beh i hi0 hi hu).append w
  · rw [e0]; exact ⟨rfl, rfl, rfl, rfl, rfl, rfl⟩
  · rw [e0]
theorem replicate_inv {g : GrpT} {id : Int} (he : (replicateG g id).2 = 0) : (ownerG g).2 = true ∧ ¬ indexG g.mem id 1 < 0 ∧ (g.mem.getD (indexG g.mem id 1).toNat default).up = true := by
  unfold replicateG at he
  split at he
  · simp at he
  · rename_i h1
    split at he
    · simp at he
    · rename_i h2
      split at he
      · simp at he
      · rename_i h3
        exact ⟨by simpa using h1, h2, by simpa using h3⟩
theorem snd_replicate {g : GrpT} {id : Int} (h : SndG g) (he : (replicateG g id).2 = 0) : SndG (replicateG g id).1 ∧ own0 (replicateG g id).1 = own0 g := by
  obtain ⟨h1, h2, h3⟩ := replicate_inv he
  obtain ⟨i1, i2, i3⟩ := index_nat h2
  have ho := own_of h1
  rw [replicate_ok h1 h2 h3, ho.1]
  have hn := h.n1
  have h0 := h.at (i := 0) (by omega)
  have e0 : ∀ x, (g.mem.set (indexG g.mem id 1).toNat x).getD 0 default = own0 g := fun x => getD_set_ne (by omega)
  refine ⟨?_, e0 _⟩
  refine snd_set h i1 rfl h0.2.1 h0.2.2 ?_
  intro i hi0 hi hu
  rw [e0]
  by_cases hi2 : i = (indexG g.mem id 1).toNat
  · subst hi2
    rw [getD_set_self i1]
    exact Behind.refl _
  · rw [getD_set_ne hi2] at hu ⊢
    exact h.beh i hi0 hi hu
theorem crash_inv {g : GrpT} {id : Int} (he : (crashG g id).2 = 0) : ¬ indexG g.mem id 0 < 0 ∧ (g.mem.getD (indexG g.mem id 0).toNat default).up = true ∧ (crashG g id).1 = { g with mem := g.mem.set (indexG g.mem id 0).toNat { g.mem.getD (indexG g.mem id 0).toNat default with up := false } } := by
  unfold crashG at he ⊢
  split at he
  · simp at he
  · rename_i h2
    split at he
    · simp at he
    · rename_i h3
      rw [if_neg h2, if_neg h3]
      exact ⟨h2, by simpa using h3, rfl⟩
theorem snd_crash {g : GrpT} {id : Int} (h : SndG g) (he : (crashG g id).2 = 0) : SndG (crashG g id).1 ∧ (own0 (crashG g id).1).copy = (own0 g).copy ∧ (own0 (crashG g id).1).id = (own0 g).id := by
  obtain ⟨h2, h3, h4⟩ := crash_inv he
  obtain ⟨i1, i2, i3⟩ := index_nat h2
  rw [h4]
  have h0 := h.at i1
  have e0 : ((g.mem.set (indexG g.mem id 0).toNat { g.mem.getD (indexG g.mem id 0).toNat default with up := false }).getD 0 default).copy = (own0 g).copy ∧
      ((g.mem.set (indexG g.mem id 0).toNat { g.mem.getD (indexG g.mem id 0).toNat default with up := false }).getD 0 default).id = (own0 g).id := by
    by_cases e : 0 = (indexG g.mem id 0).toNat
    · rw [← e] at i1 ⊢; rw [getD_set_self i1]; exact ⟨rfl, rfl⟩
    · rw [getD_set_ne e]; exact ⟨rfl, rfl⟩
  refine ⟨?_, e0⟩
  refine snd_set h i1 rfl h0.2.1 h0.2.2 ?_
  intro i hi0 hi hu
  rw [e0.1]
  by_cases hi2 : i = (indexG g.mem id 0).toNat
  · subst hi2
    rw [getD_set_self i1] at hu
    cases hu
  · rw [getD_set_ne hi2] at hu ⊢
    exact h.beh i hi0 hi hu
theorem recruit_inv {g : GrpT} {id : Int} (he : (recruitG g id).2 = 0) : (ownerG g).2 = true ∧ numOk id = true ∧ indexG g.mem id 0 < 0 ∧ g.mem.length < 5 ∧ (recruitG g id).1 = { g with mem := g.mem ++ [⟨id, true, (ownerG g).1.copy⟩] } := by
  unfold recruitG at he ⊢
  split at he
  · simp at he
  · rename_i h1
    split at he
    · simp at he
    · rename_i h2
      split at he
      · simp at he
      · rename_i h3
        split at he
        · simp at he
        · rename_i h4
          split at he
          · simp at he
          · rename_i h5
            rw [if_neg h1, if_neg h2, if_neg h3, if_neg h4, if_neg h5]
            exact ⟨by simpa using h1, by simpa using h3, by omega, by omega, rfl⟩
theorem snd_recruit {g : GrpT} {id : Int} (h : SndG g) (he : (recruitG g id).2 = 0) : SndG (recruitG g id).1 ∧ own0 (recruitG g id).1 = own0 g := by
  obtain ⟨h1, h2, h3, h4, h5⟩ := recruit_inv he
  have ho := own_of h1
  have hn := h.n1
  have h0 := h.at (i := 0) (by omega)
  rw [h5, ho.1]
  have e1 : ∀ i, i < g.mem.length → (g.mem ++ [(⟨id, true, (own0 g).copy⟩ : MemT)]).getD i default = g.mem.getD i default := fun i hi => getD_append_left hi
  have e2 : (g.mem ++ [(⟨id, true, (own0 g).copy⟩ : MemT)]).getD g.mem.length default = ⟨id, true, (own0 g).copy⟩ := by rw [getD_append_right (by omega)]; simp
  refine ⟨SndG.mk (by simp) (by simp; omega) h.num h.opn (uniq_snoc h.uniq h3) ?_ ?_, e1 0 (by omega)⟩
  · intro m hm
    rcases List.mem_append.1 hm with hm | hm
    · exact h.all m hm
    · rw [List.mem_singleton.1 hm]; exact ⟨h2, h0.2⟩
  · intro i hi0 hi hu
    simp only [List.length_append, List.length_singleton] at hi
    simp only [own0]
    rw [e1 0 (by omega)]
    by_cases hi2 : i < g.mem.length
    · simp only [e1 i hi2] at hu ⊢
      exact h.beh i hi0 hi2 hu
    · have : i = g.mem.length := by omega
      subst this
      rw [e2]
      exact Behind.refl _
theorem dismiss_inv {g : GrpT} {id : Int} (he : (dismissG g id).2 = 0) : (ownerG g).2 = true ∧ ¬ indexG g.mem id 1 < 0 ∧ (dismissG g id).1 = { g with mem := g.mem.take (indexG g.mem id 1).toNat ++ g.mem.drop ((indexG g.mem id 1).toNat + 1) } := by
  unfold dismissG at he ⊢
  split at he
  · simp at he
  · rename_i h1
    split at he
    · simp at he
    · rename_i h2
      split at he
      · simp at he
      · rename_i h3
        rw [if_neg h1, if_neg h2, if_neg h3]
        exact ⟨by simpa using h1, h3, rfl⟩
theorem snd_dismiss {g : GrpT} {id : Int} (h : SndG g) (he : (dismissG g id).2 = 0) : SndG (dismissG g id).1 ∧ own0 (dismissG g id).1 = own0 g := by
  obtain ⟨h1, h2, h3⟩ := dismiss_inv he
  obtain ⟨i1, i2, i3⟩ := index_nat h2
  rw [h3]
  have hl : (g.mem.take (indexG g.mem id 1).toNat ++ g.mem.drop ((indexG g.mem id 1).toNat + 1)).length + 1 = g.mem.length := by
    simp only [List.length_append, List.length_take, List.length_drop]; omega
  have hn := h.n5
  have e0 : (g.mem.take (indexG g.mem id 1).toNat ++ g.mem.drop ((indexG g.mem id 1).toNat + 1)).getD 0 default = own0 g := by
    rw [getD_cutM i1 (by omega), if_pos (by omega)]
  refine ⟨⟨by simp only; omega, by simp only; omega, h.num, h.opn, uniq_cut h.uniq i1, ?_, ?_⟩, e0⟩
  · intro m hm
    rcases List.mem_append.1 hm with hm | hm
    · exact h.all m (List.mem_of_mem_take hm)
    · exact h.all m (List.mem_of_mem_drop hm)
  · intro i hi0 hi hu
    simp only at hi hu ⊢
    simp only [own0]
    rw [e0]
    rw [getD_cutM i1 (by omega)] at hu ⊢
    exact h.beh _ (by split <;> omega) (by split <;> omega) hu
theorem wrap_small {n : Int} (h1 : 0 ≤ n) (h2 : n ≤ 9000000000000) : IntKind.i64.wrap n = n := wrap_of (by omega) (by omega)
theorem has_true {g : GrpT} {i : Nat} (h : SndG g) (h0 : 0 < i) (hi : i < g.mem.length) (hh : hasG g (g.mem.getD i default).id = true) : (own0 g).copy.sv < (g.mem.getD i default).copy.sv + ((g.mem.getD i default).copy.pend.length : Int) := by
  have e := index_at (f := 1) h.uniq (by omega) hi
  have hv := valid_i64 (h.at hi).2.1
  simp only [hasG, e, Bool.and_eq_true, decide_eq_true_eq, Int.toNat_natCast] at hh
  obtain ⟨h1, _, _, _, _, h2⟩ := hh
  rw [(own_of h1).1, wrap_small (by omega) (by omega)] at h2
  exact h2
theorem any_false {g : GrpT} (h : anyG g (g.mem.drop 1) = false) {i : Nat} (h0 : 0 < i) (hi : i < g.mem.length) (hu : (g.mem.getD i default).up = true) : hasG g (g.mem.getD i default).id = true := by
  unfold anyG at h
  rw [List.any_eq_false] at h
  have hm : g.mem.getD i default ∈ g.mem.drop 1 := by
    have e : g.mem.getD i default = (g.mem.drop 1).getD (i - 1) default := by
      simp only [List.getD, List.getElem?_drop]
      rw [show 1 + (i - 1) = i by omega]
    rw [e]
    exact getD_mem (by simp; omega)
  have := h _ hm
  rw [hu, Bool.true_and] at this
  simpa [-List.getD_eq_getElem?_getD] using this
theorem commit_inv {g : GrpT} (he : (commitG g).2 = 0) : (ownerG g).2 = true ∧ anyG g (g.mem.drop 1) = false ∧ (commitC (ownerG g).1.copy).2 = 0 ∧ (commitG g).1 = (withG g (commitC (ownerG g).1.copy).1, (ownerG g).1.copy.pend.getD 0 default) := by
  unfold commitG at he ⊢
  split at he
  · simp at he
  · rename_i h1
    split at he
    · simp at he
    · rename_i h2
      split at he
      · simp at he
      · rename_i h3
        split at he
        · rename_i h4; exact absurd he h4
        · rename_i h4
          rw [if_neg h1, if_neg h2, if_neg h3, if_neg h4]
          exact ⟨by simpa using h1, by simpa using h3, by simpa using h4, rfl⟩
theorem snd_commit {g : GrpT} (h : SndG g) (he : (commitG g).2 = 0) : SndG (commitG g).1.1 ∧ (own0 (commitG g).1.1).copy = (commitC (own0 g).copy).1 ∧ (own0 (commitG g).1.1).id = (own0 g).id ∧ (own0 (commitG g).1.1).up = (own0 g).up ∧ (commitG g).1.2 = (own0 g).copy.pend.getD 0 default ∧ (commitC (own0 g).copy).2 = 0 := by
  obtain ⟨h1, h2, h3, h4⟩ := commit_inv he
  have ho := own_of h1
  rw [ho.1] at h3 h4
  obtain ⟨e, _, _, _, _, hv⟩ := commit_okC h3
  have hn := h.n1
  have h0 := h.at (i := 0) (by omega)
  rw [h4]
  have e0 : own0 (withG g (commitC (own0 g).copy).1) = { own0 g with copy := (commitC (own0 g).copy).1 } := getD_set_self (by omega)
  refine ⟨?_, by rw [e0], by rw [e0], by rw [e0], rfl, h3⟩
  refine snd_set h (by omega) rfl hv (smallC_of h0.2.2 hv (by rw [e]) (by rw [e])) ?_
  intro i hi0 hi hu
  rw [getD_set_ne (by omega)] at hu
  rw [getD_set_ne (by omega), getD_set_self (by omega)]
  exact (h.beh i hi0 hi hu).commit h3 (has_true h hi0 hi (any_false h2 hi0 hi hu))
/-- what a follower that is up contains -/
theorem snd_has {g : GrpT} (h : SndG g) {i : Nat} (hi : i < g.mem.length) (hu : (g.mem.getD i default).up = true) : (g.mem.getD i default).copy.se = (own0 g).copy.se ∧ (own0 g).copy.sv ≤ (g.mem.getD i default).copy.sv + ((g.mem.getD i default).copy.pend.length : Int) := by
  by_cases h0 : i = 0
  · subst h0; exact ⟨rfl, by show (g.mem.getD 0 default).copy.sv ≤ _; omega⟩
  · have := h.beh i (by omega) hi hu
    obtain ⟨d, h1, h2, _⟩ := this.ex
    exact ⟨this.se, by omega⟩
theorem snd_new {c : CopyT} {n : Nat} (h1 : 1 ≤ n) (h5 : n ≤ 5) (hv : validC c = true) (hs : SmallC c) : SndG ⟨1, true, memG c n⟩ := by
  have hl := memG_len (c := c) (n := n)
  refine ⟨by simp only; omega, by simp only; omega, rfl, rfl, ?_, ?_, ?_⟩
  · intro i j hi hj h
    simp only [hl] at hi hj
    rw [memG_get hi, memG_get hj] at h
    simp only at h
    omega
  · intro m hm
    obtain ⟨i, hi, rfl⟩ := mem_getD hm
    rw [hl] at hi
    rw [memG_get hi]
    exact ⟨by simp [numOk]; omega, hv, hs⟩
  · intro i h0 hi _
    simp only [own0, hl] at *
    rw [memG_get hi, memG_get (by omega)]
    exact Behind.refl _
/-- a copy after some of its writes -/
def stepC (c : CopyT) (k : Nat) : CopyT := { c with rows := (goF c.rows (c.pend.take k)).1, pend := c.pend.drop k, sv := c.sv + k }
theorem stepC_zero {c : CopyT} : stepC c 0 = c := by simp [stepC, goF]
theorem step_valid {c : CopyT} (hv : validC c = true) : ∀ {k : Nat}, k ≤ c.pend.length → c.sv + k ≤ 1099511627776 → validC (stepC c k) = true ∧ (goF c.rows (c.pend.take k)).2 = 0
  | 0, _, _ => by rw [stepC_zero]; exact ⟨hv, rfl⟩
  | k + 1, hk, hs => by
    obtain ⟨h1, h2⟩ := step_valid hv (k := k) (by omega) (by omega)
    have hp : (stepC c k).pend.length ≠ 0 := by simp only [stepC, List.length_drop]; omega
    have hsv : (stepC c k).sv ≠ 1099511627776 := by simp only [stepC]; omega
    obtain ⟨h3, h4⟩ := commit_valid h1 hp hsv
    have e1 : (stepC c k).pend.getD 0 default = c.pend.getD k default := by simp [stepC, List.getD]
    rw [e1] at h3 h4
    have e2 : c.pend.take (k + 1) = c.pend.take k ++ [c.pend.getD k default] := take_succ' (by omega)
    have e3 : goF c.rows (c.pend.take (k + 1)) = ((doF (goF c.rows (c.pend.take k)).1 (c.pend.getD k default)).1, 0) := by
      rw [e2, goF_app, if_pos h2]
      have h3' : (doF (goF c.rows (c.pend.take k)).1 (c.pend.getD k default)).2 = 0 := h3
      simp only [goF, h3', if_true]
    refine ⟨?_, by rw [e3]⟩
    have : stepC c (k + 1) = { stepC c k with rows := (doF (stepC c k).rows (c.pend.getD k default)).1, pend := (stepC c k).pend.drop 1, sv := (stepC c k).sv + 1 } := by
      simp only [stepC, e3, List.drop_drop, CopyT.mk.injEq, true_and, and_true]
      omega
    rw [this]
    exact h4
theorem step_commit {c : CopyT} (hv : validC c = true) {k : Nat} (hk : k < c.pend.length) (hs : c.sv + k < 1099511627776) : commitC (stepC c k) = (stepC c (k + 1), 0) := by
  obtain ⟨h1, h2⟩ := step_valid hv (k := k) (by omega) (by omega)
  have hp : (stepC c k).pend.length ≠ 0 := by simp only [stepC, List.length_drop]; omega
  have hsv : (stepC c k).sv ≠ 1099511627776 := by simp only [stepC]; omega
  obtain ⟨h3, h4⟩ := commit_valid h1 hp hsv
  have e1 : (stepC c k).pend.getD 0 default = c.pend.getD k default := by simp [stepC, List.getD]
  have e2 : c.pend.take (k + 1) = c.pend.take k ++ [c.pend.getD k default] := take_succ' (by omega)
  rw [e1] at h3
  have h3' : (doF (goF c.rows (c.pend.take k)).1 (c.pend.getD k default)).2 = 0 := h3
  have e3 : goF c.rows (c.pend.take (k + 1)) = ((doF (goF c.rows (c.pend.take k)).1 (c.pend.getD k default)).1, 0) := by
    rw [e2, goF_app, if_pos h2]
    simp only [goF, h3', if_true]
  unfold commitC
  rw [if_neg (by simp [h1]), if_neg hp, if_neg hsv, e1]
  simp only [stepC, e3, List.drop_drop, Prod.mk.injEq, CopyT.mk.injEq, true_and, and_true]
  omega

/-- what is behind, written out -/
theorem behind_eq {c o : CopyT} (h : Behind c o) : ∃ (d : Nat) (t : List Wr), d ≤ c.pend.length ∧ (goF c.rows (c.pend.take d)).2 = 0 ∧ o = { c with sv := c.sv + d, rows := (goF c.rows (c.pend.take d)).1, pend := c.pend.drop d ++ t } := by
  obtain ⟨d, h1, h2, h3, t, h4⟩ := h.ex
  refine ⟨d, t, h1, by rw [h3], ?_⟩
  have hr := h.rng
  simp only [CopyT.rng, Prod.mk.injEq] at hr
  obtain ⟨r1, r2, r3, r4⟩ := hr
  obtain ⟨lk, lt, hk, ht, se, sv, rows, pend, out, inn, took, src⟩ := o
  simp only at *
  rw [h3]
  simp only [CopyT.mk.injEq]
  exact ⟨r1.symm, r2.symm, r3.symm, r4.symm, h.se.symm, h2, trivial, h4, h.out.symm, h.inn.symm, h.took.symm, h.src.symm⟩
theorem checks_at {g : GrpT} (h : SndG g) {i : Nat} (hi : i < g.mem.length) : indexG g.mem (g.mem.getD i default).id 0 = i := index_at h.uniq (by omega) hi

end Go.Sx

namespace Go.Sx
open Go
set_option linter.unusedVariables false
set_option linter.unusedSimpArgs false

/-! New -/
def dupL (ids : List Int) (j : Nat) : Bool := (List.range ids.length).any fun i => decide (j ≤ i) && (ids.take i).contains (ids.getD i default)
theorem dup_step {ids : List Int} {j : Nat} (h : j < ids.length) : dupL ids j = ((ids.take j).contains (ids.getD j default) || dupL ids (j + 1)) := by
  rw [Bool.eq_iff_iff]
  simp only [dupL, List.any_eq_true, List.mem_range, Bool.and_eq_true, decide_eq_true_eq, Bool.or_eq_true]
  constructor
  · rintro ⟨i, h1, h2, h3⟩
    by_cases e : i = j
    · subst e; exact .inl h3
    · exact .inr ⟨i, h1, by omega, h3⟩
  · rintro (h1 | ⟨i, h1, h2, h3⟩)
    · exact ⟨j, h, by omega, h1⟩
    · exact ⟨i, h1, by omega, h3⟩
theorem dup_end {ids : List Int} {j : Nat} (h : ids.length ≤ j) : dupL ids j = false := by
  cases e : dupL ids j with
  | false => rfl
  | true =>
    simp only [dupL, List.any_eq_true, List.mem_range, Bool.and_eq_true, decide_eq_true_eq] at e
    obtain ⟨i, h1, h2, _⟩ := e
    omega
def memL' (c : CopyT) (ids : List Int) : List MemT := ids.map fun i => ⟨i, true, c⟩
theorem memL_len {c : CopyT} {ids : List Int} : (memL' c ids).length = ids.length := by simp [memL']
theorem memL_take {c : CopyT} {ids : List Int} {j : Nat} (h : j < ids.length) : memL' c (ids.take (j + 1)) = memL' c (ids.take j) ++ [⟨ids.getD j default, true, c⟩] := by
  rw [take_succ' h]; simp [memL']
theorem memL_index {c : CopyT} {id : Int} : ∀ {ids : List Int} {f : Nat}, (idxG id (memL' c ids) f < 0 ↔ ids.contains id = false)
  | [], f => by simp [memL', idxG]
  | x :: ids, f => by
    have ih := memL_index (c := c) (id := id) (ids := ids) (f := f + 1)
    simp only [memL', List.map_cons, idxG, List.contains_cons] at ih ⊢
    by_cases h : x = id
    · subst h; simp
    · rw [if_neg h, ih]
      have : (id == x) = false := by simp [Ne.symm h]
      simp [this]
theorem memL_index0 {c : CopyT} {id : Int} {ids : List Int} : (indexG (memL' c ids) id 0 < 0 ↔ ids.contains id = false) := by
  unfold indexG; rw [List.drop_zero]; exact memL_index
def newG (n : Int) (ids : List Int) (c : CopyT) : GrpT × Int :=
  if numOk n = false ∨ ids.length = 0 ∨ validC c = false ∨ ids.all numOk = false then (noGrp, 1) else if ids.length > 5 then (noGrp, 3) else if dupL ids 0 = true then (noGrp, 5) else (⟨n, true, memL' c ids⟩, 0)
theorem newG_bad {n : Int} {ids : List Int} {c : CopyT} (h : numOk n = false ∨ ids.length = 0 ∨ validC c = false ∨ ids.all numOk = false) : newG n ids c = (noGrp, 1) := by rw [newG, if_pos h]
theorem newG_long {n : Int} {ids : List Int} {c : CopyT} (h1 : numOk n = true) (h2 : validC c = true) (h3 : ids.all numOk = true) (h : ids.length > 5) : newG n ids c = (noGrp, 3) := by
  rw [newG, if_neg (by simp only [h1, h2, h3, Bool.true_eq_false, or_false, false_or]; omega), if_pos h]
theorem newG_dup {n : Int} {ids : List Int} {c : CopyT} (h1 : numOk n = true) (h2 : validC c = true) (h3 : ids.all numOk = true) (h4 : ids.length ≠ 0) (h : ¬ ids.length > 5) (hd : dupL ids 0 = true) : newG n ids c = (noGrp, 5) := by
  rw [newG, if_neg (by simp only [h1, h2, h3, Bool.true_eq_false, or_false, false_or]; omega), if_neg h, if_pos hd]
theorem newG_ok {n : Int} {ids : List Int} {c : CopyT} (h1 : numOk n = true) (h2 : validC c = true) (h3 : ids.all numOk = true) (h4 : ids.length ≠ 0) (h : ¬ ids.length > 5) (hd : dupL ids 0 = false) : newG n ids c = (⟨n, true, memL' c ids⟩, 0) := by
  rw [newG, if_neg (by simp only [h1, h2, h3, Bool.true_eq_false, or_false, false_or]; omega), if_neg h, if_neg (by rw [hd]; simp)]
theorem all_step {ids : List Int} {i : Nat} (h : i < ids.length) : (ids.take (i + 1)).all numOk = ((ids.take i).all numOk && numOk (ids.getD i default)) := by
  rw [take_succ' h]; simp
theorem all_bad {ids : List Int} {i : Nat} (h : i < ids.length) (hb : numOk (ids.getD i default) = false) : ids.all numOk = false := all_false h hb
theorem new_grpb {n : Int} {ids : List Int} {c : CopyT} (h : SmallC c) (hv : I64 c.sv) : GrpB 1000 (newG n ids c).1 := by
  have h0 : GrpB 1000 noGrp := ⟨by simp [noGrp], by simp [noGrp]⟩
  unfold newG
  split
  · exact h0
  · split
    · exact h0
    · split
      · exact h0
      · refine ⟨by simp only [memL_len]; omega, ?_⟩
        intro m hm
        simp only [memL', List.mem_map] at hm
        obtain ⟨i, _, rfl⟩ := hm
        exact ⟨h, hv⟩
/-! groups compared -/
def sameM (a b : MemT) : Bool := a.id == b.id && (a.up == b.up && sameC a.copy b.copy)
theorem sameM_refl (a : MemT) : sameM a a = true := by simp [sameM, sameC_refl]

/-! Live -/
def liveL (ms : List MemT) : List Int := (ms.filter (·.up)).map (·.id)
theorem live_take {ms : List MemT} {i : Nat} (h : i < ms.length) : liveL (ms.take (i + 1)) = liveL (ms.take i) ++ (if (ms.getD i default).up then [(ms.getD i default).id] else []) := by
  rw [take_succ' h]
  simp only [liveL, List.filter_append, List.map_append]
  congr 1
  cases e : (ms.getD i default).up <;> simp [-List.getD_eq_getElem?_getD, e]

/-! takeovers (chapter 26) -/
def renewL : Int → List (Int × Int) → Int × Int
  | m, [] => if m = 1099511627776 then (0, 16) else (m + 1, 0)
  | m, s :: l => if stampOk s.1 s.2 then renewL (if s.1 > m then s.1 else m) l else (0, 1)
def renewAt (l : List (Int × Int)) (i : Nat) (m : Int) : Int × Int := renewL m (l.drop i)
theorem renew_step {l : List (Int × Int)} {i : Nat} {m : Int} (h : i < l.length) : renewAt l i m = if stampOk (l.getD i default).1 (l.getD i default).2 then renewAt l (i + 1) (if (l.getD i default).1 > m then (l.getD i default).1 else m) else (0, 1) := by
  unfold renewAt
  rw [drop_cons' h, renewL]
theorem renew_end {l : List (Int × Int)} {i : Nat} {m : Int} (h : l.length ≤ i) : renewAt l i m = if m = 1099511627776 then (0, 16) else (m + 1, 0) := by
  unfold renewAt
  rw [List.drop_eq_nil_of_le h, renewL]
def renewF (l : List (Int × Int)) : Int × Int := renewAt l 0 0
theorem renew_one {e v : Int} (h : stampOk e v = true) (he : e < 1099511627776) : renewF [(e, v)] = (e + 1, 0) := by
  have := stamp_of.1 h
  simp only [renewF, renewAt, List.drop_zero, renewL, h, if_true]
  have hm : (if e > 0 then e else 0) = e := by split <;> omega
  rw [hm, if_neg (by omega)]
def closeG (g : GrpT) (c : CopyT) : GrpT := { withG g c with opn := false }
def changeG (g : GrpT) (c : CopyT) (l : List (Int × Int)) : GrpT × Int :=
  if (ownerG g).2 = false then (noGrp, 14) else if g.opn = false then (noGrp, 7) else if validC c = false then (noGrp, 1)
  else if ¬ (renewF (((ownerG g).1.copy.se, (ownerG g).1.copy.sv) :: l)).2 = 0 then (noGrp, (renewF (((ownerG g).1.copy.se, (ownerG g).1.copy.sv) :: l)).2)
  else (closeG g { c with se := (renewF (((ownerG g).1.copy.se, (ownerG g).1.copy.sv) :: l)).1, sv := 0 }, 0)
def heirL : List MemT → Nat → Int
  | [], _ => -1
  | m :: ms, i => if m.up then i else heirL ms (i + 1)
def heirG (ms : List MemT) (f : Nat) : Int := heirL (ms.drop f) f
theorem heir_step {ms : List MemT} {i : Nat} (h : i < ms.length) : heirG ms i = if (ms.getD i default).up then (i : Int) else heirG ms (i + 1) := by
  unfold heirG
  rw [drop_cons' h, heirL]
theorem heir_end {ms : List MemT} {i : Nat} (h : ms.length ≤ i) : heirG ms i = -1 := by
  unfold heirG
  rw [List.drop_eq_nil_of_le h, heirL]
theorem heir_range {ms : List MemT} : ∀ {n f : Nat}, n = ms.length - f → heirG ms f = -1 ∨ ∃ i, heirG ms f = (i : Nat) ∧ f ≤ i ∧ i < ms.length ∧ (ms.getD i default).up = true ∧ ∀ j, f ≤ j → j < i → (ms.getD j default).up = false
  | 0, f, hn => .inl (heir_end (by omega))
  | n + 1, f, hn => by
    rw [heir_step (by omega)]
    split
    · rename_i h; exact .inr ⟨f, rfl, by omega, by omega, h, fun j h1 h2 => by omega⟩
    · rename_i h
      rcases heir_range (ms := ms) (n := n) (f := f + 1) (by omega) with h1 | ⟨i, h1, h2, h3, h4, h5⟩
      · exact .inl h1
      · refine .inr ⟨i, h1, by omega, h3, h4, fun j hj1 hj2 => ?_⟩
        by_cases e : j = f
        · subst e; simpa using h
        · exact h5 j (by omega) hj2
def candG (g : GrpT) : Int × Bool := if heirG g.mem 0 < 1 then (0, false) else ((g.mem.getD (heirG g.mem 0).toNat default).id, true)
def takenL (ms : List MemT) (i : Nat) (e : Int) : List MemT := { ms.getD i default with copy := { (ms.getD i default).copy with se := e, sv := 0 } } :: (ms.take i ++ ms.drop (i + 1))
def takeG (g : GrpT) : GrpT × Int :=
  if g.mem.length = 0 ∨ heirG g.mem 0 = 0 then (noGrp, 7) else if heirG g.mem 0 < 0 then (noGrp, 15)
  else if ¬ (renewF [((g.mem.getD (heirG g.mem 0).toNat default).copy.se, (g.mem.getD (heirG g.mem 0).toNat default).copy.sv)]).2 = 0 then (noGrp, (renewF [((g.mem.getD (heirG g.mem 0).toNat default).copy.se, (g.mem.getD (heirG g.mem 0).toNat default).copy.sv)]).2)
  else ({ g with opn := false, mem := takenL g.mem (heirG g.mem 0).toNat (renewF [((g.mem.getD (heirG g.mem 0).toNat default).copy.se, (g.mem.getD (heirG g.mem 0).toNat default).copy.sv)]).1 }, 0)
def stale (o : CopyT) (m : MemT) : Bool := m.up && !(sameC m.copy o)
def readyG (g : GrpT) : Bool := (ownerG g).2 && (!g.opn && !((g.mem.drop 1).any (stale (ownerG g).1.copy)))
theorem stale_step {o : CopyT} {ms : List MemT} {i : Nat} (h : i < ms.length) : (ms.drop i).any (stale o) = (stale o (ms.getD i default) || (ms.drop (i + 1)).any (stale o)) := by
  rw [drop_cons' h, List.any_cons]
theorem stale_end {o : CopyT} {ms : List MemT} {i : Nat} (h : ms.length ≤ i) : (ms.drop i).any (stale o) = false := by
  rw [List.drop_eq_nil_of_le h]; rfl
def openG (g : GrpT) (c : CopyT) : GrpT := { withG g c with opn := true }
def finishG (g : GrpT) : (GrpT × List Wr) × Int :=
  if (ownerG g).2 = false then ((noGrp, []), 14) else if g.opn = true then ((noGrp, []), 7) else if readyG g = false then ((noGrp, []), 13)
  else if ¬ (settleF (ownerG g).1.copy).2 = 0 then ((noGrp, []), (settleF (ownerG g).1.copy).2) else ((openG g (settleF (ownerG g).1.copy).1, (ownerG g).1.copy.pend), 0)
/-- the replications of Recover: of the members ms, from the i-th on -/
def recL : List MemT → GrpT → GrpT × Int
  | [], g => (g, 0)
  | m :: ms, g => if m.up then (if ¬ (replicateG g m.id).2 = 0 then (noGrp, (replicateG g m.id).2) else recL ms (replicateG g m.id).1) else recL ms g
def recAt (ms : List MemT) (i : Nat) (g : GrpT) : GrpT × Int := recL (ms.drop i) g
theorem rec_step {ms : List MemT} {i : Nat} {g : GrpT} (h : i < ms.length) : recAt ms i g = if (ms.getD i default).up then (if ¬ (replicateG g (ms.getD i default).id).2 = 0 then (noGrp, (replicateG g (ms.getD i default).id).2) else recAt ms (i + 1) (replicateG g (ms.getD i default).id).1) else recAt ms (i + 1) g := by
  unfold recAt
  rw [drop_cons' h, recL]
theorem rec_end {ms : List MemT} {i : Nat} {g : GrpT} (h : ms.length ≤ i) : recAt ms i g = (g, 0) := by
  unfold recAt
  rw [List.drop_eq_nil_of_le h, recL]
def rec2 (g : GrpT) : (GrpT × List Wr) × Int := if ¬ (recAt g.mem 1 g).2 = 0 then ((noGrp, []), (recAt g.mem 1 g).2) else finishG (recAt g.mem 1 g).1
def downG (g : GrpT) : Bool := decide (0 < g.mem.length) && !(own0 g).up
def recoverG (g : GrpT) : (GrpT × List Wr) × Int :=
  if downG g = true then (if ¬ (takeG g).2 = 0 then ((noGrp, []), (takeG g).2) else rec2 (takeG g).1)
  else if 0 < g.mem.length ∧ g.opn = true then ((noGrp, []), 7) else rec2 g
/-! what can be read -/
structure ViewT where
  own : Int
  lk : List UInt8
  lt : Bool
  hk : List UInt8
  ht : Bool
  se : Int
  sv : Int
  rows : List Row
def noView : ViewT := ⟨0, [], false, [], false, 0, 0, []⟩
abbrev viewL (v : ViewT) : List SV := [.d (.int .i64 v.own), .d (.str v.lk), .d (.bool v.lt), .d (.str v.hk), .d (.bool v.ht), .d (.int .i64 v.se), .d (.int .i64 v.sv), .d (encL encRow 2 v.rows)]
def viewOf (m : MemT) : ViewT := ⟨m.id, m.copy.lk, m.copy.lt, m.copy.hk, m.copy.ht, m.copy.se, m.copy.sv, m.copy.rows⟩
def viewG (g : GrpT) : ViewT × Int := if (ownerG g).2 = false then (noView, 14) else if g.opn = false then (noView, 7) else (viewOf (ownerG g).1, 0)
theorem view_down {g : GrpT} (h : (ownerG g).2 = false) : viewG g = (noView, 14) := by rw [viewG, if_pos h]
theorem view_shut {g : GrpT} (h : (ownerG g).2 = true) (h2 : g.opn = false) : viewG g = (noView, 7) := by rw [viewG, if_neg (by simp [h]), if_pos h2]
theorem view_ok {g : GrpT} (h : (ownerG g).2 = true) (h2 : g.opn = true) : viewG g = (viewOf (ownerG g).1, 0) := by rw [viewG, if_neg (by simp [h]), if_neg (by simp [h2])]
/-! the numbers of a drawn group -/
theorem idsG_mem {c : CopyT} {n : Nat} : memL' c (idsG n) = memG c n := by simp [memL', idsG, memG]
theorem idsG_all {n : Nat} (h : n ≤ 5) : (idsG n).all numOk = true := by
  match n, h with
  | 0, _ => rfl
  | 1, _ => rfl
  | 2, _ => rfl
  | 3, _ => rfl
  | 4, _ => rfl
  | 5, _ => rfl
theorem idsG_dup {n : Nat} (h : n ≤ 5) : dupL (idsG n) 0 = false := by
  match n, h with
  | 0, _ => rfl
  | 1, _ => rfl
  | 2, _ => rfl
  | 3, _ => rfl
  | 4, _ => rfl
  | 5, _ => rfl
theorem newG_ids {c : CopyT} {n : Nat} (h1 : 1 ≤ n) (h5 : n ≤ 5) (hv : validC c = true) : newG 1 (idsG n) c = (⟨1, true, memG c n⟩, 0) := by
  rw [newG_ok rfl hv (idsG_all h5) (by rw [idsG_len]; omega) (by rw [idsG_len]; omega) (idsG_dup h5), idsG_mem]
end Go.Sx

namespace Go.Sx
open Go
set_option linter.unusedVariables false
set_option linter.unusedSimpArgs false

/-! GroupDurable, GroupReads: what stays -/
structure DurI (r : Rng) (ep dn : Int) (g : GrpT) : Prop where
  snd : SndG g
  se : (own0 g).copy.se = ep
  sv : (own0 g).copy.sv = dn
  rng : (own0 g).copy.rng = r
theorem commit_keep {c : CopyT} (h : (commitC c).2 = 0) : (commitC c).1.se = c.se ∧ (commitC c).1.sv = c.sv + 1 ∧ (commitC c).1.rng = c.rng ∧ c.sv < 1099511627776 := by
  obtain ⟨e, hv, _, h3, _, _⟩ := commit_okC h
  have := valid_i64 hv
  rw [e]
  exact ⟨rfl, rfl, rfl, by omega⟩
theorem dur_propose {r : Rng} {ep dn : Int} {g : GrpT} {w : Wr} (h : DurI r ep dn g) (he : (proposeG g w).2 = 0) : DurI r ep dn (proposeG g w).1 := by
  obtain ⟨h1, h2, _⟩ := snd_propose h.snd he
  exact ⟨h1, by rw [h2.se, h.se], by rw [h2.sv, h.sv], by rw [h2.rng, h.rng]⟩
theorem dur_replicate {r : Rng} {ep dn : Int} {g : GrpT} {id : Int} (h : DurI r ep dn g) (he : (replicateG g id).2 = 0) : DurI r ep dn (replicateG g id).1 := by
  obtain ⟨h1, h2⟩ := snd_replicate h.snd he
  exact ⟨h1, by rw [h2, h.se], by rw [h2, h.sv], by rw [h2, h.rng]⟩
theorem dur_commit {r : Rng} {ep dn : Int} {g : GrpT} (h : DurI r ep dn g) (he : (commitG g).2 = 0) : DurI r ep (dn + 1) (commitG g).1.1 ∧ 0 ≤ dn ∧ dn < 1099511627776 := by
  obtain ⟨h1, h2, _, _, _, h6⟩ := snd_commit h.snd he
  obtain ⟨k1, k2, k3, k4⟩ := commit_keep h6
  have hn := h.snd.n1
  have h0 := valid_i64 (h.snd.at (i := 0) (by omega)).2.1
  have hsv := h.sv
  refine ⟨⟨h1, by rw [h2, k1, h.se], by rw [h2, k2, h.sv], by rw [h2, k3, h.rng]⟩, ?_, ?_⟩
  · rw [← hsv]; exact h0.1
  · rw [← hsv]; exact k4
theorem dur_crash {r : Rng} {ep dn : Int} {g : GrpT} {id : Int} (h : DurI r ep dn g) (he : (crashG g id).2 = 0) : DurI r ep dn (crashG g id).1 := by
  obtain ⟨h1, h2, _⟩ := snd_crash h.snd he
  exact ⟨h1, by rw [h2, h.se], by rw [h2, h.sv], by rw [h2, h.rng]⟩
theorem dur_recruit {r : Rng} {ep dn : Int} {g : GrpT} {id : Int} (h : DurI r ep dn g) (he : (recruitG g id).2 = 0) : DurI r ep dn (recruitG g id).1 := by
  obtain ⟨h1, h2⟩ := snd_recruit h.snd he
  exact ⟨h1, by rw [h2, h.se], by rw [h2, h.sv], by rw [h2, h.rng]⟩
theorem dur_has {r : Rng} {ep dn : Int} {g : GrpT} (h : DurI r ep dn g) {i : Nat} (hi : i < g.mem.length) (hu : (g.mem.getD i default).up = true) :
    (g.mem.getD i default).copy.se = ep ∧ IntKind.i64.wrap ((g.mem.getD i default).copy.sv + ((g.mem.getD i default).copy.pend.length : Int)) ≥ dn := by
  obtain ⟨h1, h2⟩ := snd_has h.snd hi hu
  have hv := valid_i64 (h.snd.at hi).2.1
  rw [h.se] at h1
  rw [h.sv] at h2
  refine ⟨h1, ?_⟩
  rw [wrap_small (by omega) (by omega)]
  omega
theorem dur_small {r : Rng} {ep dn : Int} {g : GrpT} (h : DurI r ep dn g) (i : Nat) : (g.mem.getD i default).copy.pend.length ≤ 1000000 := (mem_small h.snd.b i).2.1
theorem dur_new {c : CopyT} {n : Nat} (h : (1 ≤ n ∧ n ≤ 4) ∧ validC c = true) (hs : SmallC c) : DurI c.rng c.se c.sv ⟨1, true, memG c n⟩ := by
  have e : own0 ⟨1, true, memG c n⟩ = ⟨10 + ((0 : Nat) : Int), true, c⟩ := memG_get (by omega)
  exact ⟨snd_new h.1.1 (by omega) h.2 hs, by rw [e], by rw [e], by rw [e]⟩
structure ReadI (r : Rng) (rows : List Row) (se sv : Int) (g : GrpT) : Prop where
  snd : SndG g
  up : (own0 g).up = true
  rng : (own0 g).copy.rng = r
  rows : (own0 g).copy.rows = rows
  se : (own0 g).copy.se = se
  sv : (own0 g).copy.sv = sv
theorem read_propose {r : Rng} {rows : List Row} {se sv : Int} {g : GrpT} {w : Wr} (h : ReadI r rows se sv g) (he : (proposeG g w).2 = 0) : ReadI r rows se sv (proposeG g w).1 := by
  obtain ⟨h1, h2, _⟩ := snd_propose h.snd he
  exact ⟨h1, by rw [h2.up, h.up], by rw [h2.rng, h.rng], by rw [h2.rows, h.rows], by rw [h2.se, h.se], by rw [h2.sv, h.sv]⟩
theorem read_replicate {r : Rng} {rows : List Row} {se sv : Int} {g : GrpT} {id : Int} (h : ReadI r rows se sv g) (he : (replicateG g id).2 = 0) : ReadI r rows se sv (replicateG g id).1 := by
  obtain ⟨h1, h2⟩ := snd_replicate h.snd he
  exact ⟨h1, by rw [h2, h.up], by rw [h2, h.rng], by rw [h2, h.rows], by rw [h2, h.se], by rw [h2, h.sv]⟩
theorem read_commit {r : Rng} {rows : List Row} {se sv : Int} {g : GrpT} (h : ReadI r rows se sv g) (he : (commitG g).2 = 0) : ReadI r (own0 (commitG g).1.1).copy.rows se (sv + 1) (commitG g).1.1 ∧ applyF rows [(commitG g).1.2] = ((own0 (commitG g).1.1).copy.rows, 0) ∧ 0 ≤ sv ∧ sv < 1099511627776 := by
  obtain ⟨h1, h2, h3, h4, h5, h6⟩ := snd_commit h.snd he
  obtain ⟨k1, k2, k3, k4⟩ := commit_keep h6
  obtain ⟨e, hv, _, _, hd, _⟩ := commit_okC h6
  have h0 := valid_i64 hv
  have hsv := h.sv
  refine ⟨⟨h1, by rw [h4, h.up], by rw [h2, k3, h.rng], rfl, by rw [h2, k1, h.se], by rw [h2, k2, h.sv]⟩, ?_, by omega, by omega⟩
  have ht := (valid_head hv).2.2.1
  rw [← h.rows, apply_one (validT_iff.2 ht), h5, if_pos hd, h2, e]
theorem read_new {c : CopyT} {n : Nat} (h : (1 ≤ n ∧ n ≤ 4) ∧ validC c = true) (hs : SmallC c) : ReadI c.rng c.rows c.se c.sv ⟨1, true, memG c n⟩ := by
  have e : own0 ⟨1, true, memG c n⟩ = ⟨10 + ((0 : Nat) : Int), true, c⟩ := memG_get (by omega)
  exact ⟨snd_new h.1.1 (by omega) h.2 hs, by rw [e], by rw [e], by rw [e], by rw [e], by rw [e]⟩
/-- stamps compared -/
def cmpS (ae av be bv : Int) : Int := if ae = be ∧ av = bv then 0 else if ae < be ∨ (ae = be ∧ av < bv) then -1 else 1
theorem cmpS_next {e v : Int} : cmpS e v e (v + 1) = -1 := by
  unfold cmpS
  rw [if_neg (by omega), if_pos (by omega)]
/-! the example of the chapter -/
def awC0 : CopyT := ⟨[], false, [], true, 1, 0, [], [], noPart, noPart, 0, 0⟩
def awC1 : CopyT := ⟨[], false, [], true, 1, 0, [], [([97], [49], false)], noPart, noPart, 0, 0⟩
def awC2 : CopyT := ⟨[], false, [], true, 1, 1, [([97], [49])], [], noPart, noPart, 0, 0⟩
def awG0 : GrpT := ⟨1, true, [⟨1, true, awC0⟩, ⟨2, true, awC0⟩]⟩
def awG1 : GrpT := ⟨1, true, [⟨1, true, awC1⟩, ⟨2, true, awC0⟩]⟩
def awG2 : GrpT := ⟨1, true, [⟨1, true, awC1⟩, ⟨2, true, awC1⟩]⟩
def awG3 : GrpT := ⟨1, true, [⟨1, true, awC2⟩, ⟨2, true, awC1⟩]⟩
def awG4 : GrpT := ⟨1, true, [⟨1, true, awC1⟩, ⟨2, false, awC0⟩]⟩
def awG5 : GrpT := ⟨1, true, [⟨1, true, awC2⟩, ⟨2, false, awC0⟩]⟩
def awW : Wr := ([97], [49], false)
theorem aw_new : newG 1 [1, 2] awC0 = (awG0, 0) := rfl
theorem aw_prop : proposeG awG0 awW = (awG1, 0) := rfl
theorem aw_busy : commitG awG1 = ((noGrp, noWr), 13) := rfl
theorem aw_repl : replicateG awG1 2 = (awG2, 0) := rfl
theorem aw_done : commitG awG2 = ((awG3, awW), 0) := rfl
theorem aw_crash : crashG awG1 2 = (awG4, 0) := rfl
theorem aw_done2 : commitG awG4 = ((awG5, awW), 0) := rfl
theorem aw_b0 : GrpB 1000 awG0 := ⟨by decide, by intro m hm; simp only [awG0, List.mem_cons, List.not_mem_nil, or_false] at hm; rcases hm with rfl | rfl <;> exact ⟨by decide, by unfold I64; decide⟩⟩
theorem aw_b1 : GrpB 1000 awG1 := ⟨by decide, by intro m hm; simp only [awG1, List.mem_cons, List.not_mem_nil, or_false] at hm; rcases hm with rfl | rfl <;> exact ⟨by decide, by unfold I64; decide⟩⟩
theorem aw_b2 : GrpB 1000 awG2 := ⟨by decide, by intro m hm; simp only [awG2, List.mem_cons, List.not_mem_nil, or_false] at hm; rcases hm with rfl | rfl <;> exact ⟨by decide, by unfold I64; decide⟩⟩
theorem aw_b4 : GrpB 1000 awG4 := ⟨by decide, by intro m hm; simp only [awG4, List.mem_cons, List.not_mem_nil, or_false] at hm; rcases hm with rfl | rfl <;> exact ⟨by decide, by unfold I64; decide⟩⟩
end Go.Sx

namespace Go.Sx
open Go
set_option linter.unusedVariables false
set_option linter.unusedSimpArgs false

/-! bounds stay, whatever is done with a group -/
def CB (c : CopyT) : Prop := SmallC c ∧ I64 c.sv
theorem cb_no : CB noCopy := ⟨⟨by simp [noCopy], by simp [noCopy], by simp [noCopy, noPart], by simp [noCopy, noPart]⟩, by simp [noCopy, i64_zero]⟩
theorem cb_default : CB (default : CopyT) := ⟨⟨by simp [default], by simp [default], by simp [default], by simp [default]⟩, by simp [default, i64_zero]⟩
theorem cb_valid {c x : CopyT} (h : CB c) (hv : validC x = true) (ho : x.out = c.out) (hi : x.inn = c.inn) : CB x :=
  ⟨smallC_of h.1 hv ho hi, by have := valid_i64 hv; unfold I64; omega⟩
theorem append_b {c : CopyT} {w : Wr} (h : CB c) : CB (appendC c w).1 := by
  by_cases he : (appendC c w).2 = 0
  · obtain ⟨e, _, hv, _⟩ := append_okC he
    rw [e]
    exact cb_valid h hv rfl rfl
  · have : (appendC c w).1 = noCopy := by
      unfold appendC at he ⊢
      split
      · rfl
      · rename_i h1
        rw [if_neg h1] at he
        split
        · rfl
        · rename_i h2
          rw [if_neg h2] at he
          split
          · rfl
          · rename_i h3
            rw [if_neg h3] at he
            exact absurd rfl he
    rw [this]; exact cb_no
theorem commit_b {c : CopyT} (h : CB c) : CB (commitC c).1 := by
  by_cases he : (commitC c).2 = 0
  · obtain ⟨e, _, _, _, _, hv⟩ := commit_okC he
    exact cb_valid h hv (by rw [e]) (by rw [e])
  · have : (commitC c).1 = noCopy := by
      unfold commitC at he ⊢
      split
      · rfl
      · rename_i h1
        rw [if_neg h1] at he
        split
        · rfl
        · rename_i h2
          rw [if_neg h2] at he
          split
          · rfl
          · rename_i h3
            rw [if_neg h3] at he
            exact absurd rfl he
    rw [this]; exact cb_no
theorem settleC_b : ∀ (n : Nat) {c : CopyT}, CB c → CB (settleC n c).1
  | 0, c, h => h
  | n + 1, c, h => by
    unfold settleC
    split
    · exact h
    · split
      · exact settleC_b n (commit_b h)
      · exact cb_no
theorem settle_b {c : CopyT} (h : CB c) : CB (settleF c).1 := by
  unfold settleF
  split
  · exact cb_no
  · exact settleC_b _ h
theorem grpb_no : GrpB 1000 noGrp := ⟨by simp [noGrp], by simp [noGrp]⟩
theorem grpb_at {g : GrpT} (h : GrpB 1000 g) (i : Nat) : CB (g.mem.getD i default).copy := by
  rcases Nat.lt_or_ge i g.mem.length with hi | hi
  · exact h.small _ (getD_mem hi)
  · have e : g.mem.getD i default = default := by simp [List.getD, hi]
    rw [e]; exact cb_default
theorem grpb_owner {g : GrpT} (h : GrpB 1000 g) : CB (ownerG g).1.copy := by
  cases ho : (ownerG g).2 with
  | true => rw [(owner_mem ho).2.2]; exact grpb_at h 0
  | false =>
    have : (ownerG g).1 = noMem := by
      unfold ownerG at ho ⊢
      split
      · rfl
      · rename_i h1
        rw [if_neg h1] at ho
        split
        · rename_i h2; rw [if_pos h2] at ho; cases ho
        · rfl
    rw [this]; exact cb_no
theorem grpb_set {g : GrpT} {p : Nat} {x : MemT} (h : GrpB 1000 g) (hx : CB x.copy) : GrpB 1000 { g with mem := g.mem.set p x } := by
  refine ⟨by simpa using h.len, ?_⟩
  intro m hm
  rcases List.mem_or_eq_of_mem_set hm with hm | rfl
  · exact h.small m hm
  · exact hx
theorem grpb_with {g : GrpT} {c : CopyT} (h : GrpB 1000 g) (hc : CB c) : GrpB 1000 (withG g c) := grpb_set h hc
theorem propose_b {g : GrpT} {w : Wr} (h : GrpB 1000 g) : GrpB 1000 (proposeG g w).1 := by
  unfold proposeG
  repeat' split
  all_goals first
    | exact grpb_no
    | exact grpb_with h (append_b (grpb_owner h))
theorem replicate_b {g : GrpT} {id : Int} (h : GrpB 1000 g) : GrpB 1000 (replicateG g id).1 := by
  unfold replicateG
  repeat' split
  all_goals first
    | exact grpb_no
    | exact grpb_set h (grpb_owner h)
theorem crash_b {g : GrpT} {id : Int} (h : GrpB 1000 g) : GrpB 1000 (crashG g id).1 := by
  unfold crashG
  repeat' split
  all_goals first
    | exact grpb_no
    | exact grpb_set h (grpb_at h _)
theorem recruit_b {g : GrpT} {id : Int} (h : GrpB 1000 g) : GrpB 1000 (recruitG g id).1 := by
  unfold recruitG
  repeat' split
  all_goals try exact grpb_no
  refine ⟨by simp only [List.length_append, List.length_singleton]; omega, ?_⟩
  intro m hm
  rcases List.mem_append.1 hm with hm | hm
  · exact h.small m hm
  · rw [List.mem_singleton.1 hm]; exact grpb_owner h
theorem dismiss_b {g : GrpT} {id : Int} (h : GrpB 1000 g) : GrpB 1000 (dismissG g id).1 := by
  unfold dismissG
  repeat' split
  all_goals try exact grpb_no
  have hl := h.len
  refine ⟨by simp only [List.length_append, List.length_take, List.length_drop]; omega, ?_⟩
  intro m hm
  rcases List.mem_append.1 hm with hm | hm
  · exact h.small m (List.mem_of_mem_take hm)
  · exact h.small m (List.mem_of_mem_drop hm)
theorem commitG_b {g : GrpT} (h : GrpB 1000 g) : GrpB 1000 (commitG g).1.1 := by
  unfold commitG
  repeat' split
  all_goals first
    | exact grpb_no
    | exact grpb_with h (commit_b (grpb_owner h))
theorem change_b {g : GrpT} {c : CopyT} {l : List (Int × Int)} (h : GrpB 1000 g) (hc : SmallC c) : GrpB 1000 (changeG g c l).1 := by
  unfold changeG
  repeat' split
  all_goals first
    | exact grpb_no
    | skip
  have := grpb_with (c := { c with se := (renewF (((ownerG g).1.copy.se, (ownerG g).1.copy.sv) :: l)).1, sv := 0 }) h ⟨hc, i64_zero⟩
  exact ⟨this.len, this.small⟩
theorem taken_b {g : GrpT} {i : Nat} {e : Int} (h : GrpB 1000 g) (hi : i < g.mem.length) : GrpB 1000 { g with opn := false, mem := takenL g.mem i e } := by
  have hl := h.len
  refine ⟨by simp only [takenL, List.length_cons, List.length_append, List.length_take, List.length_drop]; omega, ?_⟩
  intro m hm
  simp only [takenL, List.mem_cons, List.mem_append] at hm
  rcases hm with rfl | hm | hm
  · exact ⟨(grpb_at h i).1, i64_zero⟩
  · exact h.small m (List.mem_of_mem_take hm)
  · exact h.small m (List.mem_of_mem_drop hm)
theorem take_b {g : GrpT} (h : GrpB 1000 g) : GrpB 1000 (takeG g).1 := by
  unfold takeG
  split
  · exact grpb_no
  · split
    · exact grpb_no
    · split
      · exact grpb_no
      · refine taken_b h ?_
        rcases heir_range (ms := g.mem) (n := g.mem.length) (f := 0) (by omega) with h1 | ⟨i, h1, _, h2, _⟩
        · rename_i h3 _; omega
        · rw [h1]; simpa using h2
theorem finish_b {g : GrpT} (h : GrpB 1000 g) : GrpB 1000 (finishG g).1.1 := by
  unfold finishG
  repeat' split
  all_goals first
    | exact grpb_no
    | skip
  have := grpb_with h (settle_b (grpb_owner h))
  exact ⟨this.len, this.small⟩
theorem rec_b {ms : List MemT} : ∀ {g : GrpT}, GrpB 1000 g → GrpB 1000 (recL ms g).1 := by
  induction ms with
  | nil => intro g h; exact h
  | cons m ms ih =>
    intro g h
    unfold recL
    repeat' split
    all_goals first
      | exact grpb_no
      | exact ih (replicate_b h)
      | exact ih h
theorem rec2_b {g : GrpT} (h : GrpB 1000 g) : GrpB 1000 (rec2 g).1.1 := by
  unfold rec2
  split
  · exact grpb_no
  · exact finish_b (rec_b h)
theorem recover_b {g : GrpT} (h : GrpB 1000 g) : GrpB 1000 (recoverG g).1.1 := by
  unfold recoverG
  repeat' split
  all_goals first
    | exact grpb_no
    | exact rec2_b (take_b h)
    | exact rec2_b h
end Go.Sx

namespace Go.Sx
open Go
set_option linter.unusedVariables false
set_option linter.unusedSimpArgs false

def encStp (s : Int × Int) : List D := [.int .i64 s.1, .int .i64 s.2]
end Go.Sx

namespace Go.Sx
open Go
set_option linter.unusedVariables false
set_option linter.unusedSimpArgs false

/-! what any run of a group keeps (chapter 26) -/
theorem renew_one' {e v : Int} (h : (renewF [(e, v)]).2 = 0) : stampOk e v = true ∧ (renewF [(e, v)]).1 = e + 1 ∧ e < 1099511627776 := by
  cases hs : stampOk e v with
  | false => simp [renewF, renewAt, renewL, hs] at h
  | true =>
    have h1 := stamp_of.1 hs
    have hm : (if e > 0 then e else 0) = e := by split <;> omega
    have e1 : renewF [(e, v)] = if e = 1099511627776 then (0, 16) else (e + 1, 0) := by
      simp only [renewF, renewAt, List.drop_zero, renewL, hs, if_true, hm]
    rw [e1] at h ⊢
    split at h
    · cases h
    · rename_i h2
      rw [if_neg h2]
      exact ⟨rfl, rfl, by omega⟩
theorem valid_stamp {c : CopyT} {e : Int} (hv : validC c = true) (h0 : 0 ≤ e) (h1 : e ≤ 1099511627776) : validC { c with se := e, sv := 0 } = true := by
  obtain ⟨g1, g2, g3, g4, g5, g6⟩ := valid_head hv
  obtain ⟨g7, g8⟩ := valid_rest hv
  exact valid_of g1 (stamp_of.2 ⟨⟨h0, h1⟩, by simp, by simp⟩) g3 g4 g5 g6 (fun w hw => by have := valid_pend hv w hw; exact this) g7 g8
structure CopyE (r : Rng) (n : Nat) (c : CopyT) : Prop where
  v : validC c = true
  small : SmallC c
  rng : c.rng = r
  se : c.se ≤ 2 + (n : Int)
  sv : c.sv ≤ 1 + 64 * (n : Int)
theorem CopyE.mono {r : Rng} {n m : Nat} {c : CopyT} (h : CopyE r n c) (hn : n ≤ m) : CopyE r m c := ⟨h.v, h.small, h.rng, by have := h.se; omega, by have := h.sv; omega⟩
structure EvM (r : Rng) (n : Nat) (ms : List MemT) : Prop where
  n1 : 1 ≤ ms.length
  le : ms.length ≤ 5
  uniq : Uniq ms
  all : ∀ m ∈ ms, CopyE r n m.copy
theorem EvM.mono {r : Rng} {n m : Nat} {ms : List MemT} (h : EvM r n ms) (hn : n ≤ m) : EvM r m ms := ⟨h.n1, h.le, h.uniq, fun x hx => (h.all x hx).mono hn⟩
theorem EvM.b {r : Rng} {n : Nat} {g : GrpT} (h : EvM r n g.mem) : GrpB 1000 g := ⟨by have := h.le; omega, fun m hm => ⟨(h.all m hm).small, by have := valid_i64 (h.all m hm).v; unfold I64; omega⟩⟩
theorem EvM.at {r : Rng} {n : Nat} {ms : List MemT} (h : EvM r n ms) {i : Nat} (hi : i < ms.length) : CopyE r n (ms.getD i default).copy := h.all _ (getD_mem hi)
theorem EvM.set {r : Rng} {n : Nat} {ms : List MemT} {p : Nat} {x : MemT} (h : EvM r n ms) (hid : x.id = (ms.getD p default).id) (hx : CopyE r (n + 1) x.copy) : EvM r (n + 1) (ms.set p x) := by
  refine ⟨by simpa using h.n1, by simpa using h.le, uniq_set h.uniq hid, ?_⟩
  intro m hm
  rcases List.mem_or_eq_of_mem_set hm with hm | rfl
  · exact (h.all m hm).mono (by omega)
  · exact hx
theorem ev_own {r : Rng} {n : Nat} {g : GrpT} {c : CopyT} (h : EvM r n g.mem) (hc : CopyE r (n + 1) c) : EvM r (n + 1) (withG g c).mem := h.set rfl hc
theorem ev_ownc {r : Rng} {n : Nat} {g : GrpT} (h : EvM r n g.mem) (ho : (ownerG g).2 = true) : CopyE r n (ownerG g).1.copy := by
  have := h.n1
  rw [(own_of ho).1]
  exact h.at (by omega)
theorem ev_append {r : Rng} {n : Nat} {c : CopyT} {w : Wr} (h : CopyE r n c) (he : (appendC c w).2 = 0) : CopyE r (n + 1) (appendC c w).1 := by
  obtain ⟨e, _, hv, _⟩ := append_okC he
  rw [e]
  have h1 := h.se
  have h2 := h.sv
  exact ⟨hv, smallC_of h.small hv rfl rfl, h.rng, by simp only; omega, by simp only; omega⟩
theorem ev_commit {r : Rng} {n : Nat} {c : CopyT} (h : CopyE r n c) (he : (commitC c).2 = 0) : CopyE r (n + 1) (commitC c).1 := by
  obtain ⟨e, _, _, _, _, hv⟩ := commit_okC he
  have h1 := h.se
  have h2 := h.sv
  rw [e] at hv ⊢
  exact ⟨hv, smallC_of h.small hv rfl rfl, h.rng, by simp only; omega, by simp only; omega⟩
theorem settleC_keep : ∀ (k : Nat) {c : CopyT}, validC c = true → (settleC k c).2 = 0 → validC (settleC k c).1 = true ∧ (settleC k c).1.rng = c.rng ∧ (settleC k c).1.se = c.se ∧ c.sv ≤ (settleC k c).1.sv ∧ (settleC k c).1.sv ≤ c.sv + k ∧ (settleC k c).1.out = c.out ∧ (settleC k c).1.inn = c.inn
  | 0, c, hv, _ => ⟨hv, rfl, rfl, by simp [settleC], by simp [settleC], rfl, rfl⟩
  | k + 1, c, hv, h => by
    unfold settleC at h ⊢
    split
    · exact ⟨hv, rfl, rfl, by simp, by show c.sv ≤ c.sv + ((k + 1 : Nat) : Int); omega, rfl, rfl⟩
    · rename_i hp
      rw [if_neg hp] at h
      split
      · rename_i hc
        rw [if_pos hc] at h
        obtain ⟨e, _, _, _, _, hv2⟩ := commit_okC hc
        obtain ⟨h1, h2, h3, h4, h5, h6, h7⟩ := settleC_keep k hv2 h
        rw [e] at h2 h3 h4 h5 h6 h7
        simp only at h3 h4 h5 h6 h7
        rw [e]
        exact ⟨by rw [e] at h1; exact h1, h2, h3, by omega, by omega, h6, h7⟩
      · rename_i hc
        rw [if_neg hc] at h
        exact absurd h hc
theorem settle_keep {c : CopyT} (h : (settleF c).2 = 0) : validC c = true ∧ validC (settleF c).1 = true ∧ (settleF c).1.rng = c.rng ∧ (settleF c).1.se = c.se ∧ c.sv ≤ (settleF c).1.sv ∧ (settleF c).1.sv ≤ c.sv + c.pend.length ∧ (settleF c).1.out = c.out ∧ (settleF c).1.inn = c.inn := by
  unfold settleF at h ⊢
  split
  · rename_i h1; rw [if_pos h1] at h; cases h
  · rename_i h1
    rw [if_neg h1] at h
    have hv : validC c = true := by simpa using h1
    exact ⟨hv, settleC_keep _ hv h⟩
theorem ev_settle {r : Rng} {n : Nat} {c : CopyT} (h : CopyE r n c) (he : (settleF c).2 = 0) : CopyE r (n + 1) (settleF c).1 := by
  obtain ⟨_, hv, h2, h3, _, h5, h6, h7⟩ := settle_keep he
  have h8 := valid_i64 h.v
  have h9 := h.se
  have h10 := h.sv
  exact ⟨hv, smallC_of h.small hv h6 h7, by rw [h2, h.rng], by rw [h3]; omega, by omega⟩
theorem ev_stamp {r : Rng} {n : Nat} {c : CopyT} {e v : Int} (h : CopyE r n c) (he : e ≤ 2 + (n : Int)) (hr : (renewF [(e, v)]).2 = 0) : CopyE r (n + 1) { c with se := (renewF [(e, v)]).1, sv := 0 } := by
  obtain ⟨h1, h2, h3⟩ := renew_one' hr
  have h4 := stamp_of.1 h1
  have hv := valid_stamp (e := (renewF [(e, v)]).1) h.v (by omega) (by omega)
  exact ⟨hv, smallC_of h.small hv rfl rfl, h.rng, by simp only; omega, by simp only; omega⟩
theorem ev_propose {r : Rng} {n : Nat} {g : GrpT} {w : Wr} (h : EvM r n g.mem) (he : (proposeG g w).2 = 0) : EvM r (n + 1) (proposeG g w).1.mem := by
  obtain ⟨h1, h2, h3⟩ := propose_inv he
  rw [h3]
  exact ev_own h (ev_append (ev_ownc h h1) h2)
theorem ev_replicate {r : Rng} {n : Nat} {g : GrpT} {id : Int} (h : EvM r n g.mem) (he : (replicateG g id).2 = 0) : EvM r (n + 1) (replicateG g id).1.mem := by
  obtain ⟨h1, h2, h3⟩ := replicate_inv he
  rw [replicate_ok h1 h2 h3]
  exact h.set rfl ((ev_ownc h h1).mono (by omega))
theorem ev_commitG {r : Rng} {n : Nat} {g : GrpT} (h : EvM r n g.mem) (he : (commitG g).2 = 0) : EvM r (n + 1) (commitG g).1.1.mem := by
  obtain ⟨h1, _, h3, h4⟩ := commit_inv he
  rw [h4]
  exact ev_own h (ev_commit (ev_ownc h h1) h3)
theorem ev_crash {r : Rng} {n : Nat} {g : GrpT} {id : Int} (h : EvM r n g.mem) (he : (crashG g id).2 = 0) : EvM r (n + 1) (crashG g id).1.mem := by
  obtain ⟨h1, _, h4⟩ := crash_inv he
  obtain ⟨i1, _, _⟩ := index_nat h1
  rw [h4]
  exact h.set rfl ((h.at i1).mono (by omega))
theorem finish_inv {g : GrpT} (he : (finishG g).2 = 0) : (ownerG g).2 = true ∧ g.opn = false ∧ readyG g = true ∧ (settleF (ownerG g).1.copy).2 = 0 ∧ (finishG g).1 = (openG g (settleF (ownerG g).1.copy).1, (ownerG g).1.copy.pend) := by
  unfold finishG at he ⊢
  split at he
  · simp at he
  · rename_i h1
    split at he
    · simp at he
    · rename_i h2
      split at he
      · simp at he
      · rename_i h3
        split at he
        · rename_i h4; exact absurd he h4
        · rename_i h4
          rw [if_neg h1, if_neg h2, if_neg h3, if_neg h4]
          exact ⟨by simpa using h1, by simpa using h2, by simpa using h3, by simpa using h4, rfl⟩
theorem ev_finish {r : Rng} {n : Nat} {g : GrpT} (h : EvM r n g.mem) (he : (finishG g).2 = 0) : EvM r (n + 1) (finishG g).1.1.mem := by
  obtain ⟨h1, _, _, h4, h5⟩ := finish_inv he
  rw [h5]
  exact ev_own h (ev_settle (ev_ownc h h1) h4)
theorem change_inv {g : GrpT} {c : CopyT} {l : List (Int × Int)} (he : (changeG g c l).2 = 0) : (ownerG g).2 = true ∧ g.opn = true ∧ validC c = true ∧ (renewF (((ownerG g).1.copy.se, (ownerG g).1.copy.sv) :: l)).2 = 0 ∧ (changeG g c l).1 = closeG g { c with se := (renewF (((ownerG g).1.copy.se, (ownerG g).1.copy.sv) :: l)).1, sv := 0 } := by
  unfold changeG at he ⊢
  split at he
  · simp at he
  · rename_i h1
    split at he
    · simp at he
    · rename_i h2
      split at he
      · simp at he
      · rename_i h3
        split at he
        · rename_i h4; exact absurd he h4
        · rename_i h4
          rw [if_neg h1, if_neg h2, if_neg h3, if_neg h4]
          exact ⟨by simpa using h1, by simpa using h2, by simpa using h3, by simpa using h4, rfl⟩
theorem ev_change {r : Rng} {n : Nat} {g : GrpT} (h : EvM r n g.mem) (he : (changeG g (own0 g).copy []).2 = 0) : EvM r (n + 1) (changeG g (own0 g).copy []).1.mem := by
  obtain ⟨h1, _, _, h4, h5⟩ := change_inv he
  rw [h5]
  have hc := ev_ownc h h1
  rw [(own_of h1).1] at *
  exact ev_own h (ev_stamp hc hc.se h4)
theorem take_inv {g : GrpT} (he : (takeG g).2 = 0) : ∃ i, 0 < i ∧ i < g.mem.length ∧ heirG g.mem 0 = (i : Nat) ∧ (g.mem.getD i default).up = true ∧ (∀ j, j < i → (g.mem.getD j default).up = false) ∧ (renewF [((g.mem.getD i default).copy.se, (g.mem.getD i default).copy.sv)]).2 = 0 ∧
    (takeG g).1 = { g with opn := false, mem := takenL g.mem i (renewF [((g.mem.getD i default).copy.se, (g.mem.getD i default).copy.sv)]).1 } := by
  have hr := heir_range (ms := g.mem) (n := g.mem.length) (f := 0) (by omega)
  unfold takeG at he ⊢
  split at he
  · simp at he
  · rename_i h1
    split at he
    · simp at he
    · rename_i h2
      split at he
      · rename_i h3; exact absurd he h3
      · rename_i h3
        rw [if_neg h1, if_neg h2, if_neg h3]
        rcases hr with hr | ⟨i, k1, _, k3, k4, k5⟩
        · omega
        · rw [k1] at h1 h3 ⊢
          simp only [Int.toNat_natCast] at h3 ⊢
          refine ⟨i, by omega, k3, rfl, k4, fun j hj => k5 j (by omega) hj, ?_, rfl⟩
          simpa [-List.getD_eq_getElem?_getD] using h3
theorem taken_get {ms : List MemT} {i j : Nat} {e : Int} (hi : i < ms.length) (hj : j < ms.length) : (takenL ms i e).getD j default = if j = 0 then { ms.getD i default with copy := { (ms.getD i default).copy with se := e, sv := 0 } } else ms.getD (if j ≤ i then j - 1 else j) default := by
  unfold takenL
  cases j with
  | zero => rfl
  | succ j =>
    rw [if_neg (by omega)]
    have : ∀ (x : MemT) (l : List MemT), (x :: l).getD (j + 1) default = l.getD j default := fun x l => by simp [List.getD]
    rw [this, getD_cutM hi (by omega)]
    by_cases h : j < i
    · rw [if_pos h, if_pos (by omega)]; rfl
    · rw [if_neg h, if_neg (by omega)]
theorem taken_len {ms : List MemT} {i : Nat} {e : Int} (hi : i < ms.length) : (takenL ms i e).length = ms.length := by
  simp only [takenL, List.length_cons, List.length_append, List.length_take, List.length_drop]; omega
theorem taken_uniq {ms : List MemT} {i : Nat} {e : Int} (hi : i < ms.length) (hu : Uniq ms) : Uniq (takenL ms i e) := by
  have hid : ∀ j, j < ms.length → ((takenL ms i e).getD j default).id = (ms.getD (if j = 0 then i else if j ≤ i then j - 1 else j) default).id := by
    intro j hj
    rw [taken_get hi hj]
    by_cases h : j = 0
    · rw [if_pos h, if_pos h]
    · rw [if_neg h, if_neg h]
  intro j k hj hk h
  rw [taken_len hi] at hj hk
  rw [hid j hj, hid k hk] at h
  have hσ : ∀ j, j < ms.length → (if j = 0 then i else if j ≤ i then j - 1 else j) < ms.length := fun j hj => by
    split
    · exact hi
    · split <;> omega
  have := hu _ _ (hσ j hj) (hσ k hk) h
  by_cases h1 : j = 0 <;> by_cases h2 : k = 0 <;> by_cases h3 : j ≤ i <;> by_cases h4 : k ≤ i <;> simp only [h1, h2, h3, h4, if_true, if_false] at this <;> omega
theorem ev_take {r : Rng} {n : Nat} {g : GrpT} (h : EvM r n g.mem) (he : (takeG g).2 = 0) : EvM r (n + 1) (takeG g).1.mem := by
  obtain ⟨i, _, hi, _, _, _, hr, e⟩ := take_inv he
  rw [e]
  refine ⟨by rw [taken_len hi]; exact h.n1, by rw [taken_len hi]; exact h.le, taken_uniq hi h.uniq, ?_⟩
  intro m hm
  simp only [takenL, List.mem_cons, List.mem_append] at hm
  rcases hm with rfl | hm | hm
  · exact ev_stamp (h.at hi) (h.at hi).se hr
  · exact (h.all m (List.mem_of_mem_take hm)).mono (by omega)
  · exact (h.all m (List.mem_of_mem_drop hm)).mono (by omega)
theorem ev_new {c : CopyT} {n : Nat} (h1 : 1 ≤ n) (h5 : n ≤ 5) (hv : validC c = true) (hs : SmallC c) (hse : c.se ≤ 2) (hsv : c.sv ≤ 1) : EvM c.rng 0 (memG c n) := by
  have hsnd := snd_new (n := n) h1 h5 hv hs
  refine ⟨hsnd.n1, hsnd.n5, hsnd.uniq, ?_⟩
  intro m hm
  obtain ⟨i, hi, rfl⟩ := mem_getD hm
  rw [memG_len] at hi
  rw [memG_get hi]
  exact ⟨hv, hs, rfl, by simp only; omega, by simp only; omega⟩
theorem finish_pend {g : GrpT} (h : GrpB 1000 g) : (finishG g).1.2.length ≤ 1000000 := by
  unfold finishG
  repeat' split
  all_goals first
    | exact (owner_small h).2.1
    | simp
theorem recover_pend {g : GrpT} (h : GrpB 1000 g) : (recoverG g).1.2.length ≤ 1000000 := by
  have h2 : ∀ {g : GrpT}, GrpB 1000 g → (rec2 g).1.2.length ≤ 1000000 := fun {g} h => by
    unfold rec2
    split
    · simp
    · exact finish_pend (rec_b h)
  unfold recoverG
  repeat' split
  all_goals first
    | exact h2 (take_b h)
    | exact h2 h
    | simp
end Go.Sx

namespace Go.Sx
open Go
set_option linter.unusedVariables false
set_option linter.unusedSimpArgs false

/-! the example of chapter 26 -/
def ax0 : CopyT := ⟨[], false, [], true, 3, 0, [], [], noPart, noPart, 0, 0⟩
def ax1 : CopyT := ⟨[], false, [], true, 3, 0, [], [([97], [49], false)], noPart, noPart, 0, 0⟩
def ax2 : CopyT := ⟨[], false, [], true, 4, 1, [([97], [49])], [], noPart, noPart, 0, 0⟩
def axG0 : GrpT := ⟨1, true, [⟨1, true, ax0⟩, ⟨2, true, ax0⟩]⟩
def axG1 : GrpT := ⟨1, true, [⟨1, true, ax1⟩, ⟨2, true, ax0⟩]⟩
def axG2 : GrpT := ⟨1, true, [⟨1, true, ax1⟩, ⟨2, true, ax1⟩]⟩
def axG3 : GrpT := ⟨1, true, [⟨1, false, ax1⟩, ⟨2, true, ax1⟩]⟩
def axG4 : GrpT := ⟨1, true, [⟨2, true, ax2⟩, ⟨1, false, ax1⟩]⟩
theorem ax_new : newG 1 [1, 2] ax0 = (axG0, 0) := rfl
theorem ax_prop : proposeG axG0 awW = (axG1, 0) := rfl
theorem ax_repl : replicateG axG1 2 = (axG2, 0) := rfl
theorem ax_crash : crashG axG2 1 = (axG3, 0) := rfl
theorem ax_cand : candG axG3 = (2, true) := rfl
theorem ax_rec : recoverG axG3 = ((axG4, [awW]), 0) := rfl
theorem ax_b0 : GrpB 1000 axG0 := ⟨by decide, by intro m hm; simp only [axG0, List.mem_cons, List.not_mem_nil, or_false] at hm; rcases hm with rfl | rfl <;> exact ⟨by decide, by unfold I64; decide⟩⟩
theorem ax_b1 : GrpB 1000 axG1 := ⟨by decide, by intro m hm; simp only [axG1, List.mem_cons, List.not_mem_nil, or_false] at hm; rcases hm with rfl | rfl <;> exact ⟨by decide, by unfold I64; decide⟩⟩
theorem ax_b2 : GrpB 1000 axG2 := ⟨by decide, by intro m hm; simp only [axG2, List.mem_cons, List.not_mem_nil, or_false] at hm; rcases hm with rfl | rfl <;> exact ⟨by decide, by unfold I64; decide⟩⟩
theorem ax_b3 : GrpB 1000 axG3 := ⟨by decide, by intro m hm; simp only [axG3, List.mem_cons, List.not_mem_nil, or_false] at hm; rcases hm with rfl | rfl <;> exact ⟨by decide, by unfold I64; decide⟩⟩
end Go.Sx

namespace Go.Sx
open Go
set_option linter.unusedVariables false
set_option linter.unusedSimpArgs false

/-! what is shown along a run (chapter 26) -/
def AllSe (ms : List MemT) (P : Int → Prop) : Prop := ∀ i, i < ms.length → (ms.getD i default).up = true → P (ms.getD i default).copy.se
def ShowI (last : ViewT) (g : GrpT) : Prop :=
  (g.opn = true → AllSe g.mem (fun e => e = last.se) ∧ ((own0 g).up = true → last = viewOf (own0 g))) ∧
  (g.opn = false → AllSe g.mem (fun e => last.se ≤ e) ∧ ((own0 g).up = true → last.se < (own0 g).copy.se))
def Later (last : ViewT) (v : ViewT) : Prop := last.se < v.se ∨ (last.se = v.se ∧ last.sv < v.sv) ∨ last = v
def ShowJ (last : ViewT) (g : GrpT) : Prop :=
  (g.opn = true → ((own0 g).up = false → AllSe g.mem (fun e => e = last.se)) ∧ ((own0 g).up = true → AllSe g.mem (fun e => e = (own0 g).copy.se) ∧ Later last (viewOf (own0 g)))) ∧
  (g.opn = false → AllSe g.mem (fun e => last.se ≤ e) ∧ ((own0 g).up = true → last.se < (own0 g).copy.se))
theorem AllSe.set {ms : List MemT} {P : Int → Prop} {p : Nat} {x : MemT} (h : AllSe ms P) (hx : x.up = true → P x.copy.se) : AllSe (ms.set p x) P := by
  intro i hi hu
  rw [List.length_set] at hi
  by_cases e : i = p
  · subst e
    rw [getD_set_self hi] at hu ⊢
    exact hx hu
  · rw [getD_set_ne e] at hu ⊢
    exact h i hi hu
theorem AllSe.imp {ms : List MemT} {P Q : Int → Prop} (h : AllSe ms P) (hq : ∀ e, P e → Q e) : AllSe ms Q := fun i hi hu => hq _ (h i hi hu)
theorem show_j {last : ViewT} {g : GrpT} (h : ShowI last g) : ShowJ last g := by
  refine ⟨fun ho => ⟨fun _ => (h.1 ho).1, fun hu => ?_⟩, h.2⟩
  have h1 := h.1 ho
  have h2 := h1.2 hu
  refine ⟨h1.1.imp fun e he => by rw [he, h2]; rfl, .inr (.inr h2)⟩
theorem show_view {last : ViewT} {g : GrpT} (h : ShowJ last g) (hv : (viewG g).2 = 0) : (viewG g).1 = viewOf (own0 g) ∧ Later last (viewOf (own0 g)) ∧ ShowI (viewOf (own0 g)) g := by
  unfold viewG at hv ⊢
  split at hv
  · simp at hv
  · rename_i h1
    split at hv
    · simp at hv
    · rename_i h2
      have h1' : (ownerG g).2 = true := by simpa using h1
      have h2' : g.opn = true := by simpa using h2
      obtain ⟨k1, k2⟩ := own_of h1'
      rw [if_neg h1, if_neg h2, k1]
      obtain ⟨k3, k4⟩ := (h.1 h2').2 k2
      exact ⟨rfl, k4, fun _ => ⟨k3, fun _ => rfl⟩, fun h9 => by rw [h2'] at h9; cases h9⟩
theorem show_none {last : ViewT} {g : GrpT} (hn : 1 ≤ g.mem.length) (h : ShowJ last g) (hv : ¬ (viewG g).2 = 0) : ShowI last g := by
  refine ⟨fun ho => ?_, h.2⟩
  cases hu : (own0 g).up with
  | false => exact ⟨(h.1 ho).1 hu, fun h9 => by cases h9⟩
  | true =>
    exfalso
    apply hv
    have : ownerG g = (own0 g, true) := by
      unfold ownerG
      rw [if_neg (by omega), if_pos hu]
    rw [view_ok (by rw [this]) ho]
theorem show_new {c : CopyT} {n : Nat} (h1 : 1 ≤ n) (h5 : n ≤ 5) : ShowI (viewOf (own0 ⟨1, true, memG c n⟩)) ⟨1, true, memG c n⟩ := by
  have e : own0 ⟨1, true, memG c n⟩ = ⟨10 + ((0 : Nat) : Int), true, c⟩ := memG_get (by omega)
  refine ⟨fun _ => ⟨fun i hi hu => ?_, fun _ => rfl⟩, fun h => by cases h⟩
  simp only [memG_len] at hi
  rw [e, memG_get hi]; rfl
/-- a change of the owner that keeps its stamp's epoch -/
theorem show_with {last : ViewT} {g : GrpT} {c : CopyT} (hn : 1 ≤ g.mem.length) (h : ShowI last g) (hu : (own0 g).up = true) (he : c.se = (own0 g).copy.se)
    (hs : g.opn = true → Later (viewOf (own0 g)) (viewOf { own0 g with copy := c })) : ShowJ last (withG g c) := by
  have e : own0 (withG g c) = { own0 g with copy := c } := getD_set_self (by omega)
  refine ⟨fun ho => ?_, fun ho => ?_⟩
  · have ho' : g.opn = true := ho
    have h2 := (h.1 ho').2 hu
    refine ⟨fun h9 => ?_, fun _ => ?_⟩
    · rw [e] at h9; rw [hu] at h9; cases h9
    · rw [e]
      refine ⟨AllSe.set ((h.1 ho').1.imp fun a ha => ?_) fun _ => ?_, by rw [h2]; exact hs ho'⟩
      · rw [ha, h2]; exact he.symm
      · rfl
  · have ho' : g.opn = false := ho
    have h2 := (h.2 ho').2 hu
    refine ⟨AllSe.set (h.2 ho').1 fun _ => ?_, fun _ => ?_⟩
    · simp only; rw [he]; omega
    · rw [e]; simp only; rw [he]; exact h2
theorem show_propose {last : ViewT} {g : GrpT} {w : Wr} (hn : 1 ≤ g.mem.length) (h : ShowI last g) (he : (proposeG g w).2 = 0) : ShowJ last (proposeG g w).1 := by
  obtain ⟨h1, h2, h3⟩ := propose_inv he
  obtain ⟨k1, k2⟩ := own_of h1
  obtain ⟨e, _⟩ := append_okC h2
  rw [h3, e, k1]
  exact show_with hn h k2 rfl fun _ => .inr (.inr rfl)
theorem show_commit {last : ViewT} {g : GrpT} (hn : 1 ≤ g.mem.length) (h : ShowI last g) (he : (commitG g).2 = 0) : ShowJ last (commitG g).1.1 := by
  obtain ⟨h1, _, h3, h4⟩ := commit_inv he
  obtain ⟨k1, k2⟩ := own_of h1
  obtain ⟨e, _⟩ := commit_okC h3
  rw [h4, e, k1]
  refine show_with hn h k2 rfl fun _ => .inr (.inl ⟨rfl, ?_⟩)
  show (own0 g).copy.sv < (own0 g).copy.sv + 1
  omega
theorem show_replicate {last : ViewT} {g : GrpT} {id : Int} (hn : 1 ≤ g.mem.length) (h : ShowI last g) (he : (replicateG g id).2 = 0) : ShowJ last (replicateG g id).1 := by
  obtain ⟨h1, h2, h3⟩ := replicate_inv he
  obtain ⟨k1, k2⟩ := own_of h1
  obtain ⟨i1, _, i3⟩ := index_nat h2
  rw [replicate_ok h1 h2 h3, k1]
  have e : ∀ x, (g.mem.set (indexG g.mem id 1).toNat x).getD 0 default = own0 g := fun x => getD_set_ne (by omega)
  refine show_j ⟨fun ho => ⟨AllSe.set (h.1 ho).1 fun _ => ?_, fun hu => ?_⟩, fun ho => ⟨AllSe.set (h.2 ho).1 fun _ => ?_, fun hu => ?_⟩⟩
  · exact (h.1 ho).1 0 (by omega) k2
  · show last = viewOf (List.getD _ 0 (default : MemT))
    rw [e]; exact (h.1 ho).2 k2
  · exact (h.2 ho).1 0 (by omega) k2
  · show last.se < (List.getD _ 0 (default : MemT)).copy.se
    rw [e]; exact (h.2 ho).2 k2
theorem show_crash {last : ViewT} {g : GrpT} {id : Int} (hn : 1 ≤ g.mem.length) (h : ShowI last g) (he : (crashG g id).2 = 0) : ShowJ last (crashG g id).1 := by
  obtain ⟨h1, _, h4⟩ := crash_inv he
  obtain ⟨i1, _, _⟩ := index_nat h1
  rw [h4]
  have e : ∀ x : MemT, x.up = false → (List.getD (g.mem.set (indexG g.mem id 0).toNat x) 0 default).up = true → List.getD (g.mem.set (indexG g.mem id 0).toNat x) 0 default = own0 g ∧ (own0 g).up = true := fun x hx hu => by
    by_cases e : 0 = (indexG g.mem id 0).toNat
    · rw [← e, getD_set_self (by omega), hx] at hu; cases hu
    · rw [getD_set_ne e] at hu ⊢; exact ⟨rfl, hu⟩
  refine show_j ⟨fun ho => ⟨AllSe.set (h.1 ho).1 fun h9 => (by cases h9), fun hu => ?_⟩, fun ho => ⟨AllSe.set (h.2 ho).1 fun h9 => (by cases h9), fun hu => ?_⟩⟩
  · obtain ⟨e1, e2⟩ := e _ rfl hu
    show last = viewOf (List.getD _ 0 (default : MemT))
    rw [e1]; exact (h.1 ho).2 e2
  · obtain ⟨e1, e2⟩ := e _ rfl hu
    show last.se < (List.getD _ 0 (default : MemT)).copy.se
    rw [e1]; exact (h.2 ho).2 e2
theorem show_change {last : ViewT} {g : GrpT} (hn : 1 ≤ g.mem.length) (h : ShowI last g) (he : (changeG g (own0 g).copy []).2 = 0) : ShowJ last (changeG g (own0 g).copy []).1 := by
  obtain ⟨h1, h2, _, h4, h5⟩ := change_inv he
  obtain ⟨k1, k2⟩ := own_of h1
  rw [k1] at h4 h5
  obtain ⟨_, r2, _⟩ := renew_one' h4
  rw [h5, r2]
  have h6 := h.1 h2
  have h7 := h6.1 0 (by omega) k2
  refine ⟨fun ho => (by cases ho), fun _ => ⟨AllSe.set (h6.1.imp fun a ha => by omega) fun _ => ?_, fun _ => ?_⟩⟩
  · have : last.se = (own0 g).copy.se := h7.symm
    simp only; omega
  · have : last.se = (own0 g).copy.se := h7.symm
    show last.se < (List.getD (g.mem.set 0 _) 0 default).copy.se
    rw [getD_set_self (by omega)]; simp only; omega
theorem show_take {last : ViewT} {g : GrpT} (hn : 1 ≤ g.mem.length) (h : ShowI last g) (he : (takeG g).2 = 0) : ShowJ last (takeG g).1 := by
  obtain ⟨i, i0, hi, _, hu, hd, hr, e⟩ := take_inv he
  obtain ⟨_, r2, _⟩ := renew_one' hr
  rw [e, r2]
  have hall : AllSe g.mem (fun a => last.se ≤ a) := by
    cases ho : g.opn with
    | true => exact (h.1 ho).1.imp fun a ha => by omega
    | false => exact (h.2 ho).1
  have h7 := hall i hi hu
  refine ⟨fun ho => (by cases ho), fun _ => ⟨fun j hj hj2 => ?_, fun _ => ?_⟩⟩
  · simp only at hj hj2 ⊢
    rw [taken_len hi] at hj
    rw [taken_get hi hj] at hj2 ⊢
    by_cases e0 : j = 0
    · rw [if_pos e0] at hj2 ⊢
      simp only; omega
    · rw [if_neg e0] at hj2 ⊢
      refine hall _ ?_ hj2
      split <;> omega
  · show last.se < (List.getD (takenL g.mem i _) 0 default).copy.se
    rw [taken_get hi (by omega), if_pos rfl]
    simp only; omega
theorem ready_inv {g : GrpT} (h : readyG g = true) : (ownerG g).2 = true ∧ g.opn = false ∧ ∀ i, 1 ≤ i → i < g.mem.length → (g.mem.getD i default).up = true → sameC (g.mem.getD i default).copy (ownerG g).1.copy = true := by
  simp only [readyG, Bool.and_eq_true, Bool.not_eq_true', List.any_eq_false] at h
  refine ⟨h.1, h.2.1, fun i h1 hi hu => ?_⟩
  have hm : g.mem.getD i default ∈ g.mem.drop 1 := by
    rw [List.mem_iff_getElem]
    refine ⟨i - 1, by simp; omega, ?_⟩
    have : (g.mem.drop 1)[i - 1]'(by simp; omega) = g.mem[i] := by rw [List.getElem_drop]; congr 1; omega
    rw [this]
    simp [List.getD, hi]
  have := h.2.2 _ hm
  simpa [-List.getD_eq_getElem?_getD, stale, hu] using this
theorem sameC_se {a b : CopyT} (h : sameC a b = true) : a.se = b.se := by
  simp only [sameC, Bool.and_eq_true, beq_iff_eq, decide_eq_true_eq] at h
  omega
theorem show_finish {last : ViewT} {g : GrpT} (hn : 1 ≤ g.mem.length) (h : ShowI last g) (he : (finishG g).2 = 0) : ShowJ last (finishG g).1.1 := by
  obtain ⟨h1, h2, h3, h4, h5⟩ := finish_inv he
  obtain ⟨k1, k2⟩ := own_of h1
  obtain ⟨_, _, k6⟩ := ready_inv h3
  rw [h5]
  rw [k1] at h4 k6 ⊢
  obtain ⟨_, _, _, s4, _⟩ := settle_keep h4
  have h7 := (h.2 h2).2 k2
  have e : own0 (openG g (settleF (own0 g).copy).1) = { own0 g with copy := (settleF (own0 g).copy).1 } := getD_set_self (by omega)
  refine ⟨fun _ => ⟨fun h9 => (by rw [e, k2] at h9; cases h9), fun _ => ?_⟩, fun ho => by cases ho⟩
  rw [e]
  refine ⟨AllSe.set (fun j hj hu => ?_) fun _ => rfl, .inl ?_⟩
  · show _ = (settleF (own0 g).copy).1.se
    rw [s4]
    by_cases j0 : j = 0
    · subst j0; rfl
    · exact sameC_se (k6 j (by omega) hj hu)
  · show last.se < (settleF (own0 g).copy).1.se
    rw [s4]; exact h7
theorem later_cmp {a b : ViewT} (h : Later a b) : cmpS a.se a.sv b.se b.sv ≤ 0 ∧ (cmpS a.se a.sv b.se b.sv = 0 → a = b) := by
  unfold cmpS
  rcases h with h | h | h
  · rw [if_neg (by omega), if_pos (by omega)]; exact ⟨by omega, fun h => by omega⟩
  · rw [if_neg (by omega), if_pos (by omega)]; exact ⟨by omega, fun h => by omega⟩
  · subst h; rw [if_pos ⟨rfl, rfl⟩]; exact ⟨by omega, fun _ => rfl⟩
theorem view_rows {g : GrpT} (h : GrpB 1000 g) : (viewG g).1.rows.length ≤ 1000000 := by
  unfold viewG
  repeat' split
  · exact Nat.zero_le _
  · exact Nat.zero_le _
  · exact (owner_small h).1
end Go.Sx

namespace Go.Sx
open Go
set_option linter.unusedVariables false
set_option linter.unusedSimpArgs false

/-! a closed group is opened (chapter 26) -/
theorem settleC_ok : ∀ (k : Nat) {c : CopyT}, validC c = true → c.pend.length ≤ k → c.sv + k < 1099511627776 → (settleC k c).2 = 0 ∧ (settleC k c).1.pend.length = 0
  | 0, c, hv, hp, hs => ⟨rfl, by show c.pend.length = 0; omega⟩
  | k + 1, c, hv, hp, hs => by
    unfold settleC
    by_cases h0 : c.pend.length = 0
    · rw [if_pos h0]; exact ⟨rfl, h0⟩
    · rw [if_neg h0]
      have hc : (commitC c).2 = 0 := by
        unfold commitC
        rw [if_neg (by simp [hv]), if_neg h0, if_neg (by omega)]
      rw [if_pos hc]
      obtain ⟨e, _, _, _, _, hv2⟩ := commit_okC hc
      refine settleC_ok k hv2 ?_ ?_
      · rw [e]; simp only [List.length_drop]; omega
      · rw [e]; simp only; omega
theorem settle_ok {c : CopyT} (hv : validC c = true) (hs : c.sv ≤ 1000000000) : (settleF c).2 = 0 ∧ (settleF c).1.pend.length = 0 := by
  obtain ⟨_, _, _, _, h5, _⟩ := valid_head hv
  unfold settleF
  rw [if_neg (by simp [hv])]
  exact settleC_ok _ hv (by omega) (by omega)
theorem ext_get {a b : List MemT} (hl : a.length = b.length) (h : ∀ j, j < a.length → a.getD j default = b.getD j default) : a = b := by
  apply List.ext_getElem hl
  intro j h1 h2
  have := h j h1
  simpa [List.getD, h1, h2] using this
def fillM (o : CopyT) (m : MemT) : MemT := if m.up then { m with copy := o } else m
def allAt (G : GrpT) (k : Nat) : GrpT := { G with mem := (G.mem.take k).map (fillM (own0 G).copy) ++ G.mem.drop k }
theorem all_len {G : GrpT} {k : Nat} (hk : k ≤ G.mem.length) : (allAt G k).mem.length = G.mem.length := by
  simp only [allAt, List.length_append, List.length_map, List.length_take, List.length_drop]; omega
theorem all_get {G : GrpT} {k j : Nat} (hk : k ≤ G.mem.length) (hj : j < G.mem.length) : (allAt G k).mem.getD j default = if j < k then fillM (own0 G).copy (G.mem.getD j default) else G.mem.getD j default := by
  simp only [allAt, List.getD]
  by_cases h : j < k
  · rw [if_pos h, List.getElem?_append_left (by simp; omega)]
    simp [h, hj]
  · rw [if_neg h, List.getElem?_append_right (by simp; omega)]
    simp only [List.length_map, List.length_take, List.getElem?_drop]
    congr 2
    omega
theorem fill_id {o : CopyT} {m : MemT} : (fillM o m).id = m.id := by unfold fillM; split <;> rfl
theorem fill_up {o : CopyT} {m : MemT} : (fillM o m).up = m.up := by unfold fillM; split <;> rfl
theorem all_id {G : GrpT} {k j : Nat} (hk : k ≤ G.mem.length) (hj : j < G.mem.length) : ((allAt G k).mem.getD j default).id = (G.mem.getD j default).id := by
  rw [all_get hk hj]; split
  · exact fill_id
  · rfl
theorem all_up {G : GrpT} {k j : Nat} (hk : k ≤ G.mem.length) (hj : j < G.mem.length) : ((allAt G k).mem.getD j default).up = (G.mem.getD j default).up := by
  rw [all_get hk hj]; split
  · exact fill_up
  · rfl
theorem all_own {G : GrpT} {k : Nat} (hk : k ≤ G.mem.length) (hn : 1 ≤ G.mem.length) (hu : (own0 G).up = true) : own0 (allAt G k) = own0 G := by
  have h : (allAt G k).mem.getD 0 default = own0 G := by
    rw [all_get hk (by omega)]
    split
    · show fillM (own0 G).copy (own0 G) = own0 G
      unfold fillM
      rw [if_pos hu]
    · rfl
  exact h
theorem owner_up {g : GrpT} (hn : 1 ≤ g.mem.length) (hu : (own0 g).up = true) : ownerG g = (own0 g, true) := by
  unfold ownerG
  rw [if_neg (by omega), if_pos hu]
theorem all_uniq {G : GrpT} {k : Nat} (hk : k ≤ G.mem.length) (h : Uniq G.mem) : Uniq (allAt G k).mem := by
  intro i j hi hj e
  rw [all_len hk] at hi hj
  rw [all_id hk hi, all_id hk hj] at e
  exact h i j hi hj e
theorem all_same {G : GrpT} {k : Nat} (hk : k < G.mem.length) (hu : (G.mem.getD k default).up = false) : allAt G (k + 1) = allAt G k := by
  have : (allAt G (k + 1)).mem = (allAt G k).mem := by
    refine ext_get (by rw [all_len (by omega), all_len (by omega)]) fun j hj => ?_
    rw [all_len (by omega)] at hj
    rw [all_get (by omega) hj, all_get (by omega) hj]
    by_cases h1 : j < k
    · rw [if_pos h1, if_pos (by omega)]
    · rw [if_neg h1]
      by_cases h2 : j = k
      · subst h2
        rw [if_pos (by omega)]
        unfold fillM
        rw [if_neg (by simp only [hu]; simp)]
      · rw [if_neg (by omega)]
  simp only [allAt] at this ⊢
  rw [this]
theorem all_rep {G : GrpT} {k : Nat} (h0 : 1 ≤ k) (hk : k < G.mem.length) (hq : Uniq G.mem) (ho : (own0 G).up = true) (hu : (G.mem.getD k default).up = true) : replicateG (allAt G k) (G.mem.getD k default).id = (allAt G (k + 1), 0) := by
  have hl := all_len (G := G) (k := k) (by omega)
  have how := owner_up (g := allAt G k) (by omega) (by rw [all_own (by omega) (by omega) ho]; exact ho)
  rw [all_own (by omega) (by omega) ho] at how
  have hix : indexG (allAt G k).mem (G.mem.getD k default).id 1 = (k : Nat) := by
    have := index_at (ms := (allAt G k).mem) (f := 1) (i := k) (all_uniq (by omega) hq) h0 (by omega)
    rw [all_id (by omega) hk] at this
    exact this
  rw [replicate_ok (by rw [how]) (by rw [hix]; omega) (by rw [hix, Int.toNat_natCast, all_up (by omega) hk]; exact hu), how, hix, Int.toNat_natCast]
  have : (allAt G k).mem.set k { (allAt G k).mem.getD k default with copy := (own0 G).copy } = (allAt G (k + 1)).mem := by
    refine ext_get (by rw [List.length_set, hl, all_len (by omega)]) fun j hj => ?_
    rw [List.length_set, hl] at hj
    rw [all_get (k := k + 1) (by omega) hj]
    by_cases h2 : j = k
    · subst h2
      rw [getD_set_self (by omega), if_pos (by omega), all_get (by omega) hj, if_neg (by omega)]
      unfold fillM
      rw [if_pos hu]
    · rw [getD_set_ne h2, all_get (by omega) hj]
      by_cases h3 : j < k
      · rw [if_pos h3, if_pos (by omega)]
      · rw [if_neg h3, if_neg (by omega)]
  show (({ (allAt G k) with mem := _ } : GrpT), (0 : Int)) = _
  rw [this]
  rfl
theorem rec_all {G : GrpT} (hq : Uniq G.mem) (ho : (own0 G).up = true) : ∀ (n : Nat) {k : Nat}, n = G.mem.length - k → 1 ≤ k → k ≤ G.mem.length → recAt G.mem k (allAt G k) = (allAt G G.mem.length, 0)
  | 0, k, hn, h1, hk => by
    have : k = G.mem.length := by omega
    rw [rec_end (by omega), this]
  | n + 1, k, hn, h1, hk => by
    rw [rec_step (by omega)]
    have ih := rec_all hq ho n (k := k + 1) (by omega) (by omega) (by omega)
    split
    · rename_i hu
      rw [all_rep h1 (by omega) hq ho hu, if_neg (by simp)]
      exact ih
    · rename_i hu
      rw [← ih, all_same (by omega) (by simpa using hu)]
theorem all_one {G : GrpT} (hn : 1 ≤ G.mem.length) (ho : (own0 G).up = true) : allAt G 1 = G := by
  have : (allAt G 1).mem = G.mem := by
    refine ext_get (all_len hn) fun j hj => ?_
    rw [all_len hn] at hj
    rw [all_get hn hj]
    split
    · have : j = 0 := by omega
      subst this
      show fillM (own0 G).copy (own0 G) = own0 G
      unfold fillM
      rw [if_pos ho]
    · rfl
  simp only [allAt] at this ⊢
  rw [this]
/-- the replications of a list of numbers, errors or not -/
def runIds : List Int → GrpT → GrpT
  | [], g => g
  | id :: ids, g => runIds ids (replicateG g id).1
theorem run_all {G : GrpT} (hq : Uniq G.mem) (ho : (own0 G).up = true) : ∀ (n : Nat) {k : Nat}, n = G.mem.length - k → 1 ≤ k → k ≤ G.mem.length → runIds (liveL (G.mem.drop k)) (allAt G k) = allAt G G.mem.length
  | 0, k, hn, h1, hk => by
    have : k = G.mem.length := by omega
    rw [List.drop_eq_nil_of_le (by omega), this]; rfl
  | n + 1, k, hn, h1, hk => by
    rw [drop_cons' (by omega)]
    have ih := run_all hq ho n (k := k + 1) (by omega) (by omega) (by omega)
    cases hu : (G.mem.getD k default).up with
    | true =>
      have : liveL (G.mem.getD k default :: G.mem.drop (k + 1)) = (G.mem.getD k default).id :: liveL (G.mem.drop (k + 1)) := by
        unfold liveL
        rw [List.filter_cons_of_pos hu]; rfl
      rw [this]
      unfold runIds
      rw [all_rep h1 (by omega) hq ho hu]
      exact ih
    | false =>
      have : liveL (G.mem.getD k default :: G.mem.drop (k + 1)) = liveL (G.mem.drop (k + 1)) := by
        unfold liveL
        rw [List.filter_cons_of_neg (by simp only [hu]; simp)]
      rw [this, ← all_same (by omega) hu]
      exact ih
theorem live_own {G : GrpT} (hn : 1 ≤ G.mem.length) (ho : (own0 G).up = true) : liveL G.mem = (own0 G).id :: liveL (G.mem.drop 1) := by
  have : G.mem = own0 G :: G.mem.drop 1 := by
    have := drop_cons' (xs := G.mem) (i := 0) (by omega)
    rw [List.drop_zero] at this
    exact this
  conv => lhs; rw [this]
  unfold liveL
  rw [List.filter_cons_of_pos ho]; rfl
theorem opened {r : Rng} {n : Nat} {G : GrpT} (hE : EvM r n G.mem) (hnn : n ≤ 1000000) (hc : G.opn = false) (ho : (own0 G).up = true) :
    ∃ K, rec2 G = ((K, (own0 G).copy.pend), 0) ∧ finishG (runIds ((liveL G.mem).drop 1) G) = ((K, (own0 G).copy.pend), 0) ∧ readyG (runIds ((liveL G.mem).drop 1) G) = true ∧ K.opn = true ∧ K.mem.length = G.mem.length ∧
      (own0 K).copy = (settleF (own0 G).copy).1 ∧ (settleF (own0 G).copy).2 = 0 ∧ (own0 K).copy.pend.length = 0 ∧ (∀ i, i < K.mem.length → (K.mem.getD i default).up = (G.mem.getD i default).up) := by
  have hn1 := hE.n1
  have hr := run_all hE.uniq ho _ (k := 1) rfl (Nat.le_refl _) hn1
  have hc1 := rec_all hE.uniq ho _ (k := 1) rfl (Nat.le_refl _) hn1
  rw [all_one hn1 ho] at hr hc1
  rw [live_own hn1 ho, List.drop_one, List.tail_cons, hr]
  have hl := all_len (G := G) (Nat.le_refl _)
  have ha := all_own (G := G) (Nat.le_refl _) hn1 ho
  have how := owner_up (g := allAt G G.mem.length) (by omega) (by rw [ha]; exact ho)
  rw [ha] at how
  have hE0 := hE.at (i := 0) (by omega)
  obtain ⟨s1, s2⟩ := settle_ok (c := (own0 G).copy) hE0.v (by have := hE0.sv; show (G.mem.getD 0 default).copy.sv ≤ _; omega)
  have hrd : readyG (allAt G G.mem.length) = true := by
    unfold readyG
    rw [how]
    have h1 : (allAt G G.mem.length).opn = false := hc
    have h2 : ((allAt G G.mem.length).mem.drop 1).any (stale (own0 G).copy) = false := by
      rw [List.any_eq_false]
      intro m hm
      obtain ⟨j, hj, rfl⟩ := mem_getD (List.mem_of_mem_drop hm)
      rw [hl] at hj
      rw [all_get (Nat.le_refl _) hj, if_pos hj]
      unfold stale
      cases hu : (G.mem.getD j default).up with
      | true =>
        have : fillM (own0 G).copy (G.mem.getD j default) = { G.mem.getD j default with copy := (own0 G).copy } := by unfold fillM; rw [if_pos hu]
        rw [this]
        simp [sameC_refl]
      | false => rw [fill_up, hu]; simp
    rw [h1]
    show (true && (!false && !(List.any _ (stale (own0 G).copy)))) = true
    rw [h2]; rfl
  have hf : finishG (allAt G G.mem.length) = ((openG (allAt G G.mem.length) (settleF (own0 G).copy).1, (own0 G).copy.pend), 0) := by
    unfold finishG
    rw [how, if_neg (by simp), if_neg (by show ¬ G.opn = true; rw [hc]; simp), if_neg (by rw [hrd]; simp), if_neg (fun h => h s1)]
  have e : own0 (openG (allAt G G.mem.length) (settleF (own0 G).copy).1) = { own0 G with copy := (settleF (own0 G).copy).1 } := by
    show List.getD (List.set _ 0 _) 0 default = _
    rw [getD_set_self (by omega)]
    have ha' : (allAt G G.mem.length).mem.getD 0 default = own0 G := ha
    rw [ha']
  have hkl : (openG (allAt G G.mem.length) (settleF (own0 G).copy).1).mem.length = G.mem.length := by
    show (List.set _ 0 _).length = _
    rw [List.length_set, hl]
  refine ⟨_, ?_, hf, hrd, rfl, hkl, by rw [e], s1, by rw [e]; exact s2, fun i hi => ?_⟩
  · rw [rec2, hc1, if_neg (by simp)]; exact hf
  · rw [hkl] at hi
    show ((List.set (allAt G G.mem.length).mem 0 _).getD i default).up = _
    by_cases h0 : i = 0
    · subst h0
      rw [getD_set_self (by omega)]
      show (own0 (allAt G G.mem.length)).up = _
      rw [ha]
    · rw [getD_set_ne h0, all_up (Nat.le_refl _) hi]
end Go.Sx

namespace Go.Sx
open Go
set_option linter.unusedVariables false
set_option linter.unusedSimpArgs false

/-- a group is small -/
def smM (m : MemT) : Bool := decide ((m.copy.rows.length : Int) ≤ 40) && (decide ((m.copy.pend.length : Int) ≤ 80) && (decide ((m.copy.out.rows.length : Int) ≤ 40) && decide ((m.copy.inn.rows.length : Int) ≤ 40)))
def smallG (g : GrpT) : Bool := g.mem.all smM && decide ((g.mem.length : Int) ≤ 10)
theorem sm_step {ms : List MemT} {i : Nat} (h : i < ms.length) : (ms.drop i).all smM = (smM (ms.getD i default) && (ms.drop (i + 1)).all smM) := by
  rw [drop_cons' h, List.all_cons]
theorem sm_end {ms : List MemT} {i : Nat} (h : ms.length ≤ i) : (ms.drop i).all smM = true := by
  rw [List.drop_eq_nil_of_le h]; rfl
theorem smallG_b {g : GrpT} (h : smallG g = true) (hs : ∀ m ∈ g.mem, I64 m.copy.sv) : GrpB 1000 g := by
  simp only [smallG, Bool.and_eq_true, List.all_eq_true, decide_eq_true_eq] at h
  refine ⟨by omega, fun m hm => ⟨?_, hs m hm⟩⟩
  have := h.1 m hm
  simp only [smM, Bool.and_eq_true, decide_eq_true_eq] at this
  omega
end Go.Sx

namespace Go.Sx
open Go
set_option linter.unusedVariables false
set_option linter.unusedSimpArgs false

/-! drawn groups, changed in one thing -/
def PM (ms : List MemT) : Prop := ∀ m ∈ ms, m.copy.out = noPart ∧ m.copy.inn = noPart
theorem PM.at {ms : List MemT} (h : PM ms) {i : Nat} (hi : i < ms.length) : (ms.getD i default).copy.out = noPart ∧ (ms.getD i default).copy.inn = noPart := h _ (getD_mem hi)
theorem PM.set {ms : List MemT} {p : Nat} {x : MemT} (h : PM ms) (hx : x.copy.out = noPart ∧ x.copy.inn = noPart) : PM (ms.set p x) := by
  intro m hm
  rcases List.mem_or_eq_of_mem_set hm with hm | rfl
  · exact h m hm
  · exact hx
theorem pm_own {g : GrpT} (hn : 1 ≤ g.mem.length) (h : PM g.mem) (ho : (ownerG g).2 = true) : (ownerG g).1.copy.out = noPart ∧ (ownerG g).1.copy.inn = noPart := by
  rw [(own_of ho).1]; exact h.at (by omega)
theorem pm_propose {g : GrpT} {w : Wr} (hn : 1 ≤ g.mem.length) (h : PM g.mem) (he : (proposeG g w).2 = 0) : PM (proposeG g w).1.mem := by
  obtain ⟨h1, h2, h3⟩ := propose_inv he
  obtain ⟨e, _⟩ := append_okC h2
  rw [h3, e]
  exact h.set (pm_own hn h h1)
theorem pm_commit {g : GrpT} (hn : 1 ≤ g.mem.length) (h : PM g.mem) (he : (commitG g).2 = 0) : PM (commitG g).1.1.mem := by
  obtain ⟨h1, _, h3, h4⟩ := commit_inv he
  obtain ⟨e, _⟩ := commit_okC h3
  rw [h4, e]
  exact h.set (pm_own hn h h1)
theorem pm_replicate {g : GrpT} {id : Int} (hn : 1 ≤ g.mem.length) (h : PM g.mem) (he : (replicateG g id).2 = 0) : PM (replicateG g id).1.mem := by
  obtain ⟨h1, h2, h3⟩ := replicate_inv he
  rw [replicate_ok h1 h2 h3]
  exact h.set (pm_own hn h h1)
theorem pm_crash {g : GrpT} {id : Int} (h : PM g.mem) (he : (crashG g id).2 = 0) : PM (crashG g id).1.mem := by
  obtain ⟨h1, _, h4⟩ := crash_inv he
  obtain ⟨i1, _, _⟩ := index_nat h1
  rw [h4]
  exact h.set (h.at i1)
theorem pm_take {g : GrpT} (h : PM g.mem) (he : (takeG g).2 = 0) : PM (takeG g).1.mem := by
  obtain ⟨i, _, hi, _, _, _, _, e⟩ := take_inv he
  rw [e]
  intro m hm
  simp only [takenL, List.mem_cons, List.mem_append] at hm
  rcases hm with rfl | hm | hm
  · exact h.at hi
  · exact h m (List.mem_of_mem_take hm)
  · exact h m (List.mem_of_mem_drop hm)
theorem pm_finish {g : GrpT} (hn : 1 ≤ g.mem.length) (h : PM g.mem) (he : (finishG g).2 = 0) : PM (finishG g).1.1.mem := by
  obtain ⟨h1, _, _, h4, h5⟩ := finish_inv he
  obtain ⟨_, _, _, _, _, _, h6, h7⟩ := settle_keep h4
  have := pm_own hn h h1
  rw [h5]
  exact h.set (by simp only; rw [h6, h7]; exact this)
theorem pm_change {g : GrpT} (hn : 1 ≤ g.mem.length) (h : PM g.mem) (he : (changeG g (own0 g).copy []).2 = 0) : PM (changeG g (own0 g).copy []).1.mem := by
  obtain ⟨_, _, _, _, h5⟩ := change_inv he
  rw [h5]
  exact h.set (h.at (i := 0) (by omega))
theorem pm_new {c : CopyT} {n : Nat} (h : c.out = noPart ∧ c.inn = noPart) : PM (memG c n) := by
  intro m hm
  obtain ⟨i, hi, rfl⟩ := mem_getD hm
  rw [memG_len] at hi
  rw [memG_get hi]; exact h
theorem copyB_of {c : CopyT} (hv : validC c = true) (h : c.out = noPart ∧ c.inn = noPart) : CopyB 1100 c := by
  obtain ⟨h1, h2, h3, _, h5, _⟩ := valid_head hv
  have h6 := (valid_rest hv).2
  have h7 := stamp_of.1 h2
  have h8 := h3.len
  simp only [validR', validR, CopyT.rng, Bool.and_eq_true, validB, decide_eq_true_eq] at h1
  have ht : I64 c.took ∧ I64 c.src := by
    simp only [tookC, serOk, numOk, Bool.or_eq_true, Bool.and_eq_true, beq_iff_eq, decide_eq_true_eq] at h6
    unfold I64
    omega
  exact ⟨by omega, by omega, by rw [h.1]; exact noPart_b, by rw [h.2]; exact noPart_b, ht.1, ht.2, by unfold I64; omega, by unfold I64; omega, by omega, by omega⟩
structure OddB (n : Nat) (g : GrpT) : Prop where
  len : g.mem.length ≤ 100
  all : ∀ m ∈ g.mem, CopyB n m.copy
theorem OddB.b {n : Nat} {g : GrpT} (h : OddB n g) (hn : n ≤ 1000000) : GrpB 1000 g :=
  ⟨by have := h.len; omega, fun m hm => by
    have := h.all m hm
    have h1 := this.rows
    have h2 := this.pend
    have h3 := this.out.rows
    have h4 := this.inn.rows
    exact ⟨⟨by omega, by omega, by omega, by omega⟩, this.sv⟩⟩
theorem OddB.mono {n k : Nat} {g : GrpT} (h : OddB n g) (hk : n ≤ k) : OddB k g := ⟨h.len, fun m hm => (h.all m hm).mono hk⟩
theorem OddB.at {n : Nat} {g : GrpT} (h : OddB n g) {i : Nat} (hi : i < g.mem.length) : CopyB n (g.mem.getD i default).copy := h.all _ (getD_mem hi)
theorem odd_set {n : Nat} {g : GrpT} {p : Nat} {x : MemT} {a : Int} {b : Bool} (h : OddB n g) (hx : CopyB (n + 1) x.copy) : OddB (n + 1) ⟨a, b, g.mem.set p x⟩ := by
  refine ⟨by simpa using h.len, fun m hm => ?_⟩
  rcases List.mem_or_eq_of_mem_set hm with hm | rfl
  · exact (h.all m hm).mono (by omega)
  · exact hx
theorem odd_take {n k : Nat} {g : GrpT} {a : Int} {b : Bool} (h : OddB n g) : OddB (n + 1) ⟨a, b, g.mem.take k⟩ :=
  ⟨by have := h.len; simp only [List.length_take]; omega, fun m hm => (h.all m (List.mem_of_mem_take hm)).mono (by omega)⟩
theorem odd_same {n : Nat} {g : GrpT} {a : Int} {b : Bool} (h : OddB n g) : OddB (n + 1) ⟨a, b, g.mem⟩ := ⟨h.len, fun m hm => (h.all m hm).mono (by omega)⟩
theorem ev_odd {r : Rng} {n : Nat} {g : GrpT} (h : EvM r n g.mem) (hp : PM g.mem) : OddB 1100 g := ⟨by have := h.le; omega, fun m hm => copyB_of (h.all m hm).v (hp m hm)⟩
theorem row_setI0 {ms : List MemT} {p n : Nat} {v : Int} (hp : p < ms.length) : RowLe n 32 (fun i' j' => if i' = p then if j' < 0 + 0 then cellOf encMem ms i' j' else if j' < 0 + 0 + [D.int .i64 v].length then [D.int .i64 v].getD (j' - (0 + 0)) default else cellOf encMem ms i' j' else cellOf encMem ms i' j')
    (cellOf encMem (ms.set p { ms.getD p default with id := v })) := by
  refine .of_eq fun i' j' _ hj => ?_
  by_cases hi : i' = p
  · subst hi
    simp only [cellOf, if_pos, getD_set_self hp, List.length_singleton]
    match j', hj with
    | 0, _ => rfl
    | j + 1, hj =>
      rw [if_neg (by omega), if_neg (by omega)]
      rfl
  · simp only [if_neg hi, cellOf, getD_set_ne hi]
theorem row_setI {ms : List MemT} {p n : Nat} {v : Int} (hp : p < ms.length) : RowLe n 32 (fun i j => if 0 + i = 0 + p then if j < 0 + 0 then cellOf encMem ms (0 + i) j else if j < 0 + 0 + [D.int .i64 v].length then [D.int .i64 v].getD (j - (0 + 0)) default else cellOf encMem ms (0 + i) j else cellOf encMem ms (0 + i) j)
    (cellOf encMem (ms.set p { ms.getD p default with id := v })) := by
  have := row_setI0 (n := n) (v := v) hp
  simp only [Nat.zero_add] at this ⊢
  exact this
theorem cut_leaf {ms : List MemT} {v : Int} (h : 0 ≤ v ∧ v ≤ (ms.length : Int)) : DLe (.list v.toNat 32 fun i j => cellOf encMem ms (0 + Int.toNat 0 + i) j) (encL encMem 32 (ms.take v.toNat)) :=
  DLe.rows (by simp only [List.length_take]; omega) (.of_eq fun i j hi _ => by
    have hi : i < v.toNat := by simp only [List.length_take] at hi; omega
    have e : 0 + Int.toNat 0 + i = i := by simp
    rw [e]
    unfold cellOf
    have : (ms.take v.toNat).getD i default = ms.getD i default := by simp [List.getD, List.getElem?_take, hi]
    rw [this])
theorem odd_snoc {n : Nat} {ms : List MemT} (h : ∀ m ∈ ms, CopyB n m.copy) {x : Int} (h0 : 0 < ms.length) : ∀ m ∈ ms ++ [{ ms.getD 0 default with id := x }], CopyB n m.copy := by
  intro m hm
  rw [List.mem_append, List.mem_singleton] at hm
  rcases hm with hm | rfl
  · exact h m hm
  · show CopyB n (ms.getD 0 default).copy
    exact h _ (getD_mem h0)
end Go.Sx
