/- Contracts of functions that the law reaches: YtcllahjpinbiaaaDoorColM. Written for this claim. -/
import Derived.Test.YtcllahjpinbiaaaDoorColA
import Derived.Test.YtcllahjpinbiaaaDoorOddG
namespace Go.Proofs.YtcllahjpinbiaaaDoor
open Go Go.Sx Go.ChangeShapes Go.WideShapes Go.ChangeAt Go.WideMaps Go.WideElems Go.RowKit
set_option linter.unusedVariables false
set_option linter.unusedSimpArgs false
set_option maxRecDepth 100000
def encLM (x : List MrkT) : List D := [encL encMrk 2 x]
theorem marks2_lit {a b : List MrkT} {g : Nat → Nat → D} (h0 : DLe (g 0 0) (encL encMrk 2 a)) (h1 : DLe (g 1 0) (encL encMrk 2 b)) : RowLe 2 1 g (cellOf encLM [a, b]) :=
  ⟨fun i j hi hj => by
    have : j = 0 := by omega
    subst this
    match i, hi with
    | 0, _ => exact h0
    | 1, _ => exact h1⟩
theorem mrk_pick {a b : List MrkT} {i : Nat} (ha : MrkB a) (hb : MrkB b) : MrkB ([a, b].getD i default) := by
  match i with
  | 0 => exact ha
  | 1 => exact hb
  | i + 2 => exact ⟨by simp [List.getD, default], by simp [List.getD, default]⟩
theorem drawn_odd {i : Nat} {g : GrpT} (h : DrawnG i g) : OddB 1100 g := ⟨by have := h.n3; omega, fun m hm => copyB_of (h.snd.all m hm).2.1 (h.pm m hm)⟩
/-- groups, some of them changed -/
structure OddN (n i : Nat) (gs : List GrpT) : Prop where
  len : gs.length = n
  all : ∀ j, j < n → OddB 1101 (gs.getD j default)
  rest : ∀ j, i ≤ j → j < n → OddB 1100 (gs.getD j default)
theorem oddn_zero {gs : List GrpT} (h : NetQ gs) : OddN gs.length 0 gs := ⟨rfl, fun j hj => (drawn_odd (h.all j hj)).mono (by omega), fun j _ hj => drawn_odd (h.all j hj)⟩
theorem oddn_same {n i : Nat} {gs : List GrpT} (h : OddN n i gs) : OddN n (i + 1) gs := ⟨h.len, h.all, fun j h1 h2 => h.rest j (by omega) h2⟩
theorem oddn_set {n i : Nat} {gs : List GrpT} {g : GrpT} (h : OddN n i gs) (hg : OddB 1101 g) : OddN n (i + 1) (gs.set i g) := by
  refine ⟨by simpa using h.len, fun j hj => ?_, fun j h1 hj => ?_⟩
  · by_cases e : i = j
    · subst e; simp [List.getD, h.len, hj]; exact hg
    · have := h.all j hj
      simpa [List.getD, List.getElem?_set_ne e] using this
  · have := h.rest j (by omega) hj
    have e : i ≠ j := by omega
    simpa [List.getD, List.getElem?_set_ne e] using this
theorem oddn_b {n i : Nat} {gs : List GrpT} (h : OddN n i gs) (hn : n ≤ 1000) : NetB gs := by
  refine ⟨by rw [h.len]; exact hn, fun g hg => ?_⟩
  obtain ⟨j, hj, rfl⟩ := List.getElem_of_mem hg
  have := (h.all j (by rw [← h.len]; exact hj)).b (by omega)
  simpa [List.getD, hj] using this
theorem row_setGr {gs : List GrpT} {p n : Nat} {g : GrpT} {a : Int} {b : Bool} {ms : List MemT} (ha : a = g.num) (hb : b = g.opn) (hm : ms = g.mem) (hp : p < gs.length) : RowLe n 3 (fun i' j' => if i' = 0 + p then if j' < 0 then cellOf encGrp gs i' j' else if j' < 0 + [D.int .i64 a, D.bool b, encL encMem 32 ms].length then [D.int .i64 a, D.bool b, encL encMem 32 ms].getD (j' - 0) default else cellOf encGrp gs i' j' else cellOf encGrp gs i' j')
    (cellOf encGrp (gs.set p g)) := by
  subst ha; subst hb; subst hm
  refine .of_eq fun i' j' _ hj => ?_
  by_cases hi : i' = 0 + p
  · rw [Nat.zero_add] at hi
    subst hi
    simp only [Nat.zero_add, if_true, List.length_cons, List.length_nil]
    rw [if_neg (by omega), if_pos (by omega)]
    have e : (gs.set i' g).getD i' default = g := by simp [List.getD, hp]
    simp only [cellOf, e, encGrp, Nat.sub_zero]
  · have : i' ≠ p := by omega
    simp only [if_neg hi, cellOf]
    have e : (gs.set p g).getD i' default = gs.getD i' default := by simp [List.getD, List.getElem?_set_ne (Ne.symm this)]
    rw [e]
end Go.Proofs.YtcllahjpinbiaaaDoor
