/- Part of a symbolic executor over the model, proved sound, with plain laws: SxGrp9. Written for these claims. -/
import Derived.Test.YtegbenagmciegaaGreatDoorSxGrp
namespace Go.Sx
open Go
set_option linter.unusedVariables false
set_option linter.unusedSimpArgs false

/-! what is shown along a run (chapter 26) -/
def AllSe (ms : List MemT) (P : Int → Prop) : Prop := ∀ i, i < ms.length → (ms.getD i default).up = true → P (ms.getD i default).copy.se
def ShowI (last : ViewT) (g : GrpT) : Prop :=
  (g.opn = true → AllSe g.mem (fun e => e = last.se) ∧ ((own0 g).up = true → last = viewOf (own0 g))) ∧
  (g.opn = false → AllSe g.mem (fun e => last.se ≤ e) ∧ ((own0 g).up = true → last.se < (own0 g).copy.se))
def Later (last : ViewT) (v : ViewT) : Prop := last.se < v.se ∨ (last.se = v.se ∧ last.sv < v.sv) ∨ last = v
def ShowJ (last : ViewT) (g : GrpT) : Prop :=
  (g.opn = true → ((own0 g).up = false → AllSe g.mem (fun e => e = last.se)) ∧ ((own0 g).up = true → AllSe g.mem (fun e => e = (own0 g).copy.se) ∧ Later last (viewOf (own0 g)))) ∧
  (g.opn = false → AllSe g.mem (fun e => last.se ≤ e) ∧ ((own0 g).up = true → last.se < (own0 g).copy.se))
theorem AllSe.set {ms : List MemT} {P : Int → Prop} {p : Nat} {x : MemT} (h : AllSe ms P) (hx : x.up = true → P x.copy.se) : AllSe (ms.set p x) P := by
  intro i hi hu
  rw [List.length_set] at hi
  by_cases e : i = p
  · subst e
    rw [getD_set_self hi] at hu ⊢
    exact hx hu
  · rw [getD_set_ne e] at hu ⊢
    exact h i hi hu
theorem AllSe.imp {ms : List MemT} {P Q : Int → Prop} (h : AllSe ms P) (hq : ∀ e, P e → Q e) : AllSe ms Q := fun i hi hu => hq _ (h i hi hu)
theorem show_j {last : ViewT} {g : GrpT} (h : ShowI last g) : ShowJ last g := by
  refine ⟨fun ho => ⟨fun _ => (h.1 ho).1, fun hu => ?_⟩, h.2⟩
  have h1 := h.1 ho
  have h2 := h1.2 hu
  refine ⟨h1.1.imp fun e he => by rw [he, h2]; rfl, .inr (.inr h2)⟩
theorem show_view {last : ViewT} {g : GrpT} (h : ShowJ last g) (hv : (viewG g).2 = 0) : (viewG g).1 = viewOf (own0 g) ∧ Later last (viewOf (own0 g)) ∧ ShowI (viewOf (own0 g)) g := by
  unfold viewG at hv ⊢
  split at hv
  · simp at hv
  · rename_i h1
    split at hv
    · simp at hv
    · rename_i h2
      have h1' : (ownerG g).2 = true := by simpa using h1
      have h2' : g.opn = true := by simpa using h2
      obtain ⟨k1, k2⟩ := own_of h1'
      rw [if_neg h1, if_neg h2, k1]
      obtain ⟨k3, k4⟩ := (h.1 h2').2 k2
      exact ⟨rfl, k4, fun _ => ⟨k3, fun _ => rfl⟩, fun h9 => by rw [h2'] at h9; cases h9⟩
theorem show_none {last : ViewT} {g : GrpT} (hn : 1 ≤ g.mem.length) (h : ShowJ last g) (hv : ¬ (viewG g).2 = 0) : ShowI last g := by
  refine ⟨fun ho => ?_, h.2⟩
  cases hu : (own0 g).up with
  | false => exact ⟨(h.1 ho).1 hu, fun h9 => by cases h9⟩
  | true =>
    exfalso
    apply hv
    have : ownerG g = (own0 g, true) := by
      unfold ownerG
      rw [if_neg (by omega), if_pos hu]
    rw [view_ok (by rw [this]) ho]
theorem show_new {c : CopyT} {n : Nat} (h1 : 1 ≤ n) (h5 : n ≤ 5) : ShowI (viewOf (own0 ⟨1, true, memG c n⟩)) ⟨1, true, memG c n⟩ := by
  have e : own0 ⟨1, true, memG c n⟩ = ⟨10 + ((0 : Nat) : Int), true, c⟩ := memG_get (by omega)
  refine ⟨fun _ => ⟨fun i hi hu => ?_, fun _ => rfl⟩, fun h => by cases h⟩
  simp only [memG_len] at hi
  rw [e, memG_get hi]; rfl
/-- a change of the owner that keeps its stamp's epoch -/
theorem show_with {last : ViewT} {g : GrpT} {c : CopyT} (hn : 1 ≤ g.mem.length) (h : ShowI last g) (hu : (own0 g).up = true) (he : c.se = (own0 g).copy.se)
    (hs : g.opn = true → Later (viewOf (own0 g)) (viewOf { own0 g with copy := c })) : ShowJ last (withG g c) := by
  have e : own0 (withG g c) = { own0 g with copy := c } := getD_set_self (by omega)
  refine ⟨fun ho => ?_, fun ho => ?_⟩
  · have ho' : g.opn = true := ho
    have h2 := (h.1 ho').2 hu
    refine ⟨fun h9 => ?_, fun _ => ?_⟩
    · rw [e] at h9; rw [hu] at h9; cases h9
    · rw [e]
      refine ⟨AllSe.set ((h.1 ho').1.imp fun a ha => ?_) fun _ => ?_, by rw [h2]; exact hs ho'⟩
      · rw [ha, h2]; exact he.symm
      · rfl
  · have ho' : g.opn = false := ho
    have h2 := (h.2 ho').2 hu
    refine ⟨AllSe.set (h.2 ho').1 fun _ => ?_, fun _ => ?_⟩
    · simp only; rw [he]; omega
    · rw [e]; simp only; rw [he]; exact h2
theorem show_propose {last : ViewT} {g : GrpT} {w : Wr} (hn : 1 ≤ g.mem.length) (h : ShowI last g) (he : (proposeG g w).2 = 0) : ShowJ last (proposeG g w).1 := by
  obtain ⟨h1, h2, h3⟩ := propose_inv he
  obtain ⟨k1, k2⟩ := own_of h1
  obtain ⟨e, _⟩ := append_okC h2
  rw [h3, e, k1]
  exact show_with hn h k2 rfl fun _ => .inr (.inr rfl)
theorem show_commit {last : ViewT} {g : GrpT} (hn : 1 ≤ g.mem.length) (h : ShowI last g) (he : (commitG g).2 = 0) : ShowJ last (commitG g).1.1 := by
  obtain ⟨h1, _, h3, h4⟩ := commit_inv he
  obtain ⟨k1, k2⟩ := own_of h1
  obtain ⟨e, _⟩ := commit_okC h3
  rw [h4, e, k1]
  refine show_with hn h k2 rfl fun _ => .inr (.inl ⟨rfl, ?_⟩)
  show (own0 g).copy.sv < (own0 g).copy.sv + 1
  omega
theorem show_replicate {last : ViewT} {g : GrpT} {id : Int} (hn : 1 ≤ g.mem.length) (h : ShowI last g) (he : (replicateG g id).2 = 0) : ShowJ last (replicateG g id).1 := by
  obtain ⟨h1, h2, h3⟩ := replicate_inv he
  obtain ⟨k1, k2⟩ := own_of h1
  obtain ⟨i1, _, i3⟩ := index_nat h2
  rw [replicate_ok h1 h2 h3, k1]
  have e : ∀ x, (g.mem.set (indexG g.mem id 1).toNat x).getD 0 default = own0 g := fun x => getD_set_ne (by omega)
  refine show_j ⟨fun ho => ⟨AllSe.set (h.1 ho).1 fun _ => ?_, fun hu => ?_⟩, fun ho => ⟨AllSe.set (h.2 ho).1 fun _ => ?_, fun hu => ?_⟩⟩
  · exact (h.1 ho).1 0 (by omega) k2
  · show last = viewOf (List.getD _ 0 (default : MemT))
    rw [e]; exact (h.1 ho).2 k2
  · exact (h.2 ho).1 0 (by omega) k2
  · show last.se < (List.getD _ 0 (default : MemT)).copy.se
    rw [e]; exact (h.2 ho).2 k2
theorem show_crash {last : ViewT} {g : GrpT} {id : Int} (hn : 1 ≤ g.mem.length) (h : ShowI last g) (he : (crashG g id).2 = 0) : ShowJ last (crashG g id).1 := by
  obtain ⟨h1, _, h4⟩ := crash_inv he
  obtain ⟨i1, _, _⟩ := index_nat h1
  rw [h4]
  have e : ∀ x : MemT, x.up = false → (List.getD (g.mem.set (indexG g.mem id 0).toNat x) 0 default).up = true → List.getD (g.mem.set (indexG g.mem id 0).toNat x) 0 default = own0 g ∧ (own0 g).up = true := fun x hx hu => by
    by_cases e : 0 = (indexG g.mem id 0).toNat
    · rw [← e, getD_set_self (by omega), hx] at hu; cases hu
    · rw [getD_set_ne e] at hu ⊢; exact ⟨rfl, hu⟩
  refine show_j ⟨fun ho => ⟨AllSe.set (h.1 ho).1 fun h9 => (by cases h9), fun hu => ?_⟩, fun ho => ⟨AllSe.set (h.2 ho).1 fun h9 => (by cases h9), fun hu => ?_⟩⟩
  · obtain ⟨e1, e2⟩ := e _ rfl hu
    show last = viewOf (List.getD _ 0 (default : MemT))
    rw [e1]; exact (h.1 ho).2 e2
  · obtain ⟨e1, e2⟩ := e _ rfl hu
    show last.se < (List.getD _ 0 (default : MemT)).copy.se
    rw [e1]; exact (h.2 ho).2 e2
theorem show_change {last : ViewT} {g : GrpT} (hn : 1 ≤ g.mem.length) (h : ShowI last g) (he : (changeG g (own0 g).copy []).2 = 0) : ShowJ last (changeG g (own0 g).copy []).1 := by
  obtain ⟨h1, h2, _, h4, h5⟩ := change_inv he
  obtain ⟨k1, k2⟩ := own_of h1
  rw [k1] at h4 h5
  obtain ⟨_, r2, _⟩ := renew_one' h4
  rw [h5, r2]
  have h6 := h.1 h2
  have h7 := h6.1 0 (by omega) k2
  refine ⟨fun ho => (by cases ho), fun _ => ⟨AllSe.set (h6.1.imp fun a ha => by omega) fun _ => ?_, fun _ => ?_⟩⟩
  · have : last.se = (own0 g).copy.se := h7.symm
    simp only; omega
  · have : last.se = (own0 g).copy.se := h7.symm
    show last.se < (List.getD (g.mem.set 0 _) 0 default).copy.se
    rw [getD_set_self (by omega)]; simp only; omega
theorem show_take {last : ViewT} {g : GrpT} (hn : 1 ≤ g.mem.length) (h : ShowI last g) (he : (takeG g).2 = 0) : ShowJ last (takeG g).1 := by
  obtain ⟨i, i0, hi, _, hu, hd, hr, e⟩ := take_inv he
  obtain ⟨_, r2, _⟩ := renew_one' hr
  rw [e, r2]
  have hall : AllSe g.mem (fun a => last.se ≤ a) := by
    cases ho : g.opn with
    | true => exact (h.1 ho).1.imp fun a ha => by omega
    | false => exact (h.2 ho).1
  have h7 := hall i hi hu
  refine ⟨fun ho => (by cases ho), fun _ => ⟨fun j hj hj2 => ?_, fun _ => ?_⟩⟩
  · simp only at hj hj2 ⊢
    rw [taken_len hi] at hj
    rw [taken_get hi hj] at hj2 ⊢
    by_cases e0 : j = 0
    · rw [if_pos e0] at hj2 ⊢
      simp only; omega
    · rw [if_neg e0] at hj2 ⊢
      refine hall _ ?_ hj2
      split <;> omega
  · show last.se < (List.getD (takenL g.mem i _) 0 default).copy.se
    rw [taken_get hi (by omega), if_pos rfl]
    simp only; omega
theorem ready_inv {g : GrpT} (h : readyG g = true) : (ownerG g).2 = true ∧ g.opn = false ∧ ∀ i, 1 ≤ i → i < g.mem.length → (g.mem.getD i default).up = true → sameC (g.mem.getD i default).copy (ownerG g).1.copy = true := by
  simp only [readyG, Bool.and_eq_true, Bool.not_eq_true', List.any_eq_false] at h
  refine ⟨h.1, h.2.1, fun i h1 hi hu => ?_⟩
  have hm : g.mem.getD i default ∈ g.mem.drop 1 := by
    rw [List.mem_iff_getElem]
    refine ⟨i - 1, by simp; omega, ?_⟩
    have : (g.mem.drop 1)[i - 1]'(by simp; omega) = g.mem[i] := by rw [List.getElem_drop]; congr 1; omega
    rw [this]
    simp [List.getD, hi]
  have := h.2.2 _ hm
  simpa [-List.getD_eq_getElem?_getD, stale, hu] using this
theorem sameC_se {a b : CopyT} (h : sameC a b = true) : a.se = b.se := by
  simp only [sameC, Bool.and_eq_true, beq_iff_eq, decide_eq_true_eq] at h
  omega
theorem show_finish {last : ViewT} {g : GrpT} (hn : 1 ≤ g.mem.length) (h : ShowI last g) (he : (finishG g).2 = 0) : ShowJ last (finishG g).1.1 := by
  obtain ⟨h1, h2, h3, h4, h5⟩ := finish_inv he
  obtain ⟨k1, k2⟩ := own_of h1
  obtain ⟨_, _, k6⟩ := ready_inv h3
  rw [h5]
  rw [k1] at h4 k6 ⊢
  obtain ⟨_, _, _, s4, _⟩ := settle_keep h4
  have h7 := (h.2 h2).2 k2
  have e : own0 (openG g (settleF (own0 g).copy).1) = { own0 g with copy := (settleF (own0 g).copy).1 } := getD_set_self (by omega)
  refine ⟨fun _ => ⟨fun h9 => (by rw [e, k2] at h9; cases h9), fun _ => ?_⟩, fun ho => by cases ho⟩
  rw [e]
  refine ⟨AllSe.set (fun j hj hu => ?_) fun _ => rfl, .inl ?_⟩
  · show _ = (settleF (own0 g).copy).1.se
    rw [s4]
    by_cases j0 : j = 0
    · subst j0; rfl
    · exact sameC_se (k6 j (by omega) hj hu)
  · show last.se < (settleF (own0 g).copy).1.se
    rw [s4]; exact h7
theorem later_cmp {a b : ViewT} (h : Later a b) : cmpS a.se a.sv b.se b.sv ≤ 0 ∧ (cmpS a.se a.sv b.se b.sv = 0 → a = b) := by
  unfold cmpS
  rcases h with h | h | h
  · rw [if_neg (by omega), if_pos (by omega)]; exact ⟨by omega, fun h => by omega⟩
  · rw [if_neg (by omega), if_pos (by omega)]; exact ⟨by omega, fun h => by omega⟩
  · subst h; rw [if_pos ⟨rfl, rfl⟩]; exact ⟨by omega, fun _ => rfl⟩
theorem view_rows {g : GrpT} (h : GrpB 1000 g) : (viewG g).1.rows.length ≤ 1000000 := by
  unfold viewG
  repeat' split
  · exact Nat.zero_le _
  · exact Nat.zero_le _
  · exact (owner_small h).1
end Go.Sx
