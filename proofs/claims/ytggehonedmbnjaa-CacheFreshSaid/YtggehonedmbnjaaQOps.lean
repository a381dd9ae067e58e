/- Contracts of functions that the law reaches: YtggehonedmbnjaaQOps. Written for this claim. -/
import Derived.Test.YtggehonedmbnjaaQAll
namespace Go.Proofs.Ytggehonedmbnjaa
open Go Go.Sx Go.ChangeShapes Go.WideShapes Go.ChangeAt Go.RowKit
set_option linter.unusedVariables false
set_option linter.unusedSimpArgs false
set_option maxRecDepth 100000
/-! equality -/
/-! the reference's without -/
theorem stripL_len {x : LseT} {node : Int} : (stripL node x).hold.length ≤ x.hold.length ∧ (stripL node x).fly.length ≤ x.fly.length := ⟨lessN_len, lessN_len⟩
theorem row_cat {α : Type} [Inhabited α] {enc : α → List D} {k len p q m : Nat} {l : List α} (hp : p ≤ l.length) (hm : m = l.length - q) (hlen : len = p + m) :
    LeS (.d (.list len k fun i j => if i < p then cellOf enc l i j else cellOf enc l (q + (i - p)) j)) (.d (encL enc k (l.take p ++ l.drop q))) := by
  refine LeS.d (DLe.rows (by simp only [List.length_append, List.length_take, List.length_drop]; omega) (.of_eq fun i j _ _ => ?_))
  unfold cellOf
  rw [getD_cut hp]
  split <;> rfl
theorem row_cat1 {α : Type} [Inhabited α] {enc : α → List D} {k len p q m : Nat} {l : List α} {x : α} {z : Nat → Nat → D} (hp : p ≤ l.length) (hm : m = l.length - q) (hlen : len = p + 1 + m) (hx : ∀ j, j < k → DLe (z 0 j) ((enc x).getD j default)) :
    LeS (.d (.list len k fun i j => if i < p + 1 then if i < p then cellOf enc l i j else z (i - p) j else cellOf enc l (q + (i - (p + 1))) j)) (.d (encL enc k (l.take p ++ ([x] ++ l.drop q)))) := by
  refine LeS.d (DLe.rows (by simp only [List.length_append, List.length_take, List.length_drop, List.length_cons, List.length_nil]; omega) ⟨fun i j _ hj => ?_⟩)
  simp only [List.singleton_append]
  unfold cellOf
  rw [getD_ins hp]
  by_cases h1 : i < p
  · rw [if_pos (by omega), if_pos h1, if_pos h1]; exact DLe.refl _
  · rw [if_neg h1, if_neg h1]
    by_cases h2 : i = p
    · subst h2
      rw [if_pos (by omega), if_pos rfl, Nat.sub_self]; exact hx j hj
    · rw [if_neg (by omega), if_neg h2]
      rw [show i - (p + 1) = i - p - 1 by omega]; exact DLe.refl _
def crI (l : List LseT) (node : Int) (i : Nat) : List LseT := l.take i ++ ((l.drop i).map (stripL node)).filter keptL
theorem cr_top {l : List LseT} {node : Int} : crI l node l.length = l := by simp [crI]
theorem cr_zero {l : List LseT} {node : Int} : crI l node 0 = crashL l node := by simp [crI, crashL]
theorem cr_at {l : List LseT} {node : Int} {i : Nat} (h : i < l.length) : (crI l node (i + 1)).getD i default = l.getD i default := by
  have hl : i < (l.take (i + 1)).length := by simp; omega
  simp only [crI, getD_append_left hl]
  simp [List.getD, List.getElem?_take]
theorem cr_step {l : List LseT} {node : Int} {i : Nat} (h : i < l.length) : withoutL (crI l node (i + 1)) i node = crI l node i := by
  have h1 : (crI l node (i + 1)).take i = l.take i := by
    unfold crI
    rw [List.take_append_of_le_length (by simp; omega), List.take_take]
    congr 1; omega
  have h2 : (crI l node (i + 1)).drop (i + 1) = ((l.drop (i + 1)).map (stripL node)).filter keptL := by
    unfold crI
    have hl : (l.take (i + 1)).length = i + 1 := by simp; omega
    rw [List.drop_append, hl, Nat.sub_self, List.drop_of_length_le (by omega)]; rfl
  rw [withoutL, cr_at h, h1, h2]
  unfold crI
  congr 1
  rw [drop_cons' h, List.map_cons, List.filter_cons]
  split <;> rfl
theorem cr_b {l : List LseT} {node : Int} {i : Nat} (h : LsB l) : LsB (crI l node i) := by
  have h1 := (crash_b (node := node) (h.sub (List.drop_sublist i l)))
  have h2 := h.sub (List.take_sublist i l)
  refine ⟨?_, fun x hx => ?_, fun x hx => ?_⟩
  · have h3 : (((l.drop i).map (stripL node)).filter keptL).length ≤ (l.drop i).length := Nat.le_trans (List.length_filter_le _ _) (by simp)
    have := h.len
    simp only [crI, List.length_append, List.length_take, List.length_drop] at h3 ⊢; omega
  · rcases List.mem_append.1 hx with hx | hx
    · exact h2.hold x hx
    · exact h1.hold x hx
  · rcases List.mem_append.1 hx with hx | hx
    · exact h2.fly x hx
    · exact h1.fly x hx
theorem cr_len {l : List LseT} {node : Int} {i : Nat} (hi : i ≤ l.length) : i ≤ (crI l node i).length ∧ (crI l node i).length ≤ l.length := by
  have h3 : (((l.drop i).map (stripL node)).filter keptL).length ≤ (l.drop i).length := Nat.le_trans (List.length_filter_le _ _) (by simp)
  simp only [crI, List.length_append, List.length_take, List.length_drop] at h3 ⊢; omega
theorem crashp_spec (l : List LseT) (node : Int) : (LsB l ∧ l.length ≤ 900000) → Sx.Spec Try.prog GG 7 [.d (encL encLse 9 l), .d (.int .i64 node)] [] (.d (encL encLse 9 (crashL l node))) [] := by
  rintro ⟨h, hl⟩
  have hb := h.at
  refine spec_intro (E := EE) (fn := Try.f7) eok (by kernel_rfl) (by kernel_rfl) Try.call7 (by kernel_rfl) (by kernel_rfl) ?_
  conv => whnf
  repeat' first
    | (refine call_if (allp_d (xs := l)) (by first | exact .inl rfl | exact .inr ⟨rfl, rfl⟩) (need_intro ?_ ?_); (conv => whnf))
    | (refine bc_true (by assumption) ?_; (conv => whnf))
    | (refine bc_false (by assumption) ?_; (conv => whnf))
    | (refine need_intro ?_ ?_; (conv => whnf))
    | (refine wk_refl ?_; (conv => whnf))
    | (refine draw_intro (by kernel_rfl) ?_; (conv => whnf))
    | (refine ord_intro (by kernel_rfl) ?_; (conv => whnf))
  all_goals try exact ⟨⟨rfl, RowLe.refl _ _ _⟩, h⟩
  refine loop_auto [1, 9, 10] [] (fun i : Nat => [(5, .osl 500 9 0 (crashL (l.take i) node).length), (11, .d (.int .i64 i))]) (fun i => [(500, .row 61 9 (crashL (l.take i) node).length (cellOf encLse (crashL (l.take i) node)))]) (fun i => i ≤ l.length) (fun i => l.length - i) 0 ?_ (fun i hi => ?_) (by omega)
  · conv => whnf
    repeat' first
      | (refine bc_true (by assumption) ?_; (conv => whnf))
      | (refine bc_false (by assumption) ?_; (conv => whnf))
      | (refine bc_intro (fun _ => ?_) (fun _ => ?_) <;> (conv => whnf))
      | (refine need_intro ?_ ?_; (conv => whnf))
      | (refine wk_refl ?_; (conv => whnf))
      | (refine draw_intro (by kernel_rfl) ?_; (conv => whnf))
      | (refine ord_intro (by kernel_rfl) ?_; (conv => whnf))
    all_goals first | exact trivial | exact DLe.refl _ | exact DLe.nil | exact RowLe.refl _ _ _ | exact ⟨rfl, rfl⟩ | exact ⟨rfl, rfl, rfl⟩ | trace_state
  · have hs : IntKind.i64.wrap ((i : Int) + 1) = ((i + 1 : Nat) : Int) := wrap_succ (n := 4294967297) (by omega) (by omega)
    have hbi := hb i
    have hst := stripL_len (x := l.getD i default) (node := node)
    have hle : (crashL (l.take i) node).length ≤ i := Nat.le_trans (List.length_filter_le _ _) (by simp; omega)
    have hy : i < l.length → keptL (stripL node (l.getD i default)) = true → crashL (l.take (i + 1)) node = crashL (l.take i) node ++ [stripL node (l.getD i default)] := fun h hk => by
      rw [take_succ' h, crashL, List.map_append, List.filter_append, List.map_cons, List.filter_cons, if_pos hk]; rfl
    have hn : i < l.length → keptL (stripL node (l.getD i default)) = false → crashL (l.take (i + 1)) node = crashL (l.take i) node := fun h hk => by
      rw [take_succ' h, crashL, List.map_append, List.filter_append, List.map_cons, List.filter_cons, if_neg (by rw [hk]; simp)]
      simp [crashL]
    conv => whnf
    repeat' first
      | (refine call_if (lessp_spec _ _) (by first | exact .inl rfl | exact .inr ⟨rfl, rfl⟩) (need_intro ?_ ?_); (conv => whnf))
      | (refine call_if (keptp_spec (stripL node (l.getD i default))) (by first | exact .inl rfl | exact .inr ⟨rfl, rfl⟩) (need_intro ?_ ?_); (conv => whnf))
      | (refine NextVC.mk (i + 1) ?_ ?_ ?_; (conv => whnf))
      | (refine bc_true (by assumption) ?_; (conv => whnf))
      | (refine bc_false (by assumption) ?_; (conv => whnf))
      | (refine bc_intro (fun _ => ?_) (fun _ => ?_) <;> (conv => whnf))
      | (refine need_intro ?_ ?_; (conv => whnf))
      | (refine wk_refl ?_; (conv => whnf))
      | (refine draw_intro (by kernel_rfl) ?_; (conv => whnf))
      | (refine ord_intro (by kernel_rfl) ?_; (conv => whnf))
    all_goals try simp only [cellsLse, bytesLse, cellsI, bytesI, true_and, and_true, decide_eq_true_eq, decide_eq_false_iff_not, beq_iff_eq, bne_iff_ne, beq_eq_false_iff_ne, bne_eq_false_iff_eq, ne_eq, Decidable.not_not, Bool.not_eq_true', Bool.not_eq_false', Int.toNat_natCast] at *
    all_goals first
      | exact trivial
      | omega
      | exact DLe.refl _
      | exact DLe.of_eq (by rw [hs])
      | exact ⟨by omega, by omega⟩
      | (rw [hy (by omega) (by assumption)]; simp only [List.length_append, List.length_singleton]; done)
      | (rw [hn (by omega) (by assumption)]; done)
      | (rw [hn (by omega) (by assumption)]; exact RowLe.refl _ _ _)
      | (rw [hy (by omega) (by assumption)]; simp only [List.length_append, List.length_singleton]
         refine row_snoc rfl (RowLe.refl _ _ _) ?_
         (refine jlt9 ?_; (repeat' first | exact trivial | exact DLe.refl _ | exact DLe.nil | apply And.intro))
         done)
      | exact ⟨les_own (by rw [show i = l.length by omega, List.take_length]), trivial⟩
      | trace_state
end Go.Proofs.Ytggehonedmbnjaa
