/- Contracts of functions that the law reaches: YtggehonedmbnjaaDoorQOps. Written for this claim. -/
import Derived.Test.YtggehonedmbnjaaDoorQAll
namespace Go.Proofs.YtggehonedmbnjaaDoor
open Go Go.Sx Go.ChangeShapes Go.WideShapes Go.ChangeAt Go.RowKit
set_option linter.unusedVariables false
set_option linter.unusedSimpArgs false
set_option maxRecDepth 100000
/-! equality -/
theorem sameI_refl (a : List Int) : a.length ≤ 4294967296 → Sx.Spec Tryd.prog GG 61 [.d (encL encI 1 a), .d (encL encI 1 a)] [] (.d (.bool true)) [] := by
  intro hl
  refine spec_intro (E := EE) (fn := Tryd.f61) eok (by kernel_rfl) (by kernel_rfl) Tryd.call61 (by kernel_rfl) (by kernel_rfl) ?_
  conv => whnf
  repeat' first
    | (refine bc_true (by assumption) ?_; (conv => whnf))
    | (refine bc_false (by assumption) ?_; (conv => whnf))
    | (refine bc_intro (fun _ => ?_) (fun _ => ?_) <;> (conv => whnf))
    | (refine need_intro ?_ ?_; (conv => whnf))
    | (refine wk_refl ?_; (conv => whnf))
    | (refine draw_intro (by kernel_rfl) ?_; (conv => whnf))
    | (refine ord_intro (by kernel_rfl) ?_; (conv => whnf))
  all_goals try (exfalso; simp at *; done)
  refine loop_auto [0, 1] [] (fun i : Nat => [(5, .d (.int .i64 i))]) (fun i => []) (fun i => i ≤ a.length) (fun i => a.length - i) 0 ?_ (fun i hi => ?_) (by omega)
  · conv => whnf
    repeat' first
      | (refine bc_true (by assumption) ?_; (conv => whnf))
      | (refine bc_false (by assumption) ?_; (conv => whnf))
      | (refine bc_intro (fun _ => ?_) (fun _ => ?_) <;> (conv => whnf))
      | (refine need_intro ?_ ?_; (conv => whnf))
      | (refine wk_refl ?_; (conv => whnf))
      | (refine draw_intro (by kernel_rfl) ?_; (conv => whnf))
      | (refine ord_intro (by kernel_rfl) ?_; (conv => whnf))
    all_goals first | exact trivial | exact DLe.refl _ | exact DLe.nil | exact RowLe.refl _ _ _ | exact ⟨rfl, rfl⟩ | exact ⟨rfl, rfl, rfl⟩ | trace_state
  · have hs : IntKind.i64.wrap ((i : Int) + 1) = ((i + 1 : Nat) : Int) := wrap_succ (n := 4294967297) (by omega) (by omega)
    conv => whnf
    repeat' first
      | (refine NextVC.mk (i + 1) ?_ ?_ ?_; (conv => whnf))
      | (refine bc_true (by assumption) ?_; (conv => whnf))
      | (refine bc_false (by assumption) ?_; (conv => whnf))
      | (refine bc_intro (fun _ => ?_) (fun _ => ?_) <;> (conv => whnf))
      | (refine need_intro ?_ ?_; (conv => whnf))
      | (refine wk_refl ?_; (conv => whnf))
      | (refine draw_intro (by kernel_rfl) ?_; (conv => whnf))
      | (refine ord_intro (by kernel_rfl) ?_; (conv => whnf))
    all_goals try simp only [cellsLse, bytesLse, cellsI, bytesI, true_and, and_true, decide_eq_true_eq, decide_eq_false_iff_not, beq_iff_eq, bne_iff_ne, beq_eq_false_iff_ne, bne_eq_false_iff_eq, ne_eq, Decidable.not_not, Bool.not_eq_true', Bool.not_eq_false', Int.toNat_natCast] at *
    all_goals first
      | exact trivial
      | omega
      | exact DLe.refl _
      | exact DLe.of_eq (by rw [hs])
      | exact ⟨by omega, by omega⟩
      | exact ⟨LeS.refl _, trivial⟩
      | (exfalso; simp at *; done)
      | trace_state
theorem sameL_refl (a : List LseT) : LsB a → Sx.Spec Tryd.prog GG 33 [.d (encL encLse 9 a), .d (encL encLse 9 a)] [] (.d (.bool true)) [] := by
  intro h
  have hl := h.len
  have hb := h.at
  refine spec_intro (E := EE) (fn := Tryd.f33) eok (by kernel_rfl) (by kernel_rfl) Tryd.call33 (by kernel_rfl) (by kernel_rfl) ?_
  conv => whnf
  repeat' first
    | (refine bc_true (by assumption) ?_; (conv => whnf))
    | (refine bc_false (by assumption) ?_; (conv => whnf))
    | (refine bc_intro (fun _ => ?_) (fun _ => ?_) <;> (conv => whnf))
    | (refine need_intro ?_ ?_; (conv => whnf))
    | (refine wk_refl ?_; (conv => whnf))
    | (refine draw_intro (by kernel_rfl) ?_; (conv => whnf))
    | (refine ord_intro (by kernel_rfl) ?_; (conv => whnf))
  all_goals try (exfalso; simp at *; done)
  refine loop_auto [0, 1, 13, 14] [] (fun i : Nat => [(15, .d (.int .i64 i))]) (fun i => []) (fun i => i ≤ a.length) (fun i => a.length - i) 0 ?_ (fun i hi => ?_) (by omega)
  · conv => whnf
    repeat' first
      | (refine bc_true (by assumption) ?_; (conv => whnf))
      | (refine bc_false (by assumption) ?_; (conv => whnf))
      | (refine bc_intro (fun _ => ?_) (fun _ => ?_) <;> (conv => whnf))
      | (refine need_intro ?_ ?_; (conv => whnf))
      | (refine wk_refl ?_; (conv => whnf))
      | (refine draw_intro (by kernel_rfl) ?_; (conv => whnf))
      | (refine ord_intro (by kernel_rfl) ?_; (conv => whnf))
    all_goals first | exact trivial | exact DLe.refl _ | exact DLe.nil | exact RowLe.refl _ _ _ | exact ⟨rfl, rfl⟩ | exact ⟨rfl, rfl, rfl⟩ | trace_state
  · have hs : IntKind.i64.wrap ((i : Int) + 1) = ((i + 1 : Nat) : Int) := wrap_succ (n := 4294967297) (by omega) (by omega)
    have hbi := hb i
    conv => whnf
    repeat' first
      | (refine call_if (sameI_refl _) (by first | exact .inl rfl | exact .inr ⟨rfl, rfl⟩) (need_intro ?_ ?_); (conv => whnf))
      | (refine NextVC.mk (i + 1) ?_ ?_ ?_; (conv => whnf))
      | (refine bc_true (by assumption) ?_; (conv => whnf))
      | (refine bc_false (by assumption) ?_; (conv => whnf))
      | (refine bc_intro (fun _ => ?_) (fun _ => ?_) <;> (conv => whnf))
      | (refine need_intro ?_ ?_; (conv => whnf))
      | (refine wk_refl ?_; (conv => whnf))
      | (refine draw_intro (by kernel_rfl) ?_; (conv => whnf))
      | (refine ord_intro (by kernel_rfl) ?_; (conv => whnf))
    all_goals try simp only [cellsLse, bytesLse, cellsI, bytesI, true_and, and_true, decide_eq_true_eq, decide_eq_false_iff_not, beq_iff_eq, bne_iff_ne, beq_eq_false_iff_ne, bne_eq_false_iff_eq, ne_eq, Decidable.not_not, Bool.not_eq_true', Bool.not_eq_false', Int.toNat_natCast] at *
    all_goals first
      | exact trivial
      | omega
      | exact DLe.refl _
      | exact DLe.of_eq (by rw [hs])
      | exact ⟨by omega, by omega⟩
      | exact ⟨LeS.refl _, trivial⟩
      | (exfalso; simp at *; done)
      | trace_state
/-! the reference's without -/
theorem stripL_len {x : LseT} {node : Int} : (stripL node x).hold.length ≤ x.hold.length ∧ (stripL node x).fly.length ≤ x.fly.length := ⟨lessN_len, lessN_len⟩
theorem row_cat {α : Type} [Inhabited α] {enc : α → List D} {k len p q m : Nat} {l : List α} (hp : p ≤ l.length) (hm : m = l.length - q) (hlen : len = p + m) :
    LeS (.d (.list len k fun i j => if i < p then cellOf enc l i j else cellOf enc l (q + (i - p)) j)) (.d (encL enc k (l.take p ++ l.drop q))) := by
  refine LeS.d (DLe.rows (by simp only [List.length_append, List.length_take, List.length_drop]; omega) (.of_eq fun i j _ _ => ?_))
  unfold cellOf
  rw [getD_cut hp]
  split <;> rfl
theorem row_cat1 {α : Type} [Inhabited α] {enc : α → List D} {k len p q m : Nat} {l : List α} {x : α} {z : Nat → Nat → D} (hp : p ≤ l.length) (hm : m = l.length - q) (hlen : len = p + 1 + m) (hx : ∀ j, j < k → DLe (z 0 j) ((enc x).getD j default)) :
    LeS (.d (.list len k fun i j => if i < p + 1 then if i < p then cellOf enc l i j else z (i - p) j else cellOf enc l (q + (i - (p + 1))) j)) (.d (encL enc k (l.take p ++ ([x] ++ l.drop q)))) := by
  refine LeS.d (DLe.rows (by simp only [List.length_append, List.length_take, List.length_drop, List.length_cons, List.length_nil]; omega) ⟨fun i j _ hj => ?_⟩)
  simp only [List.singleton_append]
  unfold cellOf
  rw [getD_ins hp]
  by_cases h1 : i < p
  · rw [if_pos (by omega), if_pos h1, if_pos h1]; exact DLe.refl _
  · rw [if_neg h1, if_neg h1]
    by_cases h2 : i = p
    · subst h2
      rw [if_pos (by omega), if_pos rfl, Nat.sub_self]; exact hx j hj
    · rw [if_neg (by omega), if_neg h2]
      rw [show i - (p + 1) = i - p - 1 by omega]; exact DLe.refl _
set_option maxHeartbeats 1000000 in
theorem withoutr_spec (l : List LseT) (i : Nat) (node : Int) : (LsB l ∧ l.length ≤ 900000 ∧ i < l.length) → Sx.Spec Tryd.prog GG 60 [.d (encL encLse 9 l), .d (.int .i64 i), .d (.int .i64 node)] [] (.d (encL encLse 9 (withoutL l i node))) [] := by
  rintro ⟨h, hl, hi⟩
  have hb := h.at i
  have hst := stripL_len (x := l.getD i default) (node := node)
  simp only [stripL] at hst
  have hw : IntKind.i64.wrap (((lessN (l.getD i default).hold node).length : Int) + ((lessN (l.getD i default).fly node).length : Int)) = ((lessN (l.getD i default).hold node).length : Int) + (lessN (l.getD i default).fly node).length := wrap_of (by omega) (by omega)
  have hs : IntKind.i64.wrap ((i : Int) + 1) = ((i + 1 : Nat) : Int) := wrap_succ (n := 4294967297) (by omega) (by omega)
  have hy : keptL (stripL node (l.getD i default)) = true → withoutL l i node = l.take i ++ ([stripL node (l.getD i default)] ++ l.drop (i + 1)) := fun h => by rw [withoutL, if_pos h]
  have hn : keptL (stripL node (l.getD i default)) = false → withoutL l i node = l.take i ++ l.drop (i + 1) := fun h => by rw [withoutL, if_neg (by rw [h]; simp)]; rfl
  have y1 : (l.getD i default).wait = true → keptL (stripL node (l.getD i default)) = true := fun h => by simp only [keptL, stripL, h, Bool.true_or]
  have y2 : IntKind.i64.wrap (((lessN (l.getD i default).hold node).length : Int) + ((lessN (l.getD i default).fly node).length : Int)) > 0 → keptL (stripL node (l.getD i default)) = true := fun h => by
    have h : 0 < ((lessN (l.getD i default).hold node).length : Int) + (lessN (l.getD i default).fly node).length := by rw [hw] at h; exact h
    simp only [keptL, stripL, Bool.or_eq_true, decide_eq_true_eq]
    exact .inr (decide_eq_true h)
  have n1 : (l.getD i default).wait = false → ¬ IntKind.i64.wrap (((lessN (l.getD i default).hold node).length : Int) + ((lessN (l.getD i default).fly node).length : Int)) > 0 → keptL (stripL node (l.getD i default)) = false := fun h h' => by
    rw [hw] at h'
    simp only [keptL, stripL, h, Bool.false_or, decide_eq_false_iff_not]
    exact h'
  clear hw
  refine spec_intro (E := EE) (fn := Tryd.f60) eok (by kernel_rfl) (by kernel_rfl) Tryd.call60 (by kernel_rfl) (by kernel_rfl) ?_
  conv => whnf
  repeat' first
    | (refine call_if (lessr_spec _ _) (by first | exact .inl rfl | exact .inr ⟨rfl, rfl⟩) (need_intro ?_ ?_); (conv => whnf))
    | (refine bc_true (by assumption) ?_; (conv => whnf))
    | (refine bc_false (by assumption) ?_; (conv => whnf))
    | (refine bc_intro (fun _ => ?_) (fun _ => ?_) <;> (conv => whnf))
    | (refine need_intro ?_ ?_; (conv => whnf))
    | (refine wk_refl ?_; (conv => whnf))
    | (refine draw_intro (by kernel_rfl) ?_; (conv => whnf))
    | (refine ord_intro (by kernel_rfl) ?_; (conv => whnf))
  all_goals try rw [hs] at *
  all_goals try simp only [cellsLse, bytesLse, cellsI, bytesI, true_and, and_true, decide_eq_true_eq, decide_eq_false_iff_not, beq_iff_eq, bne_iff_ne, beq_eq_false_iff_ne, bne_eq_false_iff_eq, ne_eq, Decidable.not_not, Bool.not_eq_true', Bool.not_eq_false', Int.toNat_natCast] at *
  all_goals try simp only [Option.getD_some, Option.getD_none, Int.toNat_natCast, Int.sub_zero, Int.toNat_zero, Nat.zero_add] at *
  all_goals first
    | exact trivial
    | omega
    | exact ⟨by omega, by omega⟩
    | exact ⟨by omega, by omega, by omega⟩
    | (first | rw [hy (y1 (by assumption))] | rw [hy (y2 (by assumption))]
       refine ⟨row_cat1 (m := (↑l.length - ↑(i + 1) : Int).toNat) (by omega) (by omega) rfl ?_, trivial⟩
       (refine jlt9 ?_; (repeat' first | exact trivial | exact DLe.refl _ | exact DLe.nil | apply And.intro))
       done)
    | (rw [hn (n1 (by assumption) (by assumption))]
       exact ⟨row_cat (m := (↑l.length - ↑(i + 1) : Int).toNat) (by omega) (by omega) rfl, trivial⟩)
    | trace_state
def crI (l : List LseT) (node : Int) (i : Nat) : List LseT := l.take i ++ ((l.drop i).map (stripL node)).filter keptL
theorem cr_top {l : List LseT} {node : Int} : crI l node l.length = l := by simp [crI]
theorem cr_zero {l : List LseT} {node : Int} : crI l node 0 = crashL l node := by simp [crI, crashL]
theorem cr_at {l : List LseT} {node : Int} {i : Nat} (h : i < l.length) : (crI l node (i + 1)).getD i default = l.getD i default := by
  have hl : i < (l.take (i + 1)).length := by simp; omega
  simp only [crI, getD_append_left hl]
  simp [List.getD, List.getElem?_take]
theorem cr_step {l : List LseT} {node : Int} {i : Nat} (h : i < l.length) : withoutL (crI l node (i + 1)) i node = crI l node i := by
  have h1 : (crI l node (i + 1)).take i = l.take i := by
    unfold crI
    rw [List.take_append_of_le_length (by simp; omega), List.take_take]
    congr 1; omega
  have h2 : (crI l node (i + 1)).drop (i + 1) = ((l.drop (i + 1)).map (stripL node)).filter keptL := by
    unfold crI
    have hl : (l.take (i + 1)).length = i + 1 := by simp; omega
    rw [List.drop_append, hl, Nat.sub_self, List.drop_of_length_le (by omega)]; rfl
  rw [withoutL, cr_at h, h1, h2]
  unfold crI
  congr 1
  rw [drop_cons' h, List.map_cons, List.filter_cons]
  split <;> rfl
theorem cr_b {l : List LseT} {node : Int} {i : Nat} (h : LsB l) : LsB (crI l node i) := by
  have h1 := (crash_b (node := node) (h.sub (List.drop_sublist i l)))
  have h2 := h.sub (List.take_sublist i l)
  refine ⟨?_, fun x hx => ?_, fun x hx => ?_⟩
  · have h3 : (((l.drop i).map (stripL node)).filter keptL).length ≤ (l.drop i).length := Nat.le_trans (List.length_filter_le _ _) (by simp)
    have := h.len
    simp only [crI, List.length_append, List.length_take, List.length_drop] at h3 ⊢; omega
  · rcases List.mem_append.1 hx with hx | hx
    · exact h2.hold x hx
    · exact h1.hold x hx
  · rcases List.mem_append.1 hx with hx | hx
    · exact h2.fly x hx
    · exact h1.fly x hx
theorem cr_len {l : List LseT} {node : Int} {i : Nat} (hi : i ≤ l.length) : i ≤ (crI l node i).length ∧ (crI l node i).length ≤ l.length := by
  have h3 : (((l.drop i).map (stripL node)).filter keptL).length ≤ (l.drop i).length := Nat.le_trans (List.length_filter_le _ _) (by simp)
  simp only [crI, List.length_append, List.length_take, List.length_drop] at h3 ⊢; omega
theorem withoutr_own (l : List LseT) (i : Nat) (node : Int) {n : Nat} {g : Nat → Nat → D} {k : Int} : ((n = l.length ∧ RowLe n 9 g (cellOf encLse l)) ∧ k = (i : Int) ∧ LsB l ∧ l.length ≤ 900000 ∧ i < l.length) → Sx.Spec Tryd.prog GG 60 [.d (.list n 9 g), .d (.int .i64 k), .d (.int .i64 node)] [] (.d (encL encLse 9 (withoutL l i node))) [] := fun ⟨⟨e, hr⟩, e2, h⟩ => by
  subst e; subst e2
  exact (withoutr_spec l i node h).arg (LeL.cons (LeS.d (DLe.rows rfl hr)) (LeL.refl _))
theorem crashr_spec (l : List LseT) (node : Int) : (LsB l ∧ l.length ≤ 900000) → Sx.Spec Tryd.prog GG 32 [.d (encL encLse 9 l), .d (.int .i64 node)] [] (.d (encL encLse 9 (crashL l node))) [] := by
  rintro ⟨h, hl⟩
  have w0 : IntKind.i64.wrap ((l.length : Int) - 1) = (l.length : Int) - 1 := wrap_of (by omega) (by omega)
  refine spec_intro (E := EE) (fn := Tryd.f32) eok (by kernel_rfl) (by kernel_rfl) Tryd.call32 (by kernel_rfl) (by kernel_rfl) ?_
  conv => whnf
  repeat' first
    | (refine bc_true (by assumption) ?_; (conv => whnf))
    | (refine bc_false (by assumption) ?_; (conv => whnf))
    | (refine need_intro ?_ ?_; (conv => whnf))
    | (refine wk_refl ?_; (conv => whnf))
    | (refine draw_intro (by kernel_rfl) ?_; (conv => whnf))
    | (refine ord_intro (by kernel_rfl) ?_; (conv => whnf))
  all_goals try simp only [cellsLse, bytesLse, cellsI, bytesI, true_and, and_true, decide_eq_true_eq, decide_eq_false_iff_not, beq_iff_eq, bne_iff_ne, beq_eq_false_iff_ne, bne_eq_false_iff_eq, ne_eq, Decidable.not_not, Bool.not_eq_true', Bool.not_eq_false', Int.toNat_natCast] at *
  all_goals try first
    | omega
    | exact ⟨by omega, by omega⟩
  refine loop_auto [1] [] (fun x : Bool × Nat => match x.1 with
    | true => [(6, .d (.int .i64 ((x.2 : Int) - 1))), (5, .osl 500 9 0 l.length)]
    | false => [(6, .d (.int .i64 ((x.2 : Int) - 1))), (5, .d (encL encLse 9 (crI l node x.2)))]) (fun x => match x.1 with
    | true => [(500, .row 38 9 l.length (cellOf encLse l))]
    | false => []) (fun x => x.2 ≤ l.length ∧ (x.1 = true → x.2 = l.length)) (fun x => x.2) (true, l.length) ?_ (fun x hx => ?_) ⟨Nat.le_refl _, fun _ => rfl⟩
  · conv => whnf
    repeat' first
      | (refine bc_true (by assumption) ?_; (conv => whnf))
      | (refine bc_false (by assumption) ?_; (conv => whnf))
      | (refine bc_intro (fun _ => ?_) (fun _ => ?_) <;> (conv => whnf))
      | (refine need_intro ?_ ?_; (conv => whnf))
      | (refine wk_refl ?_; (conv => whnf))
      | (refine draw_intro (by kernel_rfl) ?_; (conv => whnf))
      | (refine ord_intro (by kernel_rfl) ?_; (conv => whnf))
    all_goals first
      | exact trivial
      | exact DLe.refl _
      | exact RowLe.refl _ _ _
      | exact DLe.of_eq (by rw [w0])
      | exact ⟨rfl, rfl⟩
      | exact ⟨rfl, rfl, rfl⟩
      | trace_state
  · obtain ⟨fl, i⟩ := x
    obtain ⟨hi, hf⟩ := hx
    simp only at hi hf
    have w1 : 0 < i → IntKind.i64.wrap ((i : Int) - 1 - 1) = ((i - 1 : Nat) : Int) - 1 := fun h => by rw [wrap_of (by omega) (by omega)]; omega
    have hcb := cr_b (node := node) (i := i) h
    have hcl := cr_len (node := node) hi
    have hst : 0 < i → withoutL (crI l node i) (i - 1) node = crI l node (i - 1) := fun h => by
      have := cr_step (l := l) (node := node) (i := i - 1) (by omega)
      rwa [show i - 1 + 1 = i by omega] at this
    cases fl
    · conv => whnf
      repeat' first
        | (refine call_if (withoutr_own (crI l node i) (i - 1) node) (by first | exact .inl rfl | exact .inr ⟨rfl, rfl⟩) (need_intro ?_ ?_); (conv => whnf))
        | (refine NextVC.mk (false, i - 1) ?_ ?_ ?_; (conv => whnf))
        | (refine bc_true (by assumption) ?_; (conv => whnf))
        | (refine bc_false (by assumption) ?_; (conv => whnf))
        | (refine bc_intro (fun _ => ?_) (fun _ => ?_) <;> (conv => whnf))
        | (refine need_intro ?_ ?_; (conv => whnf))
        | (refine wk_refl ?_; (conv => whnf))
        | (refine draw_intro (by kernel_rfl) ?_; (conv => whnf))
        | (refine ord_intro (by kernel_rfl) ?_; (conv => whnf))
      all_goals try dsimp only at *
      all_goals try simp only [decide_eq_true_eq, decide_eq_false_iff_not] at *
      all_goals first
        | exact trivial
        | omega
        | exact DLe.refl _
        | exact DLe.of_eq (by rw [hst (by omega)])
        | exact DLe.of_eq (by rw [w1 (by omega)])
        | exact ⟨by omega, fun e => (by cases e)⟩
        | exact ⟨⟨rfl, RowLe.refl _ _ _⟩, by omega, hcb, by omega, by omega⟩
        | exact ⟨⟨trivial, RowLe.refl _ _ _⟩, by omega, hcb, by omega, by omega⟩
        | (rw [show i = 0 by omega, cr_zero]; exact ⟨LeS.refl _, trivial⟩)
        | trace_state
    · have hi0 : i = l.length := hf rfl
      subst hi0
      rw [cr_top] at hst
      conv => whnf
      repeat' first
        | (refine call_if (withoutr_own l (l.length - 1) node) (by first | exact .inl rfl | exact .inr ⟨rfl, rfl⟩) (need_intro ?_ ?_); (conv => whnf))
        | (refine NextVC.mk (false, l.length - 1) ?_ ?_ ?_; (conv => whnf))
        | (refine bc_true (by assumption) ?_; (conv => whnf))
        | (refine bc_false (by assumption) ?_; (conv => whnf))
        | (refine bc_intro (fun _ => ?_) (fun _ => ?_) <;> (conv => whnf))
        | (refine need_intro ?_ ?_; (conv => whnf))
        | (refine wk_refl ?_; (conv => whnf))
        | (refine draw_intro (by kernel_rfl) ?_; (conv => whnf))
        | (refine ord_intro (by kernel_rfl) ?_; (conv => whnf))
      all_goals try dsimp only at *
      all_goals try simp only [decide_eq_true_eq, decide_eq_false_iff_not] at *
      all_goals first
        | exact trivial
        | omega
        | exact DLe.refl _
        | exact DLe.of_eq (by rw [hst (by omega)])
        | exact DLe.of_eq (by rw [w1 (by omega)])
        | exact ⟨by omega, fun e => (by cases e)⟩
        | exact ⟨⟨rfl, row_zero⟩, by omega, h, by omega, by omega⟩
        | exact ⟨⟨trivial, row_zero⟩, by omega, h, by omega, by omega⟩
        | (have e : l = [] := List.eq_nil_of_length_eq_zero (by omega)
           subst e
           exact ⟨les_own rfl, trivial⟩)
        | trace_state
theorem crashp_spec (l : List LseT) (node : Int) : (LsB l ∧ l.length ≤ 900000) → Sx.Spec Tryd.prog GG 31 [.d (encL encLse 9 l), .d (.int .i64 node)] [] (.d (encL encLse 9 (crashL l node))) [] := by
  rintro ⟨h, hl⟩
  have hb := h.at
  refine spec_intro (E := EE) (fn := Tryd.f31) eok (by kernel_rfl) (by kernel_rfl) Tryd.call31 (by kernel_rfl) (by kernel_rfl) ?_
  conv => whnf
  repeat' first
    | (refine call_if (allp_d (xs := l)) (by first | exact .inl rfl | exact .inr ⟨rfl, rfl⟩) (need_intro ?_ ?_); (conv => whnf))
    | (refine bc_true (by assumption) ?_; (conv => whnf))
    | (refine bc_false (by assumption) ?_; (conv => whnf))
    | (refine need_intro ?_ ?_; (conv => whnf))
    | (refine wk_refl ?_; (conv => whnf))
    | (refine draw_intro (by kernel_rfl) ?_; (conv => whnf))
    | (refine ord_intro (by kernel_rfl) ?_; (conv => whnf))
  all_goals try exact ⟨⟨rfl, RowLe.refl _ _ _⟩, h⟩
  refine loop_auto [1, 9, 10] [] (fun i : Nat => [(5, .osl 500 9 0 (crashL (l.take i) node).length), (11, .d (.int .i64 i))]) (fun i => [(500, .row 38 9 (crashL (l.take i) node).length (cellOf encLse (crashL (l.take i) node)))]) (fun i => i ≤ l.length) (fun i => l.length - i) 0 ?_ (fun i hi => ?_) (by omega)
  · conv => whnf
    repeat' first
      | (refine bc_true (by assumption) ?_; (conv => whnf))
      | (refine bc_false (by assumption) ?_; (conv => whnf))
      | (refine bc_intro (fun _ => ?_) (fun _ => ?_) <;> (conv => whnf))
      | (refine need_intro ?_ ?_; (conv => whnf))
      | (refine wk_refl ?_; (conv => whnf))
      | (refine draw_intro (by kernel_rfl) ?_; (conv => whnf))
      | (refine ord_intro (by kernel_rfl) ?_; (conv => whnf))
    all_goals first | exact trivial | exact DLe.refl _ | exact DLe.nil | exact RowLe.refl _ _ _ | exact ⟨rfl, rfl⟩ | exact ⟨rfl, rfl, rfl⟩ | trace_state
  · have hs : IntKind.i64.wrap ((i : Int) + 1) = ((i + 1 : Nat) : Int) := wrap_succ (n := 4294967297) (by omega) (by omega)
    have hbi := hb i
    have hst := stripL_len (x := l.getD i default) (node := node)
    have hle : (crashL (l.take i) node).length ≤ i := Nat.le_trans (List.length_filter_le _ _) (by simp; omega)
    have hy : i < l.length → keptL (stripL node (l.getD i default)) = true → crashL (l.take (i + 1)) node = crashL (l.take i) node ++ [stripL node (l.getD i default)] := fun h hk => by
      rw [take_succ' h, crashL, List.map_append, List.filter_append, List.map_cons, List.filter_cons, if_pos hk]; rfl
    have hn : i < l.length → keptL (stripL node (l.getD i default)) = false → crashL (l.take (i + 1)) node = crashL (l.take i) node := fun h hk => by
      rw [take_succ' h, crashL, List.map_append, List.filter_append, List.map_cons, List.filter_cons, if_neg (by rw [hk]; simp)]
      simp [crashL]
    conv => whnf
    repeat' first
      | (refine call_if (lessp_spec _ _) (by first | exact .inl rfl | exact .inr ⟨rfl, rfl⟩) (need_intro ?_ ?_); (conv => whnf))
      | (refine call_if (keptp_spec (stripL node (l.getD i default))) (by first | exact .inl rfl | exact .inr ⟨rfl, rfl⟩) (need_intro ?_ ?_); (conv => whnf))
      | (refine NextVC.mk (i + 1) ?_ ?_ ?_; (conv => whnf))
      | (refine bc_true (by assumption) ?_; (conv => whnf))
      | (refine bc_false (by assumption) ?_; (conv => whnf))
      | (refine bc_intro (fun _ => ?_) (fun _ => ?_) <;> (conv => whnf))
      | (refine need_intro ?_ ?_; (conv => whnf))
      | (refine wk_refl ?_; (conv => whnf))
      | (refine draw_intro (by kernel_rfl) ?_; (conv => whnf))
      | (refine ord_intro (by kernel_rfl) ?_; (conv => whnf))
    all_goals try simp only [cellsLse, bytesLse, cellsI, bytesI, true_and, and_true, decide_eq_true_eq, decide_eq_false_iff_not, beq_iff_eq, bne_iff_ne, beq_eq_false_iff_ne, bne_eq_false_iff_eq, ne_eq, Decidable.not_not, Bool.not_eq_true', Bool.not_eq_false', Int.toNat_natCast] at *
    all_goals first
      | exact trivial
      | omega
      | exact DLe.refl _
      | exact DLe.of_eq (by rw [hs])
      | exact ⟨by omega, by omega⟩
      | (rw [hy (by omega) (by assumption)]; simp only [List.length_append, List.length_singleton]; done)
      | (rw [hn (by omega) (by assumption)]; done)
      | (rw [hn (by omega) (by assumption)]; exact RowLe.refl _ _ _)
      | (rw [hy (by omega) (by assumption)]; simp only [List.length_append, List.length_singleton]
         refine row_snoc rfl (RowLe.refl _ _ _) ?_
         (refine jlt9 ?_; (repeat' first | exact trivial | exact DLe.refl _ | exact DLe.nil | apply And.intro))
         done)
      | exact ⟨les_own (by rw [show i = l.length by omega, List.take_length]), trivial⟩
      | trace_state
end Go.Proofs.YtggehonedmbnjaaDoor
