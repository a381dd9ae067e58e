/- Contracts of functions that the law reaches: YtggehonedmbnjaaQNum. Written for this claim. -/
import Derived.Test.YtggehonedmbnjaaQLook
namespace Go.Proofs.Ytggehonedmbnjaa
open Go Go.Sx Go.ChangeShapes Go.WideShapes Go.ChangeAt Go.RowKit
set_option linter.unusedVariables false
set_option linter.unusedSimpArgs false
set_option maxRecDepth 100000
/-! places by search -/
theorem siAt_spec (xs : List Int) (n i : Int) : (0 ≤ i ∧ i < xs.length) → Sx.Spec Try.prog GG 46 [.d (.int .i64 i), .ptr 2 0, .ptr 3 0] [(2, .box [.d (encL encI 1 xs)]), (3, .box [.d (.int .i64 n)])] (.d (.bool (decide (xs.getD i.toNat default ≥ n)))) [(2, .box [.d (encL encI 1 xs)]), (3, .box [.d (.int .i64 n)])] := by
  intro hi
  refine spec_intro (E := EE) (fn := Try.f46) eok (by kernel_rfl) (by kernel_rfl) Try.call46 (by kernel_rfl) (by kernel_rfl) ?_
  conv => whnf
  repeat' first
    | (refine bc_true (by assumption) ?_; (conv => whnf))
    | (refine bc_false (by assumption) ?_; (conv => whnf))
    | (refine bc_intro (fun _ => ?_) (fun _ => ?_) <;> (conv => whnf))
    | (refine need_intro ?_ ?_; (conv => whnf))
    | (refine wk_refl ?_; (conv => whnf))
    | (refine draw_intro (by kernel_rfl) ?_; (conv => whnf))
    | (refine ord_intro (by kernel_rfl) ?_; (conv => whnf))
  all_goals first
    | omega
    | exact ⟨LeS.refl _, LeL.refl _, LeL.refl _, trivial⟩
    | trace_state
theorem siSearch_spec (xs : List Int) (n : Int) : (xs.length ≤ 4294967296 ∧ xs.Pairwise (· < ·)) → Sx.Spec Try.prog GG 37 [.d (.int .i64 xs.length), .clo 46 [.ptr 2 0, .ptr 3 0]] [(2, .box [.d (encL encI 1 xs)]), (3, .box [.d (.int .i64 n)])] (.d (.int .i64 (plN xs n))) [(2, .box [.d (encL encI 1 xs)]), (3, .box [.d (.int .i64 n)])] := by
  rintro ⟨hlen, hs⟩
  refine spec_intro (E := EE) (fn := Try.f37) eok (by kernel_rfl) (by kernel_rfl) Try.call37 (by kernel_rfl) (by kernel_rfl) ?_
  conv => whnf
  repeat' first
    | (refine bc_true (by assumption) ?_; (conv => whnf))
    | (refine bc_false (by assumption) ?_; (conv => whnf))
    | (refine bc_intro (fun _ => ?_) (fun _ => ?_) <;> (conv => whnf))
    | (refine need_intro ?_ ?_; (conv => whnf))
    | (refine wk_refl ?_; (conv => whnf))
    | (refine draw_intro (by kernel_rfl) ?_; (conv => whnf))
    | (refine ord_intro (by kernel_rfl) ?_; (conv => whnf))
  refine loop_auto [1] [2, 3] (fun x : Nat × Nat => [(5, .d (.int .i64 x.1)), (6, .d (.int .i64 x.2))]) (fun x => []) (fun x => (x.1 ≤ x.2 ∧ x.2 ≤ xs.length) ∧ x.1 ≤ plN xs n ∧ plN xs n ≤ x.2) (fun x => x.2 - x.1) (0, xs.length) ?_ (fun x hx => ?_) ⟨⟨Nat.zero_le _, Nat.le_refl _⟩, Nat.zero_le _, plN_le⟩
  · conv => whnf
    repeat' first
      | (refine bc_true (by assumption) ?_; (conv => whnf))
      | (refine bc_false (by assumption) ?_; (conv => whnf))
      | (refine bc_intro (fun _ => ?_) (fun _ => ?_) <;> (conv => whnf))
      | (refine need_intro ?_ ?_; (conv => whnf))
      | (refine wk_refl ?_; (conv => whnf))
      | (refine draw_intro (by kernel_rfl) ?_; (conv => whnf))
      | (refine ord_intro (by kernel_rfl) ?_; (conv => whnf))
    all_goals first | exact trivial | exact DLe.refl _ | exact DLe.nil | exact RowLe.refl _ _ _ | exact ⟨rfl, rfl⟩ | exact ⟨rfl, rfl, rfl⟩ | trace_state
  · obtain ⟨i, j⟩ := x
    obtain ⟨⟨hij, hj⟩, h1, h2⟩ := hx
    simp only at hij hj h1 h2
    have hm : IntKind.i64.wrap ((IntKind.u64.wrap (IntKind.i64.wrap ((i : Int) + (j : Int)))).fdiv (2 ^ min (Int.toNat 1) IntKind.u64.bits)) = (((i + j) / 2 : Nat) : Int) := mid_eq' (by omega) (by omega)
    have hm1 : i < j → IntKind.i64.wrap ((((i + j) / 2 : Nat) : Int) + 1) = (((i + j) / 2 + 1 : Nat) : Int) := fun h => wrap_succ (n := 1099511627777) (by omega) (by omega)
    have hp : i < j → _ := fun h => plN_iff (n := n) hs (i := (i + j) / 2) (by omega)
    conv => whnf
    repeat' first
      | (refine call_if (siAt_spec _ _ _) (by first | exact .inl rfl | exact .inr ⟨rfl, rfl⟩) (need_intro ?_ ?_); (conv => whnf))
      | (refine bc_true (by assumption) ?_; (conv => whnf))
      | (refine bc_false (by assumption) ?_; (conv => whnf))
      | (refine bc_intro (fun _ => ?_) (fun _ => ?_) <;> (conv => whnf))
      | (refine need_intro ?_ ?_; (conv => whnf))
      | (refine wk_refl ?_; (conv => whnf))
      | (refine draw_intro (by kernel_rfl) ?_; (conv => whnf))
      | (refine ord_intro (by kernel_rfl) ?_; (conv => whnf))
    all_goals try simp only [hm, decide_eq_true_eq, decide_eq_false_iff_not, Bool.not_eq_true', Bool.not_eq_false', Int.toNat_natCast, Int.not_le, ge_iff_le] at *
    all_goals first
      | omega
      | exact ⟨by omega, by omega⟩
      | (refine NextVC.mk ((i + j) / 2 + 1, j) ?_ ?_ ?_
         (conv => whnf)
         repeat' (refine need_intro ?_ ?_; (conv => whnf))
         all_goals try simp only [hm, decide_eq_true_eq, decide_eq_false_iff_not] at *
         all_goals first
           | exact trivial
           | omega
           | exact DLe.refl _
           | exact DLe.of_eq (by rw [hm])
           | exact DLe.of_eq (by rw [hm, hm1 (by omega)])
           | exact DLe.of_eq (by rw [hm1 (by omega)])
           | (have hp := hp (by omega); exact ⟨⟨by omega, by omega⟩, by omega, by omega⟩)
           | (have hp := hp (by omega)
              have hq : ¬ ((i + j) / 2) < plN xs n := fun h => by have := hp.1 h; simp_all
              exact ⟨⟨by omega, by omega⟩, by omega, by omega⟩)
           | (have hp := hp (by omega)
              have hq : ((i + j) / 2) < plN xs n := hp.2 (by simp_all)
              exact ⟨⟨by omega, by omega⟩, by omega, by omega⟩)
         done)
      | (refine NextVC.mk (i, (i + j) / 2) ?_ ?_ ?_
         (conv => whnf)
         repeat' (refine need_intro ?_ ?_; (conv => whnf))
         all_goals try simp only [hm, decide_eq_true_eq, decide_eq_false_iff_not] at *
         all_goals first
           | exact trivial
           | omega
           | exact DLe.refl _
           | exact DLe.of_eq (by rw [hm])
           | exact DLe.of_eq (by rw [hm, hm1 (by omega)])
           | exact DLe.of_eq (by rw [hm1 (by omega)])
           | (have hp := hp (by omega); exact ⟨⟨by omega, by omega⟩, by omega, by omega⟩)
           | (have hp := hp (by omega)
              have hq : ¬ ((i + j) / 2) < plN xs n := fun h => by have := hp.1 h; simp_all
              exact ⟨⟨by omega, by omega⟩, by omega, by omega⟩)
           | (have hp := hp (by omega)
              have hq : ((i + j) / 2) < plN xs n := hp.2 (by simp_all)
              exact ⟨⟨by omega, by omega⟩, by omega, by omega⟩)
         done)
      | (refine ⟨LeS.of_eq ?_, LeL.refl _, LeL.refl _, trivial⟩
         rw [show plN xs n = i by omega])
      | trace_state
theorem searchI_spec (xs : List Int) (n : Int) : (xs.length ≤ 4294967296 ∧ xs.Pairwise (· < ·)) → Sx.Spec Try.prog GG 41 [.d (encL encI 1 xs), .d (.int .i64 n)] [] (.d (.int .i64 (plN xs n))) [] := by
  intro h
  refine spec_intro (E := EE) (fn := Try.f41) eok (by kernel_rfl) (by kernel_rfl) Try.call41 (by kernel_rfl) (by kernel_rfl) ?_
  conv => whnf
  repeat' first
    | (refine call_intro (siSearch_spec _ _ h) ?_ (by first | exact .inl rfl | exact .inr ⟨rfl, rfl⟩); (conv => whnf))
    | (refine bc_true (by assumption) ?_; (conv => whnf))
    | (refine bc_false (by assumption) ?_; (conv => whnf))
    | (refine bc_intro (fun _ => ?_) (fun _ => ?_) <;> (conv => whnf))
    | (refine need_intro ?_ ?_; (conv => whnf))
    | (refine wk_refl ?_; (conv => whnf))
    | (refine draw_intro (by kernel_rfl) ?_; (conv => whnf))
    | (refine ord_intro (by kernel_rfl) ?_; (conv => whnf))
  exact ⟨LeS.refl _, trivial⟩
theorem inAt_spec (xs : List LseT) (x : LseT) (i : Int) : (0 ≤ i ∧ i < xs.length) → Sx.Spec Try.prog GG 38 [.d (.int .i64 i), .ptr 2 0, .ptr 3 0] [(2, .box [.d (encL encLse 9 xs)]), (3, .box (lseL x))] (.d (.bool (Op.bytesLess x.key (xs.getD i.toNat default).key))) [(2, .box [.d (encL encLse 9 xs)]), (3, .box (lseL x))] := by
  intro hi
  refine spec_intro (E := EE) (fn := Try.f38) eok (by kernel_rfl) (by kernel_rfl) Try.call38 (by kernel_rfl) (by kernel_rfl) ?_
  conv => whnf
  repeat' first
    | (refine bc_true (by assumption) ?_; (conv => whnf))
    | (refine bc_false (by assumption) ?_; (conv => whnf))
    | (refine bc_intro (fun _ => ?_) (fun _ => ?_) <;> (conv => whnf))
    | (refine need_intro ?_ ?_; (conv => whnf))
    | (refine wk_refl ?_; (conv => whnf))
    | (refine draw_intro (by kernel_rfl) ?_; (conv => whnf))
    | (refine ord_intro (by kernel_rfl) ?_; (conv => whnf))
  all_goals first
    | omega
    | exact ⟨LeS.of_eq (by rw [bl_gtr]), LeL.refl _, LeL.refl _, trivial⟩
    | trace_state
theorem inSearch_spec (xs : List LseT) (x : LseT) : (xs.length ≤ 4294967296 ∧ SortL xs) → Sx.Spec Try.prog GG 37 [.d (.int .i64 xs.length), .clo 38 [.ptr 2 0, .ptr 3 0]] [(2, .box [.d (encL encLse 9 xs)]), (3, .box (lseL x))] (.d (.int .i64 (plL xs x.key))) [(2, .box [.d (encL encLse 9 xs)]), (3, .box (lseL x))] := by
  rintro ⟨hlen, hs⟩
  refine spec_intro (E := EE) (fn := Try.f37) eok (by kernel_rfl) (by kernel_rfl) Try.call37 (by kernel_rfl) (by kernel_rfl) ?_
  conv => whnf
  repeat' first
    | (refine bc_true (by assumption) ?_; (conv => whnf))
    | (refine bc_false (by assumption) ?_; (conv => whnf))
    | (refine bc_intro (fun _ => ?_) (fun _ => ?_) <;> (conv => whnf))
    | (refine need_intro ?_ ?_; (conv => whnf))
    | (refine wk_refl ?_; (conv => whnf))
    | (refine draw_intro (by kernel_rfl) ?_; (conv => whnf))
    | (refine ord_intro (by kernel_rfl) ?_; (conv => whnf))
  refine loop_auto [1] [2, 3] (fun x : Nat × Nat => [(5, .d (.int .i64 x.1)), (6, .d (.int .i64 x.2))]) (fun x => []) (fun y => (y.1 ≤ y.2 ∧ y.2 ≤ xs.length) ∧ y.1 ≤ plL xs x.key ∧ plL xs x.key ≤ y.2) (fun x => x.2 - x.1) (0, xs.length) ?_ (fun x hx => ?_) ⟨⟨Nat.zero_le _, Nat.le_refl _⟩, Nat.zero_le _, plL_le⟩
  · conv => whnf
    repeat' first
      | (refine bc_true (by assumption) ?_; (conv => whnf))
      | (refine bc_false (by assumption) ?_; (conv => whnf))
      | (refine bc_intro (fun _ => ?_) (fun _ => ?_) <;> (conv => whnf))
      | (refine need_intro ?_ ?_; (conv => whnf))
      | (refine wk_refl ?_; (conv => whnf))
      | (refine draw_intro (by kernel_rfl) ?_; (conv => whnf))
      | (refine ord_intro (by kernel_rfl) ?_; (conv => whnf))
    all_goals first | exact trivial | exact DLe.refl _ | exact DLe.nil | exact RowLe.refl _ _ _ | exact ⟨rfl, rfl⟩ | exact ⟨rfl, rfl, rfl⟩ | trace_state
  · rename_i y
    obtain ⟨i, j⟩ := x
    obtain ⟨⟨hij, hj⟩, h1, h2⟩ := hx
    simp only at hij hj h1 h2
    have hm : IntKind.i64.wrap ((IntKind.u64.wrap (IntKind.i64.wrap ((i : Int) + (j : Int)))).fdiv (2 ^ min (Int.toNat 1) IntKind.u64.bits)) = (((i + j) / 2 : Nat) : Int) := mid_eq' (by omega) (by omega)
    have hm1 : i < j → IntKind.i64.wrap ((((i + j) / 2 : Nat) : Int) + 1) = (((i + j) / 2 + 1 : Nat) : Int) := fun h => wrap_succ (n := 1099511627777) (by omega) (by omega)
    have hp : i < j → _ := fun h => pl_iff (k := y.key) hs (i := (i + j) / 2) (by omega)
    conv => whnf
    repeat' first
      | (refine call_if (inAt_spec _ _ _) (by first | exact .inl rfl | exact .inr ⟨rfl, rfl⟩) (need_intro ?_ ?_); (conv => whnf))
      | (refine bc_true (by assumption) ?_; (conv => whnf))
      | (refine bc_false (by assumption) ?_; (conv => whnf))
      | (refine bc_intro (fun _ => ?_) (fun _ => ?_) <;> (conv => whnf))
      | (refine need_intro ?_ ?_; (conv => whnf))
      | (refine wk_refl ?_; (conv => whnf))
      | (refine draw_intro (by kernel_rfl) ?_; (conv => whnf))
      | (refine ord_intro (by kernel_rfl) ?_; (conv => whnf))
    all_goals try simp only [hm, decide_eq_true_eq, decide_eq_false_iff_not, Bool.not_eq_true', Bool.not_eq_false', Int.toNat_natCast, Int.not_le, ge_iff_le] at *
    all_goals first
      | omega
      | exact ⟨by omega, by omega⟩
      | (refine NextVC.mk ((i + j) / 2 + 1, j) ?_ ?_ ?_
         (conv => whnf)
         repeat' (refine need_intro ?_ ?_; (conv => whnf))
         all_goals try simp only [hm, decide_eq_true_eq, decide_eq_false_iff_not] at *
         all_goals first
           | exact trivial
           | omega
           | exact DLe.refl _
           | exact DLe.of_eq (by rw [hm])
           | exact DLe.of_eq (by rw [hm, hm1 (by omega)])
           | exact DLe.of_eq (by rw [hm1 (by omega)])
           | (have hp := hp (by omega); exact ⟨⟨by omega, by omega⟩, by omega, by omega⟩)
           | (have hp := hp (by omega)
              have hq : ¬ ((i + j) / 2) < plL xs y.key := fun h => by have := hp.1 h; simp_all
              exact ⟨⟨by omega, by omega⟩, by omega, by omega⟩)
           | (have hp := hp (by omega)
              have hq : ((i + j) / 2) < plL xs y.key := hp.2 (by simp_all)
              exact ⟨⟨by omega, by omega⟩, by omega, by omega⟩)
         done)
      | (refine NextVC.mk (i, (i + j) / 2) ?_ ?_ ?_
         (conv => whnf)
         repeat' (refine need_intro ?_ ?_; (conv => whnf))
         all_goals try simp only [hm, decide_eq_true_eq, decide_eq_false_iff_not] at *
         all_goals first
           | exact trivial
           | omega
           | exact DLe.refl _
           | exact DLe.of_eq (by rw [hm])
           | exact DLe.of_eq (by rw [hm, hm1 (by omega)])
           | exact DLe.of_eq (by rw [hm1 (by omega)])
           | (have hp := hp (by omega); exact ⟨⟨by omega, by omega⟩, by omega, by omega⟩)
           | (have hp := hp (by omega)
              have hq : ¬ ((i + j) / 2) < plL xs y.key := fun h => by have := hp.1 h; simp_all
              exact ⟨⟨by omega, by omega⟩, by omega, by omega⟩)
           | (have hp := hp (by omega)
              have hq : ((i + j) / 2) < plL xs y.key := hp.2 (by simp_all)
              exact ⟨⟨by omega, by omega⟩, by omega, by omega⟩)
         done)
      | (refine ⟨LeS.of_eq ?_, LeL.refl _, LeL.refl _, trivial⟩
         rw [show plL xs y.key = i by omega])
      | trace_state
/-! lists of numbers -/
theorem cloneI0 (xs : List Int) : xs.length ≤ 4294967296 → Sx.Spec Try.prog GG 40 [.d (encL encI 1 xs)] [] (.osl 1000 1 0 xs.length) [(1000, .row 3 1 xs.length (cellOf encI xs))] := by
  intro hl
  refine spec_intro (E := EE) (fn := Try.f40) eok (by kernel_rfl) (by kernel_rfl) Try.call40 (by kernel_rfl) (by kernel_rfl) ?_
  conv => whnf
  repeat' first
    | (refine bc_true (by assumption) ?_; (conv => whnf))
    | (refine bc_false (by assumption) ?_; (conv => whnf))
    | (refine bc_intro (fun _ => ?_) (fun _ => ?_) <;> (conv => whnf))
    | (refine need_intro ?_ ?_; (conv => whnf))
    | (refine wk_refl ?_; (conv => whnf))
    | (refine draw_intro (by kernel_rfl) ?_; (conv => whnf))
    | (refine ord_intro (by kernel_rfl) ?_; (conv => whnf))
  all_goals try simp only [cellsLse, bytesLse, cellsI, bytesI, true_and, and_true, decide_eq_true_eq, decide_eq_false_iff_not, beq_iff_eq, bne_iff_ne, beq_eq_false_iff_ne, bne_eq_false_iff_eq, ne_eq, Decidable.not_not, Bool.not_eq_true', Bool.not_eq_false', Int.toNat_natCast] at *
  all_goals first
    | exact trivial
    | omega
    | exact DLe.refl _
    | exact RowLe.refl _ _ _
    | exact ⟨by omega, by omega⟩
    | trace_state
theorem cloneI_own (m : Nat) (xs : List Int) {n : Nat} {g : Nat → Nat → D} : ((n = xs.length ∧ RowLe n 1 g (cellOf encI xs)) ∧ xs.length ≤ 4294967296) → Sx.Spec Try.prog GG 40 [.d (.list n 1 g)] [] (.osl m 1 0 xs.length) [(m, .row 3 1 xs.length (cellOf encI xs))] := fun ⟨⟨e, hr⟩, h⟩ => by
  subst e
  exact ((cloneI0 xs h).new1 m).arg (LeL.cons (LeS.d (DLe.rows rfl hr)) LeL.nil)
theorem cloneI_spec (xs : List Int) : xs.length ≤ 4294967296 → Sx.Spec Try.prog GG 40 [.d (encL encI 1 xs)] [] (.d (encL encI 1 xs)) [] := fun h => (cloneI0 xs h).pub1
theorem row_ins {α : Type} [Inhabited α] {enc : α → List D} {k len p : Nat} {l : List α} {x : α} {z : Nat → Nat → D} (hp : p ≤ l.length) (hlen : len = (l.take p).length + 1 + (l.length - p)) (hx : ∀ j, j < k → DLe (z 0 j) ((enc x).getD j default)) :
    LeS (.d (.list len k fun i j => if i < (l.take p).length + 1 then if i < (l.take p).length then cellOf enc (l.take p) i j else z (i - (l.take p).length) j else cellOf enc l (p + (i - ((l.take p).length + 1))) j)) (.d (encL enc k (l.take p ++ x :: l.drop p))) := by
  have e : l.take p ++ x :: l.drop p = (l.take p ++ [x]) ++ l.drop p := by simp
  have hd : (l.drop p).length = l.length - p := by simp
  rw [e]
  refine LeS.d (DLe.rows (by rw [hlen]; simp only [List.length_append, List.length_drop, List.length_cons, List.length_nil]) ?_)
  have h1 := row_append (enc := enc) (k := k) (n := (l.take p).length + 1) (xs := l.take p ++ [x]) (ys := l.drop p) (g1 := fun i j => if i < (l.take p).length then cellOf enc (l.take p) i j else z (i - (l.take p).length) j) (g2 := fun i j => cellOf enc l (p + i) j) (by simp) (row_snoc rfl (RowLe.refl _ _ _) hx) row_drop
  have e2 : (l.take p ++ [x] ++ l.drop p).length = (l.take p).length + 1 + (l.drop p).length := by simp only [List.length_append, List.length_cons, List.length_nil]
  rw [e2]
  exact h1
theorem withp_spec (l : List Int) (n : Int) : ((l.length ≤ 4294967296 ∧ l.Pairwise (· < ·)) ∧ n ∉ l) → Sx.Spec Try.prog GG 28 [.d (encL encI 1 l), .d (.int .i64 n)] [] (.d (encL encI 1 (insN n l))) [] := by
  rintro ⟨⟨hl, hs⟩, hn⟩
  have hp := plN_le (l := l) (n := n)
  have hi := insN_place hn
  have htl : (l.take (plN l n)).length = plN l n := by simp; omega
  refine spec_intro (E := EE) (fn := Try.f28) eok (by kernel_rfl) (by kernel_rfl) Try.call28 (by kernel_rfl) (by kernel_rfl) ?_
  conv => whnf
  repeat' first
    | (refine call_if (searchI_spec _ _) (by first | exact .inl rfl | exact .inr ⟨rfl, rfl⟩) (need_intro ?_ ?_); (conv => whnf))
    | (refine call_if (cloneI_own 13 (l.take (plN l n))) (by first | exact .inl rfl | exact .inr ⟨rfl, rfl⟩) (need_intro ?_ ?_); (conv => whnf))
    | (refine bc_true (by assumption) ?_; (conv => whnf))
    | (refine bc_false (by assumption) ?_; (conv => whnf))
    | (refine bc_intro (fun _ => ?_) (fun _ => ?_) <;> (conv => whnf))
    | (refine need_intro ?_ ?_; (conv => whnf))
    | (refine wk_refl ?_; (conv => whnf))
    | (refine draw_intro (by kernel_rfl) ?_; (conv => whnf))
    | (refine ord_intro (by kernel_rfl) ?_; (conv => whnf))
  all_goals try simp only [cellsLse, bytesLse, cellsI, bytesI, true_and, and_true, decide_eq_true_eq, decide_eq_false_iff_not, beq_iff_eq, bne_iff_ne, beq_eq_false_iff_ne, bne_eq_false_iff_eq, ne_eq, Decidable.not_not, Bool.not_eq_true', Bool.not_eq_false', Int.toNat_natCast] at *
  all_goals try simp only [Option.getD_some, Option.getD_none, Int.toNat_natCast, Int.sub_zero, Int.toNat_zero, Nat.zero_add] at *
  all_goals first
    | exact trivial
    | omega
    | exact ⟨hl, hs⟩
    | exact ⟨by omega, by omega⟩
    | exact ⟨by omega, by omega, by omega⟩
    | exact ⟨⟨htl.symm, row_take hp⟩, by omega⟩
    | (rw [hi]
       exact ⟨row_ins hp (by omega) (jlt1 (DLe.of_eq rfl)), trivial⟩)
    | trace_state
/-- the reference's: number by number -/
theorem insI_eq {l : List Int} {n : Int} : insN n l = (l.takeWhile fun x => !(decide (n < x))) ++ n :: (l.dropWhile fun x => !(decide (n < x))) := by
  induction l with
  | nil => rfl
  | cons y l ih =>
    simp only [insN, List.takeWhile_cons, List.dropWhile_cons]
    by_cases h : n < y
    · simp [h]
    · simp [h, ih]
/-- what the loop of the reference has after i numbers -/
def addL (n : Int) (l : List Int) (i : Nat) (done : Bool) : List Int := if done then insN n (l.take i) else l.take i
theorem add_go {n : Int} {l : List Int} {i : Nat} (hi : i < l.length) (hn : ∀ x ∈ l.take i, ¬ n < x) (hx : n < l.getD i default) : insN n (l.take (i + 1)) = l.take i ++ [n] ++ [l.getD i default] := by
  rw [take_succ' hi]
  generalize l.take i = a at *
  induction a with
  | nil => show insN n [l.getD i default] = [n, l.getD i default]; simp only [insN, if_pos hx]
  | cons y a ih =>
    have hy := hn y (by simp)
    simp only [List.cons_append, insN, if_neg hy]
    rw [ih (fun x hx => hn x (by simp [hx]))]
theorem add_on {n : Int} {l : List Int} {i : Nat} (hi : i < l.length) (hd : ∃ x ∈ l.take i, n < x) : insN n (l.take (i + 1)) = insN n (l.take i) ++ [l.getD i default] := by
  rw [take_succ' hi]
  generalize l.take i = a at *
  induction a with
  | nil => obtain ⟨x, hx, _⟩ := hd; cases hx
  | cons y a ih =>
    simp only [List.cons_append, insN]
    by_cases hy : n < y
    · simp [hy]
    · rw [if_neg hy, if_neg hy]
      obtain ⟨x, hx, hnx⟩ := hd
      rcases List.mem_cons.1 hx with rfl | hx
      · exact absurd hnx hy
      · rw [ih ⟨x, hx, hnx⟩]; rfl
theorem add_end {n : Int} {l : List Int} (hn : ∀ x ∈ l, ¬ n < x) : insN n l = l ++ [n] := by
  induction l with
  | nil => rfl
  | cons y l ih =>
    simp only [insN, if_neg (hn y (by simp)), List.cons_append]
    rw [ih (fun x hx => hn x (by simp [hx]))]
theorem addL_len {n : Int} {l : List Int} {i : Nat} {d : Bool} (hi : i ≤ l.length) : (addL n l i d).length = i + (if d then 1 else 0) := by
  unfold addL
  cases d
  · simp; omega
  · simp only [if_true, insN_len, List.length_take]; omega
end Go.Proofs.Ytggehonedmbnjaa
