/- Contracts of functions that the law reaches: YtegbenagmciegaaDoorGrpR. Written for this claim. -/
import Derived.Test.YtegbenagmciegaaDoorGrp
import Derived.Test.YtegbenagmciegaaDoorSxGrp
namespace Go.Proofs.YtegbenagmciegaaDoor
open Go Go.Sx Go.ChangeShapes Go.WideShapes Go.ChangeAt Go.RowKit
set_option linter.unusedVariables false
set_option linter.unusedSimpArgs false
set_option maxRecDepth 100000
theorem placeG_spec {n : Nat} {gf : Nat → Nat → D} (num : Int) (opn : Bool) (ms : List MemT) (id : Int) : ((n = ms.length ∧ RowLe n 32 gf (cellOf encMem ms)) ∧ ms.length ≤ 1000) → Sx.Spec Tryd.prog GG 55 [.agg [.d (.int .i64 num), .d (.bool opn), .d (.list n 32 gf)], .d (.int .i64 id)] [] (.d (.int .i64 (indexG ms id 0))) [] := by
  rintro ⟨⟨rfl, hr⟩, hl⟩
  refine Sx.Spec.arg (args' := [.agg [.d (.int .i64 num), .d (.bool opn), .d (encL encMem 32 ms)], .d (.int .i64 id)]) ?_ (LeL.cons (LeS.agg (LeL.cons (LeS.refl _) (LeL.cons (LeS.refl _) (LeL.cons (LeS.d (DLe.rows rfl hr)) LeL.nil)))) (LeL.cons (LeS.refl _) LeL.nil))
  refine spec_intro (E := EE) (fn := Tryd.f55) eok (by kernel_rfl) (by kernel_rfl) Tryd.call55 (by kernel_rfl) (by kernel_rfl) ?_
  conv => whnf
  repeat' first
    | (refine bc_true (by assumption) ?_; (conv => whnf))
    | (refine bc_false (by assumption) ?_; (conv => whnf))
    | (refine need_intro ?_ ?_; (conv => whnf))
    | (refine wk_refl ?_; (conv => whnf))
    | (refine draw_intro (by kernel_rfl) ?_; (conv => whnf))
    | (refine ord_intro (by kernel_rfl) ?_; (conv => whnf))
  refine loop_auto [1, 2, 4, 8, 9] [2] (fun i : Nat => [(10, .d (.int .i64 i))]) (fun i => []) (fun i => i ≤ 1000 ∧ indexG ms id 0 = indexG ms id i) (fun i => 2000 - i) 0 ?_ (fun i hi => ?_) ⟨by omega, rfl⟩
  · conv => whnf
    repeat' first
      | (refine bc_true (by assumption) ?_; (conv => whnf))
      | (refine bc_false (by assumption) ?_; (conv => whnf))
      | (refine bc_intro (fun _ => ?_) (fun _ => ?_) <;> (conv => whnf))
      | (refine need_intro ?_ ?_; (conv => whnf))
      | (refine wk_refl ?_; (conv => whnf))
      | (refine draw_intro (by kernel_rfl) ?_; (conv => whnf))
      | (refine ord_intro (by kernel_rfl) ?_; (conv => whnf))
    all_goals first | exact trivial | exact DLe.refl _ | trace_state
  · obtain ⟨h2, h3⟩ := hi
    have hs : IntKind.i64.wrap ((i : Int) + 1) = ((i + 1 : Nat) : Int) := wrap_succ (n := 2000) (by omega) (by omega)
    conv => whnf
    repeat' first
      | (refine NextVC.mk (i + 1) ?_ ?_ ?_; (conv => whnf))
      | (refine bc_true (by assumption) ?_; (conv => whnf))
      | (refine bc_false (by assumption) ?_; (conv => whnf))
      | (refine bc_intro (fun _ => ?_) (fun _ => ?_) <;> (conv => whnf))
      | (refine need_intro ?_ ?_; (conv => whnf))
      | (refine wk_refl ?_; (conv => whnf))
      | (refine draw_intro (by kernel_rfl) ?_; (conv => whnf))
      | (refine ord_intro (by kernel_rfl) ?_; (conv => whnf))
    all_goals try simp only [decide_eq_true_eq, decide_eq_false_iff_not, beq_iff_eq, beq_eq_false_iff_ne, ne_eq, Int.toNat_natCast] at *
    all_goals first
      | exact trivial
      | omega
      | exact DLe.refl _
      | exact DLe.of_eq (by rw [hs])
      | exact ⟨by omega, by omega⟩
      | (refine ⟨by omega, ?_⟩; rw [h3, index_step (by omega), if_neg (by assumption)])
      | (refine ⟨LeS.of_eq ?_, trivial⟩; rw [h3, index_step (by omega), if_pos (by assumption)]; done)
      | (refine ⟨LeS.of_eq ?_, trivial⟩; rw [h3, index_end (by omega)]; done)
      | trace_state
/-! groups by the reference -/
theorem row_setM {ms : List MemT} {p n : Nat} {x : MemT} (hp : p < ms.length) : RowLe n 32 (fun i j => if 0 + i = 0 + p then if j < 0 then cellOf encMem ms (0 + i) j else if j < 0 + (encMem x).length then (encMem x).getD (j - 0) default else cellOf encMem ms (0 + i) j else cellOf encMem ms (0 + i) j)
    (cellOf encMem (ms.set p x)) := by
  refine .of_eq fun i' j' _ hj => ?_
  have hl : (encMem x).length = 32 := rfl
  simp only [Nat.zero_add, hl, Nat.not_lt_zero, if_false, hj, if_true, Nat.sub_zero]
  by_cases hi : i' = p
  · subst hi
    rw [if_pos rfl]
    simp only [cellOf, getD_set_self hp]
  · rw [if_neg hi]
    simp only [cellOf, Go.Sx.getD_set_ne hi]
theorem cut_cell {ms : List MemT} {p i j a b c : Nat} (hp : p < ms.length) (hi : i + 1 < ms.length) (ha : a = p) (hb : i < p → b = i) (hc : p ≤ i → c = i + 1) : (if 0 + i < a then cellOf encMem ms b j else cellOf encMem ms c j) = cellOf encMem (ms.take p ++ ms.drop (p + 1)) i j := by
  subst ha
  simp only [cellOf, Nat.zero_add]
  rw [getD_cutM hp hi]
  split
  · rename_i h; rw [hb h]
  · rename_i h; rw [hc (by omega)]
theorem has_no {g : GrpT} {id : Int} (h : (ownerG g).2 = false ∨ ¬ indexG g.mem id 1 > 0 ∨ (g.mem.getD (indexG g.mem id 1).toNat default).up = false) : hasG g id = false := by
  have hr := index_range (ms := g.mem) (id := id) (f := 1)
  unfold hasG
  rcases h with h | h | h
  · rw [h]; rfl
  · have : ¬ 0 ≤ indexG g.mem id 1 := by rcases hr with hr | ⟨i, h1, h2, _⟩ <;> omega
    rw [decide_eq_false this]; simp
  · rw [h]; simp
theorem has_yes {g : GrpT} {id : Int} (h1 : (ownerG g).2 = true) (h2 : indexG g.mem id 1 > 0) (h3 : (g.mem.getD (indexG g.mem id 1).toNat default).up = true) :
    hasG g id = (decide (((ownerG g).1.copy.pend.length : Int) > 0) && (((ownerG g).1.copy.se == (g.mem.getD (indexG g.mem id 1).toNat default).copy.se) && decide (IntKind.i64.wrap ((g.mem.getD (indexG g.mem id 1).toNat default).copy.sv + ((g.mem.getD (indexG g.mem id 1).toNat default).copy.pend.length : Int)) > (ownerG g).1.copy.sv))) := by
  unfold hasG
  rw [h1, h3, decide_eq_true (show 0 ≤ indexG g.mem id 1 by omega), Bool.true_and, Bool.true_and, Bool.true_and]
  have e1 : (!(((ownerG g).1.copy.pend.length : Int) == 0)) = decide (((ownerG g).1.copy.pend.length : Int) > 0) := by
    rw [Bool.eq_iff_iff]; simp only [Bool.not_eq_true', beq_eq_false_iff_ne, ne_eq, decide_eq_true_eq]; omega
  have e2 : ∀ a b : Int, (a == b) = (b == a) := fun a b => by rw [Bool.eq_iff_iff]; simp only [beq_iff_eq]; omega
  rw [e1, e2]
theorem cwr_step {g : GrpT} {i : Nat} (h0 : 0 < i) (hi : i < g.mem.length) : anyG g (g.mem.drop i) = (((g.mem.getD i default).up && !(hasG g (g.mem.getD i default).id)) || anyG g (g.mem.drop (i + 1))) := any_step hi
end Go.Proofs.YtegbenagmciegaaDoor
