/- Contracts of functions that the law reaches: YtngdpchhogfhfaaGreatDoorPlc. Written for this claim. -/
import Derived.Test.YtngdpchhogfhfaaGreatDoorOwnersL
import Derived.Test.YtngdpchhogfhfaaGreatDoorLay
namespace Go.Proofs.YtngdpchhogfhfaaGreatDoor
open Go Go.Sx Go.ChangeShapes Go.WideShapes Go.ChangeAt Go.WideMaps Go.WideElems Go.RowKit
set_option linter.unusedVariables false
set_option linter.unusedSimpArgs false
set_option maxRecDepth 100000
theorem any_take1 {p : GrpT → Bool} {l : List GrpT} {i : Nat} (h : i < l.length) : (l.take (i + 1)).any p = ((l.take i).any p || p (l.getD i default)) := by
  rw [take_succ' h, List.any_append, List.any_cons, List.any_nil, Bool.or_false]
def tkP (p : PartT) (h : GrpT) : Bool := h.num == p.dst && (own0 h).copy.took == p.serial
theorem cnt_succ {a b : Nat → Bool} {m : Nat} : cnt a b (m + 1) = cnt a b m + (if a m then 1 else 0) + (if b m then 1 else 0) := rfl
theorem plcB_is (gs : List GrpT) (k : List UInt8) (i : Nat) : plcB gs k i = ((((gs.getD i default).mem.getD 0 default).copy.out.serial != 0) && (!(gs.any (tkP ((gs.getD i default).mem.getD 0 default).copy.out)) && containsR ((gs.getD i default).mem.getD 0 default).copy.out.lk ((gs.getD i default).mem.getD 0 default).copy.out.lt ((gs.getD i default).mem.getD 0 default).copy.out.hk ((gs.getD i default).mem.getD 0 default).copy.out.ht k)) := rfl
set_option maxHeartbeats 4000000 in
theorem places0 (gs : List GrpT) (k : List UInt8) : (gs.length ≤ 100 ∧ ∀ i, i < gs.length → (gs.getD i default).mem.length ≠ 0) → Sx.Spec Tryz.prog GG 12 [.d (encL encGrp 3 gs), .d (.str k)] [] (.d (.int .i64 (cnt (plcA gs k) (plcB gs k) gs.length))) [] := by
  rintro ⟨hl, hm⟩
  refine spec_intro (E := EE) (fn := Tryz.f12) eok (by kernel_rfl) (by kernel_rfl) Tryz.call12 (by kernel_rfl) (by kernel_rfl) ?_
  conv => whnf
  repeat' first
    | (refine bc_true (by assumption) ?_; (conv => whnf))
    | (refine bc_false (by assumption) ?_; (conv => whnf))
    | (refine need_intro ?_ ?_; (conv => whnf))
    | (refine wk_refl ?_; (conv => whnf))
    | (refine draw_intro (by kernel_rfl) ?_; (conv => whnf))
    | (refine ord_intro (by kernel_rfl) ?_; (conv => whnf))
  refine loop_auto [0, 1, 12, 13] [] (fun i : Nat => [(14, .d (.int .i64 i)), (5, .d (.int .i64 (cnt (plcA gs k) (plcB gs k) i)))]) (fun i => []) (fun i => i ≤ gs.length) (fun i => gs.length - i) 0 ?_ (fun i hi => ?_) (by omega)
  · conv => whnf
    repeat' first
      | (refine bc_true (by assumption) ?_; (conv => whnf))
      | (refine bc_false (by assumption) ?_; (conv => whnf))
      | (refine bc_intro (fun _ => ?_) (fun _ => ?_) <;> (conv => whnf))
      | (refine need_intro ?_ ?_; (conv => whnf))
      | (refine wk_refl ?_; (conv => whnf))
      | (refine draw_intro (by kernel_rfl) ?_; (conv => whnf))
      | (refine ord_intro (by kernel_rfl) ?_; (conv => whnf))
    all_goals first | exact trivial | exact DLe.refl _ | exact DLe.nil | exact RowLe.refl _ _ _ | exact ⟨rfl, rfl⟩ | exact ⟨rfl, rfl, rfl⟩ | trace_state
  have hs : IntKind.i64.wrap ((i : Int) + 1) = ((i + 1 : Nat) : Int) := wrap_succ (n := 2000) (by omega) (by omega)
  have hcl := cnt_le (a := plcA gs k) (b := plcB gs k) (m := i)
  have hw1 : IntKind.i64.wrap (((cnt (plcA gs k) (plcB gs k) i : Nat) : Int) + 1) = ((cnt (plcA gs k) (plcB gs k) i + 1 : Nat) : Int) := wrap_succ (n := 2000) (by omega) (by omega)
  have hw2 : IntKind.i64.wrap (((cnt (plcA gs k) (plcB gs k) i + 1 : Nat) : Int) + 1) = ((cnt (plcA gs k) (plcB gs k) i + 1 + 1 : Nat) : Int) := wrap_succ (n := 2000) (by omega) (by omega)
  rcases Nat.lt_or_eq_of_le hi with hlt | rfl
  rotate_left
  · have hlt' : decide (((gs.length : Nat) : Int) < ((gs.length : Nat) : Int)) = false := decide_eq_false (by omega)
    conv => whnf
    repeat' first
      | (refine bc_true (by assumption) ?_; (conv => whnf))
      | (refine bc_false (by assumption) ?_; (conv => whnf))
      | (refine bc_intro (fun _ => ?_) (fun _ => ?_) <;> (conv => whnf))
      | (refine need_intro ?_ ?_; (conv => whnf))
      | (refine wk_refl ?_; (conv => whnf))
      | (refine draw_intro (by kernel_rfl) ?_; (conv => whnf))
      | (refine ord_intro (by kernel_rfl) ?_; (conv => whnf))
    all_goals first
      | exact ⟨LeS.refl _, trivial⟩
      | trace_state
  have hlt' : decide ((i : Int) < ((gs.length : Nat) : Int)) = true := decide_eq_true (by omega)
  have hn1 : 1 ≤ (gs.getD i default).mem.length := by have := hm i hlt; omega
  conv => whnf
  repeat' first
    | (refine call_intro (containsRr_spec ((gs.getD i default).mem.getD 0 default).copy.lk ((gs.getD i default).mem.getD 0 default).copy.lt ((gs.getD i default).mem.getD 0 default).copy.hk ((gs.getD i default).mem.getD 0 default).copy.ht k) ?_ (by first | exact .inl rfl | exact .inr ⟨rfl, rfl⟩); (conv => whnf))
    | (refine bc_true (by assumption) ?_; (conv => whnf))
    | (refine bc_false (by assumption) ?_; (conv => whnf))
    | (refine need_intro ?_ ?_; (conv => whnf))
    | (refine wk_refl ?_; (conv => whnf))
    | (refine draw_intro (by kernel_rfl) ?_; (conv => whnf))
    | (refine ord_intro (by kernel_rfl) ?_; (conv => whnf))
  all_goals try first
    | exact ⟨by omega, by omega⟩
    | omega
    | exact ⟨Int.le_refl 0, by show (0 : Int) < (((gs.getD i default).mem.length : Nat) : Int); omega⟩
  have hA : plcA gs k i = containsR ((gs.getD i default).mem.getD 0 default).copy.lk ((gs.getD i default).mem.getD 0 default).copy.lt ((gs.getD i default).mem.getD 0 default).copy.hk ((gs.getD i default).mem.getD 0 default).copy.ht k := rfl
  refine join_auto [0, 1, 12, 13, 14, 8] [8] (fun c : Nat => [(5, .d (.int .i64 c))]) (fun c => []) (fun c => c = cnt (plcA gs k) (plcB gs k) i + (if plcA gs k i then 1 else 0)) (fun h1 => ?_) (fun h1 => ?_) ?_
  · have hp : plcA gs k i = true := h1
    conv => whnf
    repeat' first
      | (refine JoinVC.mk (cnt (plcA gs k) (plcB gs k) i + 1) ?_ ?_; (conv => whnf))
      | (refine bc_true (by assumption) ?_; (conv => whnf))
      | (refine bc_false (by assumption) ?_; (conv => whnf))
      | (refine need_intro ?_ ?_; (conv => whnf))
      | (refine wk_refl ?_; (conv => whnf))
      | (refine draw_intro (by kernel_rfl) ?_; (conv => whnf))
      | (refine ord_intro (by kernel_rfl) ?_; (conv => whnf))
    all_goals try dsimp only at *
    all_goals first
      | exact trivial
      | exact DLe.refl _
      | exact DLe.of_eq (by rw [hw1])
      | exact ⟨rfl, rfl⟩
      | (rw [hp]; rfl)
      | trace_state
  · have hp : plcA gs k i = false := h1
    conv => whnf
    repeat' first
      | (refine JoinVC.mk (cnt (plcA gs k) (plcB gs k) i) ?_ ?_; (conv => whnf))
      | (refine bc_true (by assumption) ?_; (conv => whnf))
      | (refine bc_false (by assumption) ?_; (conv => whnf))
      | (refine need_intro ?_ ?_; (conv => whnf))
      | (refine wk_refl ?_; (conv => whnf))
      | (refine draw_intro (by kernel_rfl) ?_; (conv => whnf))
      | (refine ord_intro (by kernel_rfl) ?_; (conv => whnf))
    all_goals try dsimp only at *
    all_goals first
      | exact trivial
      | exact DLe.refl _
      | exact ⟨rfl, rfl⟩
      | (rw [hp]; rfl)
      | trace_state
  rintro c hc
  conv => whnf
  repeat' first
    | (refine bc_true (by assumption) ?_; (conv => whnf))
    | (refine bc_false (by assumption) ?_; (conv => whnf))
    | (refine need_intro ?_ ?_; (conv => whnf))
    | (refine wk_refl ?_; (conv => whnf))
    | (refine draw_intro (by kernel_rfl) ?_; (conv => whnf))
    | (refine ord_intro (by kernel_rfl) ?_; (conv => whnf))
  refine loop_auto [0, 1, 12, 13, 14, 8, 5, 29, 30] [8] (fun j : Nat => [(31, .d (.int .i64 j)), (9, .d (.bool ((gs.take j).any (tkP ((gs.getD i default).mem.getD 0 default).copy.out))))]) (fun j => []) (fun j => j ≤ gs.length) (fun j => gs.length - j) 0 ?_ (fun j hj => ?_) (by omega)
  · conv => whnf
    repeat' first
      | (refine bc_true (by assumption) ?_; (conv => whnf))
      | (refine bc_false (by assumption) ?_; (conv => whnf))
      | (refine bc_intro (fun _ => ?_) (fun _ => ?_) <;> (conv => whnf))
      | (refine need_intro ?_ ?_; (conv => whnf))
      | (refine wk_refl ?_; (conv => whnf))
      | (refine draw_intro (by kernel_rfl) ?_; (conv => whnf))
      | (refine ord_intro (by kernel_rfl) ?_; (conv => whnf))
    all_goals first | exact trivial | exact DLe.refl _ | exact DLe.nil | exact RowLe.refl _ _ _ | exact ⟨rfl, rfl⟩ | exact ⟨rfl, rfl, rfl⟩ | trace_state
  have hsj : IntKind.i64.wrap ((j : Int) + 1) = ((j + 1 : Nat) : Int) := wrap_succ (n := 2000) (by omega) (by omega)
  rcases Nat.lt_or_eq_of_le hj with hjl | rfl
  · have hjl' : decide ((j : Int) < ((gs.length : Nat) : Int)) = true := decide_eq_true (by omega)
    have hnj : 1 ≤ (gs.getD j default).mem.length := by have := hm j hjl; omega
    have hat := any_take1 (p := tkP ((gs.getD i default).mem.getD 0 default).copy.out) hjl
    conv => whnf
    repeat' first
      | (refine NextVC.mk (j + 1) ?_ ?_ ?_; (conv => whnf))
      | (refine bc_true (by assumption) ?_; (conv => whnf))
      | (refine bc_false (by assumption) ?_; (conv => whnf))
      | (refine bc_intro (fun _ => ?_) (fun _ => ?_) <;> (conv => whnf))
      | (refine need_intro ?_ ?_; (conv => whnf))
      | (refine wk_refl ?_; (conv => whnf))
      | (refine draw_intro (by kernel_rfl) ?_; (conv => whnf))
      | (refine ord_intro (by kernel_rfl) ?_; (conv => whnf))
    all_goals try simp only [Int.toNat_natCast, Int.toNat_zero] at *
    all_goals try first
      | exact trivial
      | omega
      | exact DLe.refl _
      | exact RowLe.refl _ _ _
      | exact DLe.of_eq (by rw [hsj])
      | exact ⟨rfl, rfl⟩
      | exact ⟨by omega, by omega⟩
      | exact ⟨Int.le_refl 0, by show (0 : Int) < (((gs.getD j default).mem.length : Nat) : Int); omega⟩
    all_goals first
      | (refine DLe.of_eq (congrArg D.bool ?_)
         rw [hat, show (gs.take j).any (tkP ((gs.getD i default).mem.getD 0 default).copy.out) = true from by assumption]
         rfl)
      | (refine DLe.of_eq (congrArg D.bool ?_)
         rw [hat, show (gs.take j).any (tkP ((gs.getD i default).mem.getD 0 default).copy.out) = false from by assumption, Bool.false_or]
         unfold tkP
         rw [show ((gs.getD j default).num == ((gs.getD i default).mem.getD 0 default).copy.out.dst) = true from by assumption]
         rfl)
      | (refine DLe.of_eq (congrArg D.bool ?_)
         rw [hat, show (gs.take j).any (tkP ((gs.getD i default).mem.getD 0 default).copy.out) = false from by assumption, Bool.false_or]
         unfold tkP
         rw [show ((gs.getD j default).num == ((gs.getD i default).mem.getD 0 default).copy.out.dst) = false from by assumption]
         rfl)
      | trace_state
  · have hjl' : decide (((gs.length : Nat) : Int) < ((gs.length : Nat) : Int)) = false := decide_eq_false (by omega)
    rw [List.take_length]
    have hcb : c ≤ 1000 := by rw [hc]; split <;> omega
    have hwc : IntKind.i64.wrap ((c : Int) + 1) = ((c + 1 : Nat) : Int) := wrap_succ (n := 2000) (by omega) (by omega)
    have hB := plcB_is gs k i
    have hcs := cnt_succ (a := plcA gs k) (b := plcB gs k) (m := i)
    conv => whnf
    repeat' first
      | (refine call_intro (containsRr_spec ((gs.getD i default).mem.getD 0 default).copy.out.lk ((gs.getD i default).mem.getD 0 default).copy.out.lt ((gs.getD i default).mem.getD 0 default).copy.out.hk ((gs.getD i default).mem.getD 0 default).copy.out.ht k) ?_ (by first | exact .inl rfl | exact .inr ⟨rfl, rfl⟩); (conv => whnf))
      | (refine NextVC.mk (i + 1) ?_ ?_ ?_; (conv => whnf))
      | (refine bc_true (by assumption) ?_; (conv => whnf))
      | (refine bc_false (by assumption) ?_; (conv => whnf))
      | (refine bc_intro (fun _ => ?_) (fun _ => ?_) <;> (conv => whnf))
      | (refine need_intro ?_ ?_; (conv => whnf))
      | (refine wk_refl ?_; (conv => whnf))
      | (refine draw_intro (by kernel_rfl) ?_; (conv => whnf))
      | (refine ord_intro (by kernel_rfl) ?_; (conv => whnf))
    all_goals try simp only [Int.toNat_natCast, Int.toNat_zero] at *
    all_goals try first
      | exact trivial
      | omega
      | exact DLe.refl _
      | exact RowLe.refl _ _ _
      | exact DLe.of_eq (by rw [hs])
      | exact ⟨rfl, rfl⟩
      | exact ⟨by omega, by omega⟩
    all_goals first
      | (have hp : plcB gs k i = true := by
           rw [hB, show (((gs.getD i default).mem.getD 0 default).copy.out.serial != 0) = true from by assumption, show (!gs.any (tkP ((gs.getD i default).mem.getD 0 default).copy.out)) = true from by assumption, show containsR ((gs.getD i default).mem.getD 0 default).copy.out.lk ((gs.getD i default).mem.getD 0 default).copy.out.lt ((gs.getD i default).mem.getD 0 default).copy.out.hk ((gs.getD i default).mem.getD 0 default).copy.out.ht k = true from by assumption]; rfl
         rw [hp, ← hc] at hcs
         exact DLe.of_eq (by rw [hwc, hcs]; rfl))
      | (have hp : plcB gs k i = false := by
           rw [hB, show (((gs.getD i default).mem.getD 0 default).copy.out.serial != 0) = false from by assumption]; rfl
         rw [hp, ← hc] at hcs
         exact DLe.of_eq (by rw [hcs]; rfl))
      | (have hp : plcB gs k i = false := by
           rw [hB, show (!gs.any (tkP ((gs.getD i default).mem.getD 0 default).copy.out)) = false from by assumption]
           simp only [Bool.false_and, Bool.and_false]
         rw [hp, ← hc] at hcs
         exact DLe.of_eq (by rw [hcs]; rfl))
      | (have hp : plcB gs k i = false := by
           rw [hB, show containsR ((gs.getD i default).mem.getD 0 default).copy.out.lk ((gs.getD i default).mem.getD 0 default).copy.out.lt ((gs.getD i default).mem.getD 0 default).copy.out.hk ((gs.getD i default).mem.getD 0 default).copy.out.ht k = false from by assumption]
           simp only [Bool.and_false]
         rw [hp, ← hc] at hcs
         exact DLe.of_eq (by rw [hcs]; rfl))
      | trace_state
end Go.Proofs.YtngdpchhogfhfaaGreatDoor
