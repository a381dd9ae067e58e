/- Contracts of functions that the law reaches: YtohenbaodklohaaDoorColF. Written for this claim. -/
import Derived.Test.YtohenbaodklohaaDoorColL
import Derived.Test.YtohenbaodklohaaDoorLay
import Derived.Test.YtohenbaodklohaaDoorSxCol
namespace Go.Proofs.YtohenbaodklohaaDoor
open Go Go.Sx Go.ChangeShapes Go.WideShapes Go.ChangeAt Go.WideMaps Go.WideElems Go.RowKit
set_option linter.unusedVariables false
set_option linter.unusedSimpArgs false
set_option maxRecDepth 100000
theorem left0 {l : List Int} {a : Nat} : TapeOk l a → ∃ x : Bool × Nat, TapeOk l x.2 ∧ Sx.Spec Tryd.prog GG 8 [.ptr 1000 0] [(1000, tapeB l a)] (.d (.bool x.1)) [(1000, tapeB l x.2)] := by
  intro h
  refine spec_some (E := EE) (fn := Tryd.f8) _ _ _ false eok (by kernel_rfl) (by kernel_rfl) Tryd.call8 (by kernel_rfl) (fun _ => by kernel_rfl) (fun _ => by kernel_rfl) ?_
  conv => whnf
  repeat' first
    | (refine bc_true (by assumption) ?_; (conv => whnf))
    | (refine bc_false (by assumption) ?_; (conv => whnf))
    | (refine bc_intro (fun _ => ?_) (fun _ => ?_) <;> (conv => whnf))
    | (refine need_intro ?_ ?_; (conv => whnf))
    | (refine wk_refl ?_; (conv => whnf))
    | (refine draw_intro (by kernel_rfl) ?_; (conv => whnf))
    | (refine ord_intro (by kernel_rfl) ?_; (conv => whnf))
  all_goals exact ⟨(_, a), h, LeS.refl _, LeL.refl _, trivial⟩
theorem left_ex (m : Nat) {l : List Int} {a : Nat} : TapeOk l a → ∃ x : Bool × Nat, TapeOk l x.2 ∧ Sx.Spec Tryd.prog GG 8 [.ptr m 0] [(m, tapeB l a)] (.d (.bool x.1)) [(m, tapeB l x.2)] := fun h => by
  obtain ⟨x, hx, hs⟩ := left0 h
  exact ⟨x, hx, hs.at m⟩
/-! own groups handed to Begin -/
theorem marks_row0 (gs : List GrpT) : NetB gs → Sx.Spec Tryd.prog GG 33 [.osl 1000 3 0 gs.length] [(1000, .row 30 3 gs.length (cellOf encGrp gs))] (.d (encL encMrk 2 (marksS gs))) [(1000, .row 30 3 gs.length (cellOf encGrp gs))] := by
  intro h
  have hl := h.len
  refine spec_intro (E := EE) (fn := Tryd.f33) eok (by kernel_rfl) (by kernel_rfl) Tryd.call33 (by kernel_rfl) (by kernel_rfl) ?_
  conv => whnf
  repeat' first
    | (refine bc_true (by assumption) ?_; (conv => whnf))
    | (refine bc_false (by assumption) ?_; (conv => whnf))
    | (refine need_intro ?_ ?_; (conv => whnf))
    | (refine wk_refl ?_; (conv => whnf))
    | (refine draw_intro (by kernel_rfl) ?_; (conv => whnf))
    | (refine ord_intro (by kernel_rfl) ?_; (conv => whnf))
  refine loop_auto [2, 6, 7] [1000] (fun i : Nat => [(8, .d (.int .i64 i)), (3, .osl 500 2 0 (marksS (gs.take i)).length)]) (fun i => [(500, .row 114 2 (marksS (gs.take i)).length (cellOf encMrk (marksS (gs.take i))))]) (fun i => i ≤ gs.length) (fun i => gs.length - i) 0 ?_ (fun i hi => ?_) (by omega)
  · conv => whnf
    repeat' first
      | (refine bc_true (by assumption) ?_; (conv => whnf))
      | (refine bc_false (by assumption) ?_; (conv => whnf))
      | (refine bc_intro (fun _ => ?_) (fun _ => ?_) <;> (conv => whnf))
      | (refine need_intro ?_ ?_; (conv => whnf))
      | (refine wk_refl ?_; (conv => whnf))
      | (refine draw_intro (by kernel_rfl) ?_; (conv => whnf))
      | (refine ord_intro (by kernel_rfl) ?_; (conv => whnf))
    all_goals first | exact trivial | exact DLe.refl _ | exact DLe.nil | exact RowLe.refl _ _ _ | exact ⟨rfl, rfl⟩ | exact ⟨rfl, rfl, rfl⟩ | trace_state
  · have hs : IntKind.i64.wrap ((i : Int) + 1) = ((i + 1 : Nat) : Int) := wrap_succ (n := 2000000) (by omega) (by omega)
    have hg := (net_at h i).len
    have hg2 := (net_at h (0 + i)).len
    have hml : (marksS (gs.take i)).length ≤ 1000 := by rw [marks_len, List.length_take]; omega
    have hy := fun h => marks_take (gs := gs) (i := i) h
    conv => whnf
    repeat' first
      | (refine call_if (livep_spec0 (gs.getD (0 + i) default)) (by first | exact .inl rfl | exact .inr ⟨rfl, rfl⟩) (need_intro ?_ ?_); (conv => whnf))
      | (refine call_if (livep_spec0 _) (by first | exact .inl rfl | exact .inr ⟨rfl, rfl⟩) (need_intro ?_ ?_); (conv => whnf))
      | (refine NextVC.mk (i + 1) ?_ ?_ ?_; (conv => whnf))
      | (refine bc_true (by assumption) ?_; (conv => whnf))
      | (refine bc_false (by assumption) ?_; (conv => whnf))
      | (refine bc_intro (fun _ => ?_) (fun _ => ?_) <;> (conv => whnf))
      | (refine need_intro ?_ ?_; (conv => whnf))
      | (refine wk_refl ?_; (conv => whnf))
      | (refine draw_intro (by kernel_rfl) ?_; (conv => whnf))
      | (refine ord_intro (by kernel_rfl) ?_; (conv => whnf))
    all_goals try simp only [cellsSto, bytesSto, cellsMrk, bytesMrk, cellsIntG, bytesIntG, true_and, and_true, decide_eq_true_eq, decide_eq_false_iff_not, beq_iff_eq, bne_iff_ne, beq_eq_false_iff_ne, bne_eq_false_iff_eq, ne_eq, Decidable.not_not, Bool.not_eq_true', Bool.not_eq_false', Int.toNat_natCast] at *
    all_goals first
      | exact trivial
      | omega
      | exact DLe.refl _
      | exact RowLe.refl _ _ _
      | exact DLe.of_eq (by rw [hs])
      | exact ⟨by omega, by omega⟩
      | exact ⟨by omega, by omega, by omega⟩
      | exact ⟨trivial, by omega, by omega⟩
      | (rw [hy (by omega), List.length_append, List.length_singleton]; done)
      | exact ⟨trivial, cellsMrk, by rw [hy (by omega), List.length_append, List.length_singleton]⟩
      | exact ⟨cellsMrk, trivial, by rw [hy (by omega), List.length_append, List.length_singleton]⟩
      | exact ⟨trivial, trivial, by rw [hy (by omega), List.length_append, List.length_singleton]⟩
      | (rw [hy (by omega), List.length_append, List.length_singleton]
         simp only [Nat.zero_add]
         exact row_snoc rfl (RowLe.refl _ _ _) (jlt2 (DLe.of_eq rfl) (DLe.of_eq rfl)))
      | (have e : i = gs.length := by omega
         subst e
         rw [List.take_length]
         first | exact ⟨les_own rfl, LeL.refl _, trivial⟩ | exact DLe.rows rfl row_zero)
      | trace_state
theorem marks_row (m : Nat) (gs : List GrpT) : NetB gs → Sx.Spec Tryd.prog GG 33 [.osl m 3 0 gs.length] [(m, .row 30 3 gs.length (cellOf encGrp gs))] (.d (encL encMrk 2 (marksS gs))) [(m, .row 30 3 gs.length (cellOf encGrp gs))] := fun h => (marks_row0 gs h).at m
theorem begin_row0 (gs : List GrpT) (ser : Int) : NetB gs → Sx.Spec Tryd.prog GG 7 [.osl 1000 3 0 gs.length, .d (.int .i64 ser)] [(1000, .row 30 3 gs.length (cellOf encGrp gs))] (.agg (swpL (beginS gs ser))) [(1000, .row 30 3 gs.length (cellOf encGrp gs))] := by
  intro h
  refine spec_intro (E := EE) (fn := Tryd.f7) eok (by kernel_rfl) (by kernel_rfl) Tryd.call7 (by kernel_rfl) (by kernel_rfl) ?_
  conv => whnf
  repeat' first
    | (refine call_if (marks_row 1000 gs) (by first | exact .inl rfl | exact .inr ⟨rfl, rfl⟩) (need_intro ?_ ?_); (conv => whnf))
    | (refine bc_true (by assumption) ?_; (conv => whnf))
    | (refine bc_false (by assumption) ?_; (conv => whnf))
    | (refine bc_intro (fun _ => ?_) (fun _ => ?_) <;> (conv => whnf))
    | (refine need_intro ?_ ?_; (conv => whnf))
    | (refine wk_refl ?_; (conv => whnf))
    | (refine draw_intro (by kernel_rfl) ?_; (conv => whnf))
    | (refine ord_intro (by kernel_rfl) ?_; (conv => whnf))
  all_goals first
    | exact h
    | exact trivial
    | exact DLe.refl _
    | exact RowLe.refl _ _ _
    | exact ⟨rfl, rfl, rfl⟩
    | exact ⟨LeS.refl _, LeL.refl _, trivial⟩
    | trace_state
theorem begin_row (m : Nat) (gs : List GrpT) (ser : Int) : NetB gs → Sx.Spec Tryd.prog GG 7 [.osl m 3 0 gs.length, .d (.int .i64 ser)] [(m, .row 30 3 gs.length (cellOf encGrp gs))] (.agg (swpL (beginS gs ser))) [(m, .row 30 3 gs.length (cellOf encGrp gs))] := fun h => (begin_row0 gs ser h).at m
theorem begin_rowN (m n : Nat) (gs : List GrpT) (ser : Int) : (NetB gs ∧ gs.length = n) → Sx.Spec Tryd.prog GG 7 [.osl m 3 0 n, .d (.int .i64 ser)] [(m, .row 30 3 n (cellOf encGrp gs))] (.agg (swpL (beginS gs ser))) [(m, .row 30 3 n (cellOf encGrp gs))] := fun ⟨h, e⟩ => by
  subst e
  exact begin_row m gs ser h
theorem row_setGr {gs : List GrpT} {p n : Nat} {g : GrpT} {a : Int} {b : Bool} {ms : List MemT} (ha : a = g.num) (hb : b = g.opn) (hm : ms = g.mem) (hp : p < gs.length) : RowLe n 3 (fun i' j' => if i' = 0 + p then if j' < 0 then cellOf encGrp gs i' j' else if j' < 0 + [D.int .i64 a, D.bool b, encL encMem 32 ms].length then [D.int .i64 a, D.bool b, encL encMem 32 ms].getD (j' - 0) default else cellOf encGrp gs i' j' else cellOf encGrp gs i' j')
    (cellOf encGrp (gs.set p g)) := by
  subst ha; subst hb; subst hm
  refine .of_eq fun i' j' _ hj => ?_
  by_cases hi : i' = 0 + p
  · rw [Nat.zero_add] at hi
    subst hi
    simp only [Nat.zero_add, if_true, List.length_cons, List.length_nil]
    rw [if_neg (by omega), if_pos (by omega)]
    have e : (gs.set i' g).getD i' default = g := by simp [List.getD, hp]
    simp only [cellOf, e, encGrp, Nat.sub_zero]
  · have : i' ≠ p := by omega
    simp only [if_neg hi, cellOf]
    have e : (gs.set p g).getD i' default = gs.getD i' default := by simp [List.getD, List.getElem?_set_ne (Ne.symm this)]
    rw [e]
end Go.Proofs.YtohenbaodklohaaDoor
