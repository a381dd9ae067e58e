/- Contracts of functions that the law reaches: YtggehonedmbnjaaDoorQAnyL. Written for this claim. -/
import Derived.Test.YtggehonedmbnjaaDoorQAny
namespace Go.Proofs.YtggehonedmbnjaaDoor
open Go Go.Sx Go.ChangeShapes Go.WideShapes Go.ChangeAt Go.WideMaps Go.WideElems Go.RowKit
set_option linter.unusedVariables false
set_option linter.unusedSimpArgs false
set_option maxRecDepth 100000
def encLL (x : List LseT) : List D := [encL encLse 9 x]
theorem lists2L {a b : List LseT} {g : Nat → Nat → D} (h0 : DLe (g 0 0) (encL encLse 9 a)) (h1 : DLe (g 1 0) (encL encLse 9 b)) : RowLe 2 1 g (cellOf encLL [a, b]) :=
  ⟨fun i j hi hj => by
    have : j = 0 := by omega
    subst this
    match i, hi with
    | 0, _ => exact h0
    | 1, _ => exact h1⟩
def AnyL (x : List LseT) : Prop := LsB x ∧ x.length ≤ 900000
theorem any_pick {a b : List LseT} {i : Nat} (ha : AnyL a) (hb : AnyL b) : AnyL ([a, b].getD i default) := by
  match i with
  | 0 => exact ha
  | 1 => exact hb
  | i + 2 => exact ⟨⟨by simp [List.getD, default], by simp [List.getD, default], by simp [List.getD, default]⟩, by simp [List.getD, default]⟩
theorem any_ok {x : List LseT} (h : LsOk x) : AnyL x := ⟨h.b, by have := h.len; omega⟩
theorem any_set {x : List LseT} {p : Nat} {y : LseT} (h : LsOk x) (h1 : y.hold.length ≤ 2147483700) (h2 : y.fly.length ≤ 2147483700) : AnyL (x.set p y) := by
  have hb := h.b
  refine ⟨⟨by rw [List.length_set]; exact hb.len, fun z hz => ?_, fun z hz => ?_⟩, by rw [List.length_set]; have := h.len; omega⟩
  · rcases set_memL hz with rfl | hz
    · exact h1
    · exact hb.hold z hz
  · rcases set_memL hz with rfl | hz
    · exact h2
    · exact hb.fly z hz
theorem any_app {x : List LseT} {p : Nat} (h : LsOk x) (hp : p < x.length) : AnyL (x ++ [x.getD p default]) := by
  have hb := h.b
  have hm := getD_mem' hp
  have hlen := h.len
  refine ⟨⟨by simp; omega, fun z hz => ?_, fun z hz => ?_⟩, by simp; omega⟩
  · rcases List.mem_append.1 hz with hz | hz
    · exact hb.hold z hz
    · rw [List.mem_singleton] at hz; subst hz; exact hb.hold _ hm
  · rcases List.mem_append.1 hz with hz | hz
    · exact hb.fly z hz
    · rw [List.mem_singleton] at hz; subst hz; exact hb.fly _ hm
set_option maxHeartbeats 8000000 in
theorem cacheAny_law (l : List Int) (raw : List LseT) (node : Int) (k : List UInt8) (hl : ∀ x ∈ l, -9223372036854775808 ≤ x ∧ x < 9223372036854775808) (hraw : raw.length ≤ 9223372036854775807) :
    Sx.Spec Tryd.prog GG 5 [.d (encL encI 1 l), .d (encL encLse 9 raw), .d (.int .i64 node), .d (.str k)] [] (.d (.bool true)) [] := by
  refine spec_intro (E := EE) (fn := Tryd.f5) eok (by kernel_rfl) (by kernel_rfl) Tryd.call5 (by kernel_rfl) (by kernel_rfl) ?_
  conv => whnf
  repeat' first
    | (refine call_if (small_spec raw) (by first | exact .inl rfl | exact .inr ⟨rfl, rfl⟩) (need_intro ?_ ?_); (conv => whnf))
    | (refine call_intro (awake_spec) ?_ (by first | exact .inl rfl | exact .inr ⟨rfl, rfl⟩); (conv => whnf))
    | (refine bc_true (by assumption) ?_; (conv => whnf))
    | (refine bc_false (by assumption) ?_; (conv => whnf))
    | (refine bc_intro (fun _ => ?_) (fun _ => ?_) <;> (conv => whnf))
    | (refine need_intro ?_ ?_; (conv => whnf))
    | (refine wk_refl ?_; (conv => whnf))
    | (refine draw_intro (by kernel_rfl) ?_; (conv => whnf))
    | (refine ord_intro (by kernel_rfl) ?_; (conv => whnf))
  all_goals try first
    | exact hraw
    | exact ⟨LeS.refl _, trivial⟩
  all_goals try simp only [Bool.not_eq_true', Bool.not_eq_false'] at *
  obtain ⟨hrb, hrl⟩ := smallL_b (l := raw) (by assumption)
  conv => whnf
  repeat' first
    | (refine call_some (new_ex 2000 hl) (fun _ => by first | exact .inl rfl | exact .inr ⟨rfl, rfl⟩) ?_; rintro ⟨tl, ta⟩ hT; (conv => whnf))
    | (refine bc_true (by assumption) ?_; (conv => whnf))
    | (refine bc_false (by assumption) ?_; (conv => whnf))
    | (refine need_intro ?_ ?_; (conv => whnf))
    | (refine wk_refl ?_; (conv => whnf))
    | (refine draw_intro (by kernel_rfl) ?_; (conv => whnf))
    | (refine ord_intro (by kernel_rfl) ?_; (conv => whnf))
  refine loop_auto [1, 2, 3, 9] [] (fun x : Nat × List LseT × Nat => [(11, .d (.int .i64 x.1)), (10, .d (encL encLse 9 x.2.1))]) (fun x => [(2000, tapeB tl x.2.2)])
    (fun x => x.1 ≤ 8 ∧ LsOk x.2.1 ∧ TapeOk tl x.2.2) (fun x => 8 - x.1) (0, [], ta) ?_ (fun x hx => ?_) ⟨by simp, ⟨by simp, by simp, .nil⟩, hT⟩
  · conv => whnf
    repeat' first
      | (refine bc_true (by assumption) ?_; (conv => whnf))
      | (refine bc_false (by assumption) ?_; (conv => whnf))
      | (refine bc_intro (fun _ => ?_) (fun _ => ?_) <;> (conv => whnf))
      | (refine need_intro ?_ ?_; (conv => whnf))
      | (refine wk_refl ?_; (conv => whnf))
      | (refine draw_intro (by kernel_rfl) ?_; (conv => whnf))
      | (refine ord_intro (by kernel_rfl) ?_; (conv => whnf))
    all_goals first | exact trivial | exact DLe.refl _ | exact DLe.nil | trace_state
  · obtain ⟨i, x, b⟩ := x
    obtain ⟨hi, hI, hb⟩ := hx
    simp only at hi hI hb
    have hsi : IntKind.i64.wrap ((i : Int) + 1) = ((i + 1 : Nat) : Int) := wrap_succ (n := 100) (by omega) (by omega)
    have hl9 : x.length ≤ 900000 := by have := hI.len; omega
    conv => whnf
    repeat' first
      | (refine bc_true (by assumption) ?_; (conv => whnf))
      | (refine bc_false (by assumption) ?_; (conv => whnf))
      | (refine need_intro ?_ ?_; (conv => whnf))
      | (refine wk_refl ?_; (conv => whnf))
      | (refine draw_intro (by kernel_rfl) ?_; (conv => whnf))
      | (refine ord_intro (by kernel_rfl) ?_; (conv => whnf))
    refine bc_intro (fun h => ?_) (fun h => ?_)
    · conv => whnf
      repeat' first
        | (refine call_some_if (step_ex _ x) (fun _ => by first | exact .inl rfl | exact .inr ⟨rfl, rfl⟩) (need_intro ?_ ?_); rintro ⟨y, b⟩ ⟨hy, h6⟩; (conv => whnf))
        | (refine NextVC.mk (i + 1, y, b) ?_ ?_ ?_; (conv => whnf))
        | (refine bc_true (by assumption) ?_; (conv => whnf))
        | (refine bc_false (by assumption) ?_; (conv => whnf))
        | (refine bc_intro (fun _ => ?_) (fun _ => ?_) <;> (conv => whnf))
        | (refine need_intro ?_ ?_; (conv => whnf))
        | (refine wk_refl ?_; (conv => whnf))
        | (refine draw_intro (by kernel_rfl) ?_; (conv => whnf))
        | (refine ord_intro (by kernel_rfl) ?_; (conv => whnf))
      all_goals try simp only [decide_eq_true_eq, decide_eq_false_iff_not] at *
      all_goals first
        | exact trivial
        | assumption
        | omega
        | exact DLe.refl _
        | exact DLe.of_eq (by rw [hsi])
        | exact ⟨by assumption, hI.b, hl9⟩
        | exact ⟨by omega, hy.ok hI, by assumption⟩
        | trace_state
    · conv => whnf
      repeat' first
        | (refine bc_true (by assumption) ?_; (conv => whnf))
        | (refine bc_false (by assumption) ?_; (conv => whnf))
        | (refine need_intro ?_ ?_; (conv => whnf))
        | (refine wk_refl ?_; (conv => whnf))
        | (refine draw_intro (by kernel_rfl) ?_; (conv => whnf))
        | (refine ord_intro (by kernel_rfl) ?_; (conv => whnf))
      refine join_auto [1, 2, 3, 9] [] (fun x : Bool × List LseT × Nat => match x.1 with
        | true => [(10, .osl 500 9 0 x.2.1.length)]
        | false => [(10, .d (encL encLse 9 x.2.1))]) (fun x => match x.1 with
        | true => [(500, .row 38 9 x.2.1.length (cellOf encLse x.2.1)), (2000, tapeB tl x.2.2)]
        | false => [(2000, tapeB tl x.2.2)]) (fun x => AnyL x.2.1 ∧ TapeOk tl x.2.2) (fun h2 => ?_) (fun h2 => ?_) ?_
      · conv => whnf
        repeat' first
          | (refine call_some_if (next_ex _ (n := x.length)) (fun _ => by first | exact .inl rfl | exact .inr ⟨rfl, rfl⟩) (need_intro ?_ ?_); rintro ⟨u, b⟩ ⟨⟨u1, u2⟩, h6⟩; (conv => whnf))
          | (refine call_some_if (next_ex _ (n := 8)) (fun _ => by first | exact .inl rfl | exact .inr ⟨rfl, rfl⟩) (need_intro ?_ ?_); rintro ⟨v, b⟩ ⟨⟨q1, q2⟩, h6⟩; (conv => whnf))
          | (refine call_some_if (oddKey_ex _) (fun _ => by first | exact .inl rfl | exact .inr ⟨rfl, rfl⟩) (need_intro ?_ ?_); rintro ⟨q, b⟩ ⟨h1, h6⟩; (conv => whnf))
          | (refine call_some_if (oddValue_ex _) (fun _ => by first | exact .inl rfl | exact .inr ⟨rfl, rfl⟩) (need_intro ?_ ?_); rintro ⟨w, b⟩ ⟨h1, h6⟩; (conv => whnf))
          | (refine call_some_if (bool_ex _) (fun _ => by first | exact .inl rfl | exact .inr ⟨rfl, rfl⟩) (need_intro ?_ ?_); rintro ⟨hs, b⟩ h6; (conv => whnf))
          | (refine call_some_if (ints_ex _) (fun _ => by first | exact .inl rfl | exact .inr ⟨rfl, rfl⟩) (need_intro ?_ ?_); rintro ⟨ns, b⟩ ⟨hns, h6⟩; (conv => whnf))
          | (refine call_some_if (write_ex _) (fun _ => by first | exact .inl rfl | exact .inr ⟨rfl, rfl⟩) (need_intro ?_ ?_); rintro ⟨⟨wa, wb, wc⟩, b⟩ ⟨⟨h7, h8⟩, h6⟩; (conv => whnf))
          | (refine JoinVC.mk (true, x.set u.toNat { x.getD u.toNat default with key := q }, b) ?_ ?_; (conv => whnf))
          | (refine JoinVC.mk (true, x.set u.toNat { x.getD u.toNat default with val := w, has := hs }, b) ?_ ?_; (conv => whnf))
          | (refine JoinVC.mk (true, (fun _ => x.set u.toNat { x.getD u.toNat default with hold := ns }) (show (v == 2) = true by assumption), b) ?_ ?_; (conv => whnf))
          | (refine JoinVC.mk (true, (fun _ => x.set u.toNat { x.getD u.toNat default with fly := ns }) (show (v == 3) = true by assumption), b) ?_ ?_; (conv => whnf))
          | (refine JoinVC.mk (true, (fun _ => x.set u.toNat { x.getD u.toNat default with wait := !(x.getD u.toNat default).wait }) (show (v == 4) = true by assumption), b) ?_ ?_; (conv => whnf))
          | (refine JoinVC.mk (true, x.set u.toNat { x.getD u.toNat default with nxt := (wa, wb, wc) }, b) ?_ ?_; (conv => whnf))
          | (refine JoinVC.mk (true, (fun _ => x ++ [x.getD u.toNat default]) (show (v == 6) = true by assumption), b) ?_ ?_; (conv => whnf))
          | (refine JoinVC.mk (true, x, b) ?_ ?_; (conv => whnf))
          | (refine bc_true (by assumption) ?_; (conv => whnf))
          | (refine bc_false (by assumption) ?_; (conv => whnf))
          | (refine bc_intro (fun _ => ?_) (fun _ => ?_) <;> (conv => whnf))
          | (refine need_intro ?_ ?_; (conv => whnf))
          | (refine wk_refl ?_; (conv => whnf))
          | (refine draw_intro (by kernel_rfl) ?_; (conv => whnf))
          | (refine ord_intro (by kernel_rfl) ?_; (conv => whnf))
        all_goals try dsimp only at *
        all_goals try simp only [cellsLse, bytesLse, true_and, and_true, decide_eq_true_eq, decide_eq_false_iff_not, Nat.zero_add] at *
        all_goals try first
          | assumption
          | omega
          | exact trivial
          | exact DLe.refl _
          | exact RowLe.refl _ _ _
          | exact ⟨by assumption, by omega, by omega⟩
          | exact ⟨by omega, by omega⟩
          | exact ⟨by omega, by omega, by omega⟩
          | (rw [List.length_set]; done)
          | exact ⟨any_ok hI, by assumption⟩
          | exact ⟨any_set hI (by first | exact (hI.b.at _).1 | (simp only; omega)) (by first | exact (hI.b.at _).2 | (simp only; omega)), by assumption⟩
          | exact ⟨any_app hI (by omega), by assumption⟩
          | (have hpu : u.toNat < x.length := by omega
             rw [List.length_set]
             (refine .of_eq fun i' j' _ hj => ?_
              try simp only [Nat.zero_add, Int.toNat_natCast, cell_set hpu]
              by_cases hi9 : i' = u.toNat
              · subst hi9
                match j', hj with
                | 0, _ => first | rfl | (simp only [if_true]; rfl)
                | 1, _ => first | rfl | (simp only [if_true]; rfl)
                | 2, _ => first | rfl | (simp only [if_true]; rfl)
                | 3, _ => first | rfl | (simp only [if_true]; rfl)
                | 4, _ => first | rfl | (simp only [if_true]; rfl)
                | 5, _ => first | rfl | (simp only [if_true]; rfl)
                | 6, _ => first | rfl | (simp only [if_true]; rfl)
                | 7, _ => first | rfl | (simp only [if_true]; rfl)
                | 8, _ => first | rfl | (simp only [if_true]; rfl)
              · simp only [if_neg hi9])
             done)
          | (simp only [List.length_append, List.length_singleton]; done)
          | (simp only [List.length_append, List.length_singleton]; refine row_snoc rfl (RowLe.refl _ _ _) ?_
             (refine jlt9 ?_; (repeat' first | exact trivial | exact DLe.refl _ | exact DLe.nil | apply And.intro))
             done)
        all_goals trace_state
      · conv => whnf
        repeat' first
          | (refine JoinVC.mk (false, x, b) ?_ ?_; (conv => whnf))
          | (refine bc_true (by assumption) ?_; (conv => whnf))
          | (refine bc_false (by assumption) ?_; (conv => whnf))
          | (refine need_intro ?_ ?_; (conv => whnf))
          | (refine wk_refl ?_; (conv => whnf))
          | (refine draw_intro (by kernel_rfl) ?_; (conv => whnf))
          | (refine ord_intro (by kernel_rfl) ?_; (conv => whnf))
        all_goals first
          | exact trivial
          | exact DLe.refl _
          | exact RowLe.refl _ _ _
          | exact ⟨any_ok hI, hb⟩
          | trace_state
      rintro ⟨f, y, b⟩ ⟨hy, hb⟩
      simp only at hy hb
      have hr9 : AnyL raw := ⟨hrb, by omega⟩
      have main : ∀ (i : Nat), AnyL ([raw, y].getD (i : Int).toNat default) := fun i => any_pick hr9 hy
      cases f
      · conv => whnf
        repeat' first
          | (refine bc_true (by assumption) ?_; (conv => whnf))
          | (refine bc_false (by assumption) ?_; (conv => whnf))
          | (refine need_intro ?_ ?_; (conv => whnf))
          | (refine wk_refl ?_; (conv => whnf))
          | (refine draw_intro (by kernel_rfl) ?_; (conv => whnf))
          | (refine ord_intro (by kernel_rfl) ?_; (conv => whnf))
        (refine loop_auto [2, 3, 9, 107] [] (fun x : Nat × Nat => [(106, .d (encL encLL 1 [raw, y])), (108, .d (.int .i64 x.1))]) (fun x => [(2000, tapeB tl x.2)]) (fun x => x.1 ≤ 2 ∧ TapeOk tl x.2) (fun x => 2 - x.1) (0, b) ?_ (fun x hx => ?_) ⟨by simp, hb⟩
         · conv => whnf
           repeat' first
             | (refine bc_true (by assumption) ?_; (conv => whnf))
             | (refine bc_false (by assumption) ?_; (conv => whnf))
             | (refine bc_intro (fun _ => ?_) (fun _ => ?_) <;> (conv => whnf))
             | (refine need_intro ?_ ?_; (conv => whnf))
             | (refine wk_refl ?_; (conv => whnf))
             | (refine draw_intro (by kernel_rfl) ?_; (conv => whnf))
             | (refine ord_intro (by kernel_rfl) ?_; (conv => whnf))
           all_goals first
             | exact trivial
             | exact DLe.refl _
             | (refine dle_lit (by kernel_rfl) rfl (lists2L (DLe.refl _) (DLe.refl _)); done)
             | (refine dle_lit (by kernel_rfl) rfl (lists2L (DLe.refl _) (DLe.rows rfl row_zero)); done)
             | trace_state
         · obtain ⟨i, b⟩ := x
           obtain ⟨hi, hb⟩ := hx
           simp only at hi hb
           have hsi : IntKind.i64.wrap ((i : Int) + 1) = ((i + 1 : Nat) : Int) := wrap_succ (n := 100) (by omega) (by omega)
           have hX := main i
           conv => whnf
           repeat' first
             | (refine call_some_if (step_ex _ ([raw, y].getD (i : Int).toNat default)) (fun _ => by first | exact .inl rfl | exact .inr ⟨rfl, rfl⟩) (need_intro ?_ ?_); rintro ⟨z, b⟩ ⟨hz, h6⟩; (conv => whnf))
             | (refine call_intro (looks_spec ([raw, y].getD (i : Int).toNat default) _ _ hX.1) ?_ (by first | exact .inl rfl | exact .inr ⟨rfl, rfl⟩); (conv => whnf))
             | (refine call_some_if (next_ex _) (fun _ => by first | exact .inl rfl | exact .inr ⟨rfl, rfl⟩) (need_intro ?_ ?_); rintro ⟨v, b⟩ ⟨⟨q1, q2⟩, h6⟩; (conv => whnf))
             | (refine call_intro (awake_spec) ?_ (by first | exact .inl rfl | exact .inr ⟨rfl, rfl⟩); (conv => whnf))
             | (refine NextVC.mk (i + 1, b) ?_ ?_ ?_; (conv => whnf))
             | (refine bc_true (by assumption) ?_; (conv => whnf))
             | (refine bc_false (by assumption) ?_; (conv => whnf))
             | (refine bc_intro (fun _ => ?_) (fun _ => ?_) <;> (conv => whnf))
             | (refine need_intro ?_ ?_; (conv => whnf))
             | (refine wk_refl ?_; (conv => whnf))
             | (refine draw_intro (by kernel_rfl) ?_; (conv => whnf))
             | (refine ord_intro (by kernel_rfl) ?_; (conv => whnf))
           all_goals try simp only [decide_eq_true_eq, decide_eq_false_iff_not] at *
           all_goals first
             | exact trivial
             | assumption
             | omega
             | exact DLe.refl _
             | exact DLe.of_eq (by rw [hsi])
             | exact ⟨LeS.refl _, trivial⟩
             | exact ⟨by omega, by omega⟩
             | exact ⟨by omega, by assumption⟩
             | exact ⟨by assumption, hX.1, hX.2⟩
             | exact ⟨by assumption, by omega, by omega⟩
             | (exfalso; simp at *; done)
             | trace_state)
      · conv => whnf
        repeat' first
          | (refine bc_true (by assumption) ?_; (conv => whnf))
          | (refine bc_false (by assumption) ?_; (conv => whnf))
          | (refine need_intro ?_ ?_; (conv => whnf))
          | (refine wk_refl ?_; (conv => whnf))
          | (refine draw_intro (by kernel_rfl) ?_; (conv => whnf))
          | (refine ord_intro (by kernel_rfl) ?_; (conv => whnf))
        (refine loop_auto [2, 3, 9, 107] [] (fun x : Nat × Nat => [(106, .d (encL encLL 1 [raw, y])), (108, .d (.int .i64 x.1))]) (fun x => [(2000, tapeB tl x.2)]) (fun x => x.1 ≤ 2 ∧ TapeOk tl x.2) (fun x => 2 - x.1) (0, b) ?_ (fun x hx => ?_) ⟨by simp, hb⟩
         · conv => whnf
           repeat' first
             | (refine bc_true (by assumption) ?_; (conv => whnf))
             | (refine bc_false (by assumption) ?_; (conv => whnf))
             | (refine bc_intro (fun _ => ?_) (fun _ => ?_) <;> (conv => whnf))
             | (refine need_intro ?_ ?_; (conv => whnf))
             | (refine wk_refl ?_; (conv => whnf))
             | (refine draw_intro (by kernel_rfl) ?_; (conv => whnf))
             | (refine ord_intro (by kernel_rfl) ?_; (conv => whnf))
           all_goals first
             | exact trivial
             | exact DLe.refl _
             | (refine dle_lit (by kernel_rfl) rfl (lists2L (DLe.refl _) (DLe.refl _)); done)
             | (refine dle_lit (by kernel_rfl) rfl (lists2L (DLe.refl _) (DLe.rows rfl row_zero)); done)
             | trace_state
         · obtain ⟨i, b⟩ := x
           obtain ⟨hi, hb⟩ := hx
           simp only at hi hb
           have hsi : IntKind.i64.wrap ((i : Int) + 1) = ((i + 1 : Nat) : Int) := wrap_succ (n := 100) (by omega) (by omega)
           have hX := main i
           conv => whnf
           repeat' first
             | (refine call_some_if (step_ex _ ([raw, y].getD (i : Int).toNat default)) (fun _ => by first | exact .inl rfl | exact .inr ⟨rfl, rfl⟩) (need_intro ?_ ?_); rintro ⟨z, b⟩ ⟨hz, h6⟩; (conv => whnf))
             | (refine call_intro (looks_spec ([raw, y].getD (i : Int).toNat default) _ _ hX.1) ?_ (by first | exact .inl rfl | exact .inr ⟨rfl, rfl⟩); (conv => whnf))
             | (refine call_some_if (next_ex _) (fun _ => by first | exact .inl rfl | exact .inr ⟨rfl, rfl⟩) (need_intro ?_ ?_); rintro ⟨v, b⟩ ⟨⟨q1, q2⟩, h6⟩; (conv => whnf))
             | (refine call_intro (awake_spec) ?_ (by first | exact .inl rfl | exact .inr ⟨rfl, rfl⟩); (conv => whnf))
             | (refine NextVC.mk (i + 1, b) ?_ ?_ ?_; (conv => whnf))
             | (refine bc_true (by assumption) ?_; (conv => whnf))
             | (refine bc_false (by assumption) ?_; (conv => whnf))
             | (refine bc_intro (fun _ => ?_) (fun _ => ?_) <;> (conv => whnf))
             | (refine need_intro ?_ ?_; (conv => whnf))
             | (refine wk_refl ?_; (conv => whnf))
             | (refine draw_intro (by kernel_rfl) ?_; (conv => whnf))
             | (refine ord_intro (by kernel_rfl) ?_; (conv => whnf))
           all_goals try simp only [decide_eq_true_eq, decide_eq_false_iff_not] at *
           all_goals first
             | exact trivial
             | assumption
             | omega
             | exact DLe.refl _
             | exact DLe.of_eq (by rw [hsi])
             | exact ⟨LeS.refl _, trivial⟩
             | exact ⟨by omega, by omega⟩
             | exact ⟨by omega, by assumption⟩
             | exact ⟨by assumption, hX.1, hX.2⟩
             | exact ⟨by assumption, by omega, by omega⟩
             | (exfalso; simp at *; done)
             | trace_state)
theorem cacheAny_all (dss : List (List D)) (h : All2 (wfT Tryd.prog reachBytes 12) [22, 25, 3, 9] dss) : Sx.Spec Tryd.prog GG 5 (svs Tryd.prog [22, 25, 3, 9] dss) [] (.d (.bool true)) [] := by
  obtain ⟨x, y, z, w, rfl, hx, hy, hz, hw⟩ := inv4 h
  obtain ⟨l, h1, h2, h3⟩ := ints_arg hx
  obtain ⟨raw, hraw, g1⟩ := lses_wf (f := 5) hy
  obtain ⟨node, rfl, _⟩ := hz
  obtain ⟨k, rfl, _⟩ := hw
  obtain ⟨_, _, rfl, _⟩ := hx
  obtain ⟨_, _, rfl, _⟩ := hy
  exact (cacheAny_law l raw node k h1 hraw).arg (leL_app h2 (leL_app g1 (LeL.refl _)))
end Go.Proofs.YtggehonedmbnjaaDoor
