/- Contracts of functions that the law reaches: YtapddnfjngfloaaGreatDoorRunsL. Written for this claim. -/
import Derived.Test.YtapddnfjngfloaaGreatDoorNtx
import Derived.Test.YtapddnfjngfloaaGreatDoorLay
import Derived.Test.YtapddnfjngfloaaGreatDoorSxHan11
import Derived.Test.YtapddnfjngfloaaGreatDoorGrpX
namespace Go.Proofs.YtapddnfjngfloaaGreatDoor
open Go Go.Sx Go.ChangeShapes Go.WideShapes Go.ChangeAt Go.WideMaps Go.WideElems Go.RowKit
set_option linter.unusedVariables false
set_option linter.unusedSimpArgs false
set_option maxRecDepth 100000
theorem cmpSr_spec (ae av be bv : Int) : Sx.Spec Tryz.prog GG 19 [.agg [.d (.int .i64 ae), .d (.int .i64 av)], .agg [.d (.int .i64 be), .d (.int .i64 bv)]] [] (.d (.int .i64 (cmpS ae av be bv))) [] := by
  refine spec_intro (E := EE) (fn := Tryz.f19) eok (by kernel_rfl) (by kernel_rfl) Tryz.call19 (by kernel_rfl) (by kernel_rfl) ?_
  conv => whnf
  repeat' first
    | (refine bc_true (by assumption) ?_; (conv => whnf))
    | (refine bc_false (by assumption) ?_; (conv => whnf))
    | (refine bc_intro (fun _ => ?_) (fun _ => ?_) <;> (conv => whnf))
    | (refine need_intro ?_ ?_; (conv => whnf))
    | (refine wk_refl ?_; (conv => whnf))
    | (refine draw_intro (by kernel_rfl) ?_; (conv => whnf))
    | (refine ord_intro (by kernel_rfl) ?_; (conv => whnf))
  all_goals try simp only [decide_eq_true_eq, decide_eq_false_iff_not, Bool.and_eq_true, Bool.and_eq_false_iff, beq_iff_eq, beq_eq_false_iff_ne, ne_eq] at *
  all_goals first
    | (refine ⟨LeS.of_eq ?_, trivial⟩
       unfold cmpS
       rw [if_pos (by omega)]
       done)
    | (refine ⟨LeS.of_eq ?_, trivial⟩
       unfold cmpS
       rw [if_neg (by omega), if_pos (by omega)]
       done)
    | (refine ⟨LeS.of_eq ?_, trivial⟩
       unfold cmpS
       rw [if_neg (by omega), if_neg (by omega)]
       done)
    | trace_state
theorem same_at {n m : Nat} {g g2 : Nat → Nat → D} (xs ys : List Row) : ((n = xs.length ∧ RowLe n 2 g (cellOf encRow xs)) ∧ (m = ys.length ∧ RowLe m 2 g2 (cellOf encRow ys)) ∧ xs.length ≤ 3000 ∧ xs = ys) → Sx.Spec Tryz.prog GG 18 [.d (.list n 2 g), .d (.list m 2 g2)] [] (.d (.bool true)) [] := by
  rintro ⟨⟨rfl, h⟩, ⟨rfl, h2⟩, hl, rfl⟩
  have := sameRr_spec xs xs ⟨by omega, by omega⟩
  rw [same_refl] at this
  exact this.arg (LeL.cons (LeS.d (DLe.rows rfl h)) (LeL.cons (LeS.d (DLe.rows rfl h2)) LeL.nil))
theorem cellsRow27 : Tryz.prog.cellsOf 80 = 2 := by kernel_rfl
theorem bytesRow27 : Tryz.prog.bytesOf 80 = 32 := by kernel_rfl
theorem rowB {n : Nat} (h : n ≤ 4000) : n * Tryz.prog.bytesOf 80 ≤ 140737488355328 ∧ n ≤ 9223372036854775807 := by rw [bytesRow27]; omega
theorem cmpS_lo {e v f w : Int} (h : e < f) : cmpS e v f w = -1 := by
  unfold cmpS
  rw [if_neg (by omega), if_pos (by omega)]
theorem len27 {y x b a : List Row} (h : y ++ x = b ++ a) (hy : y.length ≤ 1024) (hx : x.length ≤ 1024) (hb : b.length ≤ 1024) (ha : a.length ≤ 1024) : ((y.length : Int) == IntKind.i64.wrap (IntKind.i64.wrap ((b.length : Int) + a.length) - x.length)) = true ∧ ((x.length : Int) == IntKind.i64.wrap (IntKind.i64.wrap ((a.length : Int) + b.length) - y.length)) = true := by
  have hl := congrArg List.length h
  simp only [List.length_append] at hl
  rw [wrap_of (n := (b.length : Int) + a.length) (by omega) (by omega), wrap_of (n := (a.length : Int) + b.length) (by omega) (by omega), wrap_of (by omega) (by omega), wrap_of (by omega) (by omega)]
  simp only [beq_iff_eq]
  omega
set_option maxHeartbeats 8000000 in
theorem handoverRuns_law (l : List Int) (hl : ∀ x ∈ l, -9223372036854775808 ≤ x ∧ x < 9223372036854775808) : Sx.Spec Tryz.prog GG 3 [.d (encL encI 1 l)] [] (.d (.bool true)) [] := by
  refine spec_intro (E := EE) (fn := Tryz.f3) eok (by kernel_rfl) (by kernel_rfl) Tryz.call3 (by kernel_rfl) (by kernel_rfl) ?_
  conv => whnf
  repeat' first
    | (refine call_some (new_ex 2000 hl) (fun _ => by first | exact .inl rfl | exact .inr ⟨rfl, rfl⟩) ?_; rintro ⟨tl, ta⟩ hT; (conv => whnf))
    | (refine call_some_if (start_ex 2000 4000 5000 (by decide) (by decide) (by decide)) (fun _ => by first | exact .inl rfl | exact .inr ⟨rfl, rfl⟩) (need_intro ?_ ?_); rintro ⟨gs0, b⟩ ⟨hq, h6⟩; (conv => whnf))
    | (refine bc_true (by assumption) ?_; (conv => whnf))
    | (refine bc_false (by assumption) ?_; (conv => whnf))
    | (refine need_intro ?_ ?_; (conv => whnf))
    | (refine wk_refl ?_; (conv => whnf))
    | (refine draw_intro (by kernel_rfl) ?_; (conv => whnf))
    | (refine ord_intro (by kernel_rfl) ?_; (conv => whnf))
  all_goals try first
    | assumption
    | exact ⟨hT, by omega, by omega⟩
  obtain ⟨⟨T0, hT0, hT8, bs, hbs, htop⟩, hle, hge⟩ := hq
  dsimp only at hle hge hbs htop h6
  have hw : IntKind.i64.wrap ((gs0.length : Int) - 1) = ((gs0.length - 1 : Nat) : Int) := by rw [wrap_of (by omega) (by omega)]; omega
  conv => whnf
  repeat' first
    | (refine call_some_if (next_ex _ (n := IntKind.i64.wrap ((gs0.length : Int) - 1))) (fun _ => by first | exact .inl rfl | exact .inr ⟨rfl, rfl⟩) (need_intro ?_ ?_); rintro ⟨u, b⟩ ⟨⟨hu1, hu2⟩, h6⟩; (conv => whnf))
    | (refine bc_true (by assumption) ?_; (conv => whnf))
    | (refine bc_false (by assumption) ?_; (conv => whnf))
    | (refine need_intro ?_ ?_; (conv => whnf))
    | (refine wk_refl ?_; (conv => whnf))
    | (refine draw_intro (by kernel_rfl) ?_; (conv => whnf))
    | (refine ord_intro (by kernel_rfl) ?_; (conv => whnf))
  all_goals try first
    | assumption
    | exact ⟨h6, by rw [hw]; omega, by rw [hw]; omega⟩
  all_goals try dsimp only at *
  all_goals try rw [hw] at hu2
  all_goals have hu3 : IntKind.i64.wrap (u + 1) = u + 1 := wrap_of (by omega) (by omega)
  all_goals try first
    | (rw [hu3]; omega)
    | omega
    | exact ⟨by omega, by omega⟩
    | (rw [hu3]; exact ⟨by omega, by omega⟩)
  have hi0 : u.toNat + 1 < gs0.length := by omega
  have hI1 : (IntKind.i64.wrap (u + 1)).toNat = u.toNat + 1 := by rw [hu3]; omega
  have hF0 := hbs.all (0 + u.toNat) (by omega)
  have hF1 := hbs.all (0 + (IntKind.i64.wrap (u + 1)).toNat) (by omega)
  rw [show 0 + u.toNat + 1 = 0 + (IntKind.i64.wrap (u + 1)).toNat by omega] at hF0
  have hne : 0 + u.toNat ≠ 0 + (IntKind.i64.wrap (u + 1)).toNat := by omega
  have hb0 : 0 + u.toNat < 100 := by omega
  have hb1 : 0 + (IntKind.i64.wrap (u + 1)).toNat < 100 := by omega
  generalize 0 + (IntKind.i64.wrap (u + 1)).toNat = I1 at *
  generalize 0 + u.toNat = I0 at *
  have hn0 := hF0.n1
  have hn1 := hF1.n1
  conv => whnf
  repeat' first
    | (refine call_some_if (bool_ex _ (n := 2)) (fun _ => by first | exact .inl rfl | exact .inr ⟨rfl, rfl⟩) (need_intro ?_ ?_); rintro ⟨v, b⟩ h6; (conv => whnf))
    | (refine bc_true (by assumption) ?_; (conv => whnf))
    | (refine bc_false (by assumption) ?_; (conv => whnf))
    | (refine need_intro ?_ ?_; (conv => whnf))
    | (refine wk_refl ?_; (conv => whnf))
    | (refine draw_intro (by kernel_rfl) ?_; (conv => whnf))
    | (refine ord_intro (by kernel_rfl) ?_; (conv => whnf))
  all_goals try first
    | exact ⟨h6, by omega, by omega⟩
  refine bc_intro (fun hv => ?_) (fun hv => ?_)
  · have hem : emptyR ((gs0.getD I1 default).mem.getD 0 default).copy.lk ((gs0.getD I1 default).mem.getD 0 default).copy.lt ((gs0.getD I1 default).mem.getD 0 default).copy.hk ((gs0.getD I1 default).mem.getD 0 default).copy.ht = false := hF1.c.ne
    conv => whnf
    repeat' first
      | (refine call_some_if (keyIn_ex _) (fun _ => by first | exact .inl rfl | exact .inr ⟨rfl, rfl⟩) (need_intro ?_ ?_); rintro ⟨k, b⟩ ⟨k1, k2, h6⟩; (conv => whnf))
      | (refine bc_true (by assumption) ?_; (conv => whnf))
      | (refine bc_false (by assumption) ?_; (conv => whnf))
      | (refine need_intro ?_ ?_; (conv => whnf))
      | (refine wk_refl ?_; (conv => whnf))
      | (refine draw_intro (by kernel_rfl) ?_; (conv => whnf))
      | (refine ord_intro (by kernel_rfl) ?_; (conv => whnf))
    all_goals try first
      | exact ⟨h6, hem⟩
      | exact ⟨by omega, by omega⟩
    dsimp only at k1 k2
    have hk : hasR (mkR (bs I1) (bs (I1 + 1))) k = true := by
      have e := hF1.c.parts
      have h9 : containsR (own0 (gs0.getD I1 default)).copy.lk (own0 (gs0.getD I1 default)).copy.lt (own0 (gs0.getD I1 default)).copy.hk (own0 (gs0.getD I1 default)).copy.ht k = true := k2
      rw [e.1, e.2.1, e.2.2.1, e.2.2.2] at h9
      exact h9
    have hrun := runp_spec (gs0.getD I1 default) (gs0.getD I0 default) k false 0 7 ⟨hF1.wf.b, hF0.wf.b⟩
    refine Or.elim (Classical.em (cmpB k false (bs I1).1 (bs I1).2 = 0)) (fun he => ?_) (fun he => ?_)
    · rw [ends_none hF1 hF0 (Ne.symm hne) hb1 hb0 hk he] at hrun
      dsimp only at hrun
      have hcmp : (cmpB k false ((gs0.getD I1 default).mem.getD 0 default).copy.lk ((gs0.getD I1 default).mem.getD 0 default).copy.lt == 0) = true := by
        have e := hF1.c.parts
        show (cmpB k false (own0 (gs0.getD I1 default)).copy.lk (own0 (gs0.getD I1 default)).copy.lt == 0) = true
        rw [e.1, e.2.1, he]; rfl
      conv => whnf
      repeat' first
        | (refine call_intro (hrun) ?_ (by first | exact .inl rfl | exact .inr ⟨rfl, rfl⟩); (conv => whnf))
        | (refine call_intro (comparer_spec _ _ _ _) ?_ (by first | exact .inl rfl | exact .inr ⟨rfl, rfl⟩); (conv => whnf))
        | (refine call_intro (awake27_spec) ?_ (by first | exact .inl rfl | exact .inr ⟨rfl, rfl⟩); (conv => whnf))
        | (refine bc_true (by assumption) ?_; (conv => whnf))
        | (refine bc_false (by assumption) ?_; (conv => whnf))
        | (refine bc_intro (fun _ => ?_) (fun _ => ?_) <;> (conv => whnf))
        | (refine need_intro ?_ ?_; (conv => whnf))
        | (refine wk_refl ?_; (conv => whnf))
        | (refine draw_intro (by kernel_rfl) ?_; (conv => whnf))
        | (refine ord_intro (by kernel_rfl) ?_; (conv => whnf))
      all_goals try first
        | exact ⟨LeS.refl _, trivial⟩
      all_goals trace_state
    · obtain ⟨x, y, hr, hX, hrow⟩ := ends_left hT0 hF1 hF0 (Ne.symm hne) hb1 hb0 hk he
      rw [hr] at hrun
      dsimp only at hrun
      have hxl : ((x.mem.length : Int) == 0) = false := by have := hX.sx.n1; rw [beq_eq_false_iff_ne]; omega
      have hyl : ((y.mem.length : Int) == 0) = false := by have := hX.sy.n1; rw [beq_eq_false_iff_ne]; omega
      have hx1 := hX.sx.n1
      have hy1 := hX.sy.n1
      have hxo := hX.sx.opn
      have hyo := hX.sy.opn
      have hcx := checkr_spec x hX.sx
      have hcy := checkr_spec y hX.sy
      have r1 : (own0 x).copy.rows.length ≤ 1024 := by have := (valid_head hX.vc).2.2.2.2.2; omega
      have r2 : (own0 y).copy.rows.length ≤ 1024 := by have := (valid_head hX.vd).2.2.2.2.2; omega
      have r3 : (own0 (gs0.getD I1 default)).copy.rows.length ≤ 1024 := by have := (valid_head hF1.c.v).2.2.2.2.2; omega
      have r4 : (own0 (gs0.getD I0 default)).copy.rows.length ≤ 1024 := by have := (valid_head hF0.c.v).2.2.2.2.2; omega
      have b1 : (own0 y).copy.rows.length * Tryz.prog.bytesOf 80 ≤ 140737488355328 ∧ (own0 y).copy.rows.length ≤ 9223372036854775807 := rowB (by omega)
      have b2 : ((own0 y).copy.rows.length + (own0 x).copy.rows.length) * Tryz.prog.bytesOf 80 ≤ 140737488355328 ∧ (own0 y).copy.rows.length + (own0 x).copy.rows.length ≤ 9223372036854775807 := rowB (by omega)
      have b3 : (own0 (gs0.getD I0 default)).copy.rows.length * Tryz.prog.bytesOf 80 ≤ 140737488355328 ∧ (own0 (gs0.getD I0 default)).copy.rows.length ≤ 9223372036854775807 := rowB (by omega)
      have b4 : ((own0 (gs0.getD I0 default)).copy.rows.length + (own0 (gs0.getD I1 default)).copy.rows.length) * Tryz.prog.bytesOf 80 ≤ 140737488355328 ∧ (own0 (gs0.getD I0 default)).copy.rows.length + (own0 (gs0.getD I1 default)).copy.rows.length ≤ 9223372036854775807 := rowB (by omega)
      have b5 : (own0 (gs0.getD I1 default)).copy.rows.length * Tryz.prog.bytesOf 80 ≤ 140737488355328 ∧ (own0 (gs0.getD I1 default)).copy.rows.length ≤ 9223372036854775807 := rowB (by omega)
      have b6 : ((own0 (gs0.getD I1 default)).copy.rows.length + (own0 (gs0.getD I0 default)).copy.rows.length) * Tryz.prog.bytesOf 80 ≤ 140737488355328 ∧ (own0 (gs0.getD I1 default)).copy.rows.length + (own0 (gs0.getD I0 default)).copy.rows.length ≤ 9223372036854775807 := rowB (by omega)
      have q1 := (len27 hrow r2 r1 r4 r3).1
      have q2 : ((x.mem.getD 0 default).copy.out.serial == 0) = true := by show ((own0 x).copy.out.serial == 0) = true; rw [hX.co]; rfl
      have q3 : ((y.mem.getD 0 default).copy.inn.serial == 0) = true := by show ((own0 y).copy.inn.serial == 0) = true; rw [hX.di]; rfl
      have q4 : ((y.mem.getD 0 default).copy.took == 0) = true := by show ((own0 y).copy.took == 0) = true; rw [hX.dt]; rfl
      have q5 : decide (cmpS (own0 (gs0.getD I1 default)).copy.se (own0 (gs0.getD I1 default)).copy.sv (own0 y).copy.se (own0 y).copy.sv < 0) = true := by rw [cmpS_lo hX.ad]; rfl
      have q6 : decide (cmpS (own0 (gs0.getD I0 default)).copy.se (own0 (gs0.getD I0 default)).copy.sv (own0 y).copy.se (own0 y).copy.sv < 0) = true := by rw [cmpS_lo hX.bd]; rfl
      have q7 : decide (cmpS (own0 (gs0.getD I1 default)).copy.se (own0 (gs0.getD I1 default)).copy.sv (own0 x).copy.se (own0 x).copy.sv < 0) = true := by rw [cmpS_lo hX.ac]; rfl
      have q8 := hX.int
      conv => whnf
      repeat' first
        | (refine call_intro (hrun) ?_ (by first | exact .inl rfl | exact .inr ⟨rfl, rfl⟩); (conv => whnf))
        | (refine call_intro (hcx) ?_ (by first | exact .inl rfl | exact .inr ⟨rfl, rfl⟩); (conv => whnf))
        | (refine call_intro (hcy) ?_ (by first | exact .inl rfl | exact .inr ⟨rfl, rfl⟩); (conv => whnf))
        | (refine call_if (same_at ((own0 y).copy.rows ++ (own0 x).copy.rows) ((own0 (gs0.getD I0 default)).copy.rows ++ (own0 (gs0.getD I1 default)).copy.rows)) (by first | exact .inl rfl | exact .inr ⟨rfl, rfl⟩) (need_intro ?_ ?_); (conv => whnf))
        | (refine call_intro (cmpSr_spec _ _ _ _) ?_ (by first | exact .inl rfl | exact .inr ⟨rfl, rfl⟩); (conv => whnf))
        | (refine call_intro (interr_spec _ _ _ _ _ _ _ _) ?_ (by first | exact .inl rfl | exact .inr ⟨rfl, rfl⟩); (conv => whnf))
        | (refine call_intro (emptyRr_spec _ _ _ _) ?_ (by first | exact .inl rfl | exact .inr ⟨rfl, rfl⟩); (conv => whnf))
        | (refine call_intro (awake27_spec) ?_ (by first | exact .inl rfl | exact .inr ⟨rfl, rfl⟩); (conv => whnf))
        | (refine bc_true (by assumption) ?_; (conv => whnf))
        | (refine bc_false (by assumption) ?_; (conv => whnf))
        | (refine bc_intro (fun _ => ?_) (fun _ => ?_) <;> (conv => whnf))
        | (refine need_intro ?_ ?_; (conv => whnf))
        | (refine wk_refl ?_; (conv => whnf))
        | (refine draw_intro (by kernel_rfl) ?_; (conv => whnf))
        | (refine ord_intro (by kernel_rfl) ?_; (conv => whnf))
      all_goals try first
        | exact ⟨LeS.refl _, trivial⟩
        | exact ⟨by omega, by omega⟩
        | exact b1
        | exact ⟨rfl, b2⟩
        | exact b3
        | exact ⟨rfl, b4⟩
        | exact b5
        | exact ⟨rfl, b6⟩
        | exact ⟨⟨List.length_append.symm, row_app2⟩, ⟨List.length_append.symm, row_app2⟩, by rw [List.length_append]; omega, hrow⟩
        | (exfalso; contradiction)
      all_goals trace_state
  · have hem : emptyR ((gs0.getD I0 default).mem.getD 0 default).copy.lk ((gs0.getD I0 default).mem.getD 0 default).copy.lt ((gs0.getD I0 default).mem.getD 0 default).copy.hk ((gs0.getD I0 default).mem.getD 0 default).copy.ht = false := hF0.c.ne
    conv => whnf
    repeat' first
      | (refine call_some_if (keyIn_ex _) (fun _ => by first | exact .inl rfl | exact .inr ⟨rfl, rfl⟩) (need_intro ?_ ?_); rintro ⟨k, b⟩ ⟨k1, k2, h6⟩; (conv => whnf))
      | (refine bc_true (by assumption) ?_; (conv => whnf))
      | (refine bc_false (by assumption) ?_; (conv => whnf))
      | (refine need_intro ?_ ?_; (conv => whnf))
      | (refine wk_refl ?_; (conv => whnf))
      | (refine draw_intro (by kernel_rfl) ?_; (conv => whnf))
      | (refine ord_intro (by kernel_rfl) ?_; (conv => whnf))
    all_goals try first
      | exact ⟨h6, hem⟩
      | exact ⟨by omega, by omega⟩
    dsimp only at k1 k2
    have hk : hasR (mkR (bs I0) (bs I1)) k = true := by
      have e := hF0.c.parts
      have h9 : containsR (own0 (gs0.getD I0 default)).copy.lk (own0 (gs0.getD I0 default)).copy.lt (own0 (gs0.getD I0 default)).copy.hk (own0 (gs0.getD I0 default)).copy.ht k = true := k2
      rw [e.1, e.2.1, e.2.2.1, e.2.2.2] at h9
      exact h9
    have hrun := runp_spec (gs0.getD I0 default) (gs0.getD I1 default) k false 1 7 ⟨hF0.wf.b, hF1.wf.b⟩
    obtain ⟨x, y, hr, hX, hrow⟩ := ends_right hT0 hF0 hF1 hne hb0 hb1 hk
    rw [hr] at hrun
    dsimp only at hrun
    have hxl : ((x.mem.length : Int) == 0) = false := by have := hX.sx.n1; rw [beq_eq_false_iff_ne]; omega
    have hyl : ((y.mem.length : Int) == 0) = false := by have := hX.sy.n1; rw [beq_eq_false_iff_ne]; omega
    have hx1 := hX.sx.n1
    have hy1 := hX.sy.n1
    have hxo := hX.sx.opn
    have hyo := hX.sy.opn
    have hcx := checkr_spec x hX.sx
    have hcy := checkr_spec y hX.sy
    have r1 : (own0 x).copy.rows.length ≤ 1024 := by have := (valid_head hX.vc).2.2.2.2.2; omega
    have r2 : (own0 y).copy.rows.length ≤ 1024 := by have := (valid_head hX.vd).2.2.2.2.2; omega
    have r3 : (own0 (gs0.getD I0 default)).copy.rows.length ≤ 1024 := by have := (valid_head hF0.c.v).2.2.2.2.2; omega
    have r4 : (own0 (gs0.getD I1 default)).copy.rows.length ≤ 1024 := by have := (valid_head hF1.c.v).2.2.2.2.2; omega
    have b1 : (own0 x).copy.rows.length * Tryz.prog.bytesOf 80 ≤ 140737488355328 ∧ (own0 x).copy.rows.length ≤ 9223372036854775807 := rowB (by omega)
    have b2 : ((own0 x).copy.rows.length + (own0 y).copy.rows.length) * Tryz.prog.bytesOf 80 ≤ 140737488355328 ∧ (own0 x).copy.rows.length + (own0 y).copy.rows.length ≤ 9223372036854775807 := rowB (by omega)
    have b3 : (own0 (gs0.getD I0 default)).copy.rows.length * Tryz.prog.bytesOf 80 ≤ 140737488355328 ∧ (own0 (gs0.getD I0 default)).copy.rows.length ≤ 9223372036854775807 := rowB (by omega)
    have b4 : ((own0 (gs0.getD I0 default)).copy.rows.length + (own0 (gs0.getD I1 default)).copy.rows.length) * Tryz.prog.bytesOf 80 ≤ 140737488355328 ∧ (own0 (gs0.getD I0 default)).copy.rows.length + (own0 (gs0.getD I1 default)).copy.rows.length ≤ 9223372036854775807 := rowB (by omega)
    have b5 : (own0 (gs0.getD I0 default)).copy.rows.length * Tryz.prog.bytesOf 80 ≤ 140737488355328 ∧ (own0 (gs0.getD I0 default)).copy.rows.length ≤ 9223372036854775807 := rowB (by omega)
    have b6 : ((own0 (gs0.getD I0 default)).copy.rows.length + (own0 (gs0.getD I1 default)).copy.rows.length) * Tryz.prog.bytesOf 80 ≤ 140737488355328 ∧ (own0 (gs0.getD I0 default)).copy.rows.length + (own0 (gs0.getD I1 default)).copy.rows.length ≤ 9223372036854775807 := rowB (by omega)
    have q1 := (len27 hrow r1 r2 r3 r4).2
    have q2 : ((x.mem.getD 0 default).copy.out.serial == 0) = true := by show ((own0 x).copy.out.serial == 0) = true; rw [hX.co]; rfl
    have q3 : ((y.mem.getD 0 default).copy.inn.serial == 0) = true := by show ((own0 y).copy.inn.serial == 0) = true; rw [hX.di]; rfl
    have q4 : ((y.mem.getD 0 default).copy.took == 0) = true := by show ((own0 y).copy.took == 0) = true; rw [hX.dt]; rfl
    have q5 : decide (cmpS (own0 (gs0.getD I0 default)).copy.se (own0 (gs0.getD I0 default)).copy.sv (own0 y).copy.se (own0 y).copy.sv < 0) = true := by rw [cmpS_lo hX.ad]; rfl
    have q6 : decide (cmpS (own0 (gs0.getD I1 default)).copy.se (own0 (gs0.getD I1 default)).copy.sv (own0 y).copy.se (own0 y).copy.sv < 0) = true := by rw [cmpS_lo hX.bd]; rfl
    have q7 : decide (cmpS (own0 (gs0.getD I0 default)).copy.se (own0 (gs0.getD I0 default)).copy.sv (own0 x).copy.se (own0 x).copy.sv < 0) = true := by rw [cmpS_lo hX.ac]; rfl
    have q8 := hX.int
    conv => whnf
    repeat' first
      | (refine call_intro (hrun) ?_ (by first | exact .inl rfl | exact .inr ⟨rfl, rfl⟩); (conv => whnf))
      | (refine call_intro (hcx) ?_ (by first | exact .inl rfl | exact .inr ⟨rfl, rfl⟩); (conv => whnf))
      | (refine call_intro (hcy) ?_ (by first | exact .inl rfl | exact .inr ⟨rfl, rfl⟩); (conv => whnf))
      | (refine call_if (same_at ((own0 x).copy.rows ++ (own0 y).copy.rows) ((own0 (gs0.getD I0 default)).copy.rows ++ (own0 (gs0.getD I1 default)).copy.rows)) (by first | exact .inl rfl | exact .inr ⟨rfl, rfl⟩) (need_intro ?_ ?_); (conv => whnf))
      | (refine call_intro (cmpSr_spec _ _ _ _) ?_ (by first | exact .inl rfl | exact .inr ⟨rfl, rfl⟩); (conv => whnf))
      | (refine call_intro (interr_spec _ _ _ _ _ _ _ _) ?_ (by first | exact .inl rfl | exact .inr ⟨rfl, rfl⟩); (conv => whnf))
      | (refine call_intro (emptyRr_spec _ _ _ _) ?_ (by first | exact .inl rfl | exact .inr ⟨rfl, rfl⟩); (conv => whnf))
      | (refine call_intro (awake27_spec) ?_ (by first | exact .inl rfl | exact .inr ⟨rfl, rfl⟩); (conv => whnf))
      | (refine bc_true (by assumption) ?_; (conv => whnf))
      | (refine bc_false (by assumption) ?_; (conv => whnf))
      | (refine bc_intro (fun _ => ?_) (fun _ => ?_) <;> (conv => whnf))
      | (refine need_intro ?_ ?_; (conv => whnf))
      | (refine wk_refl ?_; (conv => whnf))
      | (refine draw_intro (by kernel_rfl) ?_; (conv => whnf))
      | (refine ord_intro (by kernel_rfl) ?_; (conv => whnf))
    all_goals try first
      | exact ⟨LeS.refl _, trivial⟩
      | exact ⟨by omega, by omega⟩
      | exact b1
      | exact ⟨rfl, b2⟩
      | exact b3
      | exact ⟨rfl, b4⟩
      | exact b5
      | exact ⟨rfl, b6⟩
      | exact ⟨⟨List.length_append.symm, row_app2⟩, ⟨List.length_append.symm, row_app2⟩, by rw [List.length_append]; omega, hrow⟩
      | (exfalso; contradiction)
    all_goals trace_state
theorem handoverRuns_all (dss : List (List D)) (h : All2 (wfT Tryz.prog reachBytes 12) [22] dss) : Sx.Spec Tryz.prog GG 3 (svs Tryz.prog [22] dss) [] (.d (.bool true)) [] := by
  obtain ⟨x, rfl, hx⟩ := inv1 h
  obtain ⟨l, h1, h2, h3⟩ := ints_arg hx
  obtain ⟨_, _, rfl, _⟩ := hx
  exact (handoverRuns_law l h1).arg h2
end Go.Proofs.YtapddnfjngfloaaGreatDoor
