/- Contracts of functions that the law reaches: YtegbenagmciegaaGreatDoorKeepsL. Written for this claim. -/
import Derived.Test.YtegbenagmciegaaGreatDoorLawT2
import Derived.Test.YtegbenagmciegaaGreatDoorSxGrp
namespace Go.Proofs.YtegbenagmciegaaGreatDoor
open Go Go.Sx Go.ChangeShapes Go.WideShapes Go.ChangeAt Go.WideMaps Go.WideElems Go.RowKit
set_option linter.unusedVariables false
set_option linter.unusedSimpArgs false
set_option maxRecDepth 100000
theorem copyB_small {c : CopyT} {n : Nat} (h : CopyB n c) (hn : n ≤ 1000000) : Small c := ⟨Nat.le_trans h.rows hn, Nat.le_trans h.pend hn, Nat.le_trans h.out.rows (by omega), Nat.le_trans h.inn.rows (by omega)⟩
theorem of_eq0 {n : Int} (h : (n == 0) = true) : n = 0 := by simpa using h
theorem same_any {a b : List Row} (hl : a.length ≤ 5000000000000 ∧ b.length ≤ 5000000000000) : Sx.Spec Tryz.prog GG 37 [.d (encL encRow 2 a), .d (encL encRow 2 b)] [] (.d (.bool (sameF a b))) [] := sameRr_spec a b hl
theorem apply_cut (rows : List Row) (q : List Wr) (off n : Nat) {N o : Nat} : ((N = n ∧ o = off) ∧ n ≤ q.length - off ∧ n ≤ 1000) → Sx.Spec Tryz.prog GG 31 [.d (encL encRow 2 rows), .d (.list N 3 fun i j => cellOf encWr q (o + i) j)] [] (.tup [.d (encL encRow 2 (applyF rows ((q.drop off).take n)).1), .d (.int .i64 (applyF rows ((q.drop off).take n)).2)]) [] := by
  rintro ⟨⟨rfl, rfl⟩, h1, h2⟩
  have hl : N = ((q.drop o).take N).length := by rw [List.length_take, List.length_drop]; omega
  have hr : RowLe N 3 (fun i j => cellOf encWr q (o + i) j) (cellOf encWr ((q.drop o).take N)) := .of_eq fun i j hi _ => by
    simp [cellOf, List.getD, List.getElem?_take, hi]
  exact (applyr_spec rows ((q.drop o).take N) (by rw [← hl]; omega)).arg (LeL.cons (LeS.refl _) (LeL.cons (LeS.d (dle_lit rfl hl hr)) LeL.nil))
theorem apply_cut2 (rows : List Row) (q : List Wr) (off n : Nat) {N o : Nat} : ((N = n ∧ o = 0) ∧ n ≤ q.length - off ∧ n ≤ 1000) → Sx.Spec Tryz.prog GG 31 [.d (encL encRow 2 rows), .d (.list N 3 fun i j => cellOf encWr q (off + (o + i)) j)] [] (.tup [.d (encL encRow 2 (applyF rows ((q.drop off).take n)).1), .d (.int .i64 (applyF rows ((q.drop off).take n)).2)]) [] := by
  rintro ⟨⟨rfl, rfl⟩, h1, h2⟩
  have hl : N = ((q.drop off).take N).length := by rw [List.length_take, List.length_drop]; omega
  have hr : RowLe N 3 (fun i j => cellOf encWr q (off + (0 + i)) j) (cellOf encWr ((q.drop off).take N)) := .of_eq fun i j hi _ => by
    simp [cellOf, List.getD, List.getElem?_take, hi]
  exact (applyr_spec rows ((q.drop off).take N) (by rw [← hl]; omega)).arg (LeL.cons (LeS.refl _) (LeL.cons (LeS.d (dle_lit rfl hl hr)) LeL.nil))
theorem apply_lit (rows : List Row) (w : Wr) (res : List Row) (h : applyF rows [w] = (res, 0)) : Sx.Spec Tryz.prog GG 31 [.d (encL encRow 2 rows), .d (.list 1 (Tryz.prog.cellsOf 58) (tabF (fun _ j => [D.str [], D.str [], D.bool false].getD j default) [(0, [D.str w.1, D.str w.2.1, D.bool w.2.2])]))] [] (.tup [.d (encL encRow 2 res), .d (.int .i64 0)]) [] := by
  have hwr : RowLe 1 3 (tabF (fun _ j => [D.str [], D.str [], D.bool false].getD j default) [(0, [D.str w.1, D.str w.2.1, D.bool w.2.2])]) (cellOf encWr [w]) := .of_eq (fun a j ha hj => by
    have : a = 0 := by omega
    subst this
    rfl)
  have h9 := (applyr_spec rows [w] (by simp)).arg (LeL.cons (LeS.refl _) (LeL.cons (LeS.d (dle_lit cellsWr rfl hwr)) LeL.nil))
  rw [h] at h9
  exact h9
set_option maxHeartbeats 8000000 in
theorem takeoverKeeps_law (l : List Int) (hl : ∀ x ∈ l, -9223372036854775808 ≤ x ∧ x < 9223372036854775808) : Sx.Spec Tryz.prog GG 4 [.d (encL encI 1 l)] [] (.d (.bool true)) [] := by
  refine spec_intro (E := EE) (fn := Tryz.f4) eok (by kernel_rfl) (by kernel_rfl) Tryz.call4 (by kernel_rfl) (by kernel_rfl) ?_
  conv => whnf
  repeat' first
    | (refine call_some (new_ex 2000 hl) (fun _ => by first | exact .inl rfl | exact .inr ⟨rfl, rfl⟩) ?_; rintro ⟨tl, ta⟩ hT; (conv => whnf))
    | (refine call_some_if (proper_ex _) (fun _ => by first | exact .inl rfl | exact .inr ⟨rfl, rfl⟩) (need_intro ?_ ?_); rintro ⟨k, t, k2, t2, b⟩ ⟨⟨h1, h2, h4⟩, h3⟩; (conv => whnf))
    | (refine call_some_if (group_ex _) (fun _ => by first | exact .inl rfl | exact .inr ⟨rfl, rfl⟩) (need_intro ?_ ?_); rintro ⟨⟨c, n⟩, b⟩ ⟨⟨hn, hv, hsm, hr, hse, hsv, hp⟩, h5⟩; (conv => whnf))
    | (refine bc_true (by assumption) ?_; (conv => whnf))
    | (refine bc_false (by assumption) ?_; (conv => whnf))
    | (refine need_intro ?_ ?_; (conv => whnf))
    | (refine wk_refl ?_; (conv => whnf))
    | (refine draw_intro (by kernel_rfl) ?_; (conv => whnf))
    | (refine ord_intro (by kernel_rfl) ?_; (conv => whnf))
  all_goals try simp only at *
  have hml := memG_len (c := c) (n := n)
  all_goals try first
    | assumption
    | exact ⟨by assumption, by assumption⟩
    | (have hml := memG_len (c := c) (n := n); exact ⟨by omega, by omega⟩)
  have hI0 : KeepI (k, t, k2, t2) 0 ⟨1, true, memG c n⟩ c.rows ([].drop 0) := by
    have := keep_new (n := n) (by omega) hv hsm (by omega) (by omega) hp
    rw [hr] at this
    exact this
  have e0 : (memG c n).getD 0 default = ⟨10 + ((0 : Nat) : Int), true, c⟩ := memG_get (by omega)
  have hc0 : ∀ j, cellOf encMem (memG c n) (Int.toNat 0) j = (encMem ⟨10 + ((0 : Nat) : Int), true, c⟩).getD j default := fun j => by
    unfold cellOf
    rw [show Int.toNat 0 = 0 from rfl, e0]
  refine loop_auto [2, 3, 4] [] (fun x : Nat × GrpT × List Row × List Wr × Nat × Nat => [(7, .d (.int .i64 x.1)), (5, .d (encL encRow 2 x.2.2.1)), (6, .osl 500 3 x.2.2.2.2.1 (x.2.2.2.1.length - x.2.2.2.2.1))])
    (fun x => [(4, .box (grpL x.2.1)), (500, .row 58 3 x.2.2.2.1.length (cellOf encWr x.2.2.2.1)), (2000, tapeB tl x.2.2.2.2.2)])
    (fun x => x.1 ≤ 40 ∧ KeepI (k, t, k2, t2) x.1 x.2.1 x.2.2.1 (x.2.2.2.1.drop x.2.2.2.2.1) ∧ x.2.2.2.2.1 ≤ x.2.2.2.1.length ∧ TapeOk tl x.2.2.2.2.2) (fun x => 40 - x.1) (0, ⟨1, true, memG c n⟩, c.rows, [], 0, b) ?_ (fun x hx => ?_) ⟨by simp, hI0, by simp, h5⟩
  · conv => whnf
    repeat' first
      | (refine bc_true (by assumption) ?_; (conv => whnf))
      | (refine bc_false (by assumption) ?_; (conv => whnf))
      | (refine bc_intro (fun _ => ?_) (fun _ => ?_) <;> (conv => whnf))
      | (refine need_intro ?_ ?_; (conv => whnf))
      | (refine wk_refl ?_; (conv => whnf))
      | (refine draw_intro (by kernel_rfl) ?_; (conv => whnf))
      | (refine ord_intro (by kernel_rfl) ?_; (conv => whnf))
    all_goals first | exact trivial | exact DLe.refl _ | exact DLe.of_eq (hc0 _) | exact ⟨rfl, rfl⟩ | exact ⟨rfl, rfl, rfl⟩ | trace_state
  · obtain ⟨i, g, rows, q, off, b⟩ := x
    obtain ⟨hi, hI, hoq, hb⟩ := hx
    simp only at hi hI hoq hb
    simp only
    have hsi : IntKind.i64.wrap ((i : Int) + 1) = ((i + 1 : Nat) : Int) := wrap_succ (n := 100) (by omega) (by omega)
    have hgb := hI.snd.b
    have hlen := hgb.len
    have hn1 := hI.snd.n1
    have hol := hI.len
    rw [List.length_drop] at hol
    have hrng := (hI.ev.at (i := 0) (by omega)).rng
    have hem : emptyR (own0 g).copy.lk (own0 g).copy.lt (own0 g).copy.hk (own0 g).copy.ht = false := by
      simp only [CopyT.rng, Prod.mk.injEq] at hrng
      obtain ⟨r1, r2, r3, r4⟩ := hrng
      show emptyR (g.mem.getD 0 default).copy.lk (g.mem.getD 0 default).copy.lt (g.mem.getD 0 default).copy.hk (g.mem.getD 0 default).copy.ht = false
      rw [r1, r2, r3, r4]; exact h4
    conv => whnf
    repeat' first
      | (refine bc_true (by assumption) ?_; (conv => whnf))
      | (refine bc_false (by assumption) ?_; (conv => whnf))
      | (refine need_intro ?_ ?_; (conv => whnf))
      | (refine wk_refl ?_; (conv => whnf))
      | (refine draw_intro (by kernel_rfl) ?_; (conv => whnf))
      | (refine ord_intro (by kernel_rfl) ?_; (conv => whnf))
    refine bc_intro (fun h40 => ?_) (fun h40 => ?_) <;> (conv => whnf)
    · simp only [decide_eq_true_eq] at h40
      conv => whnf
      repeat' first
        | (refine call_some_if (left_ex _) (fun _ => by first | exact .inl rfl | exact .inr ⟨rfl, rfl⟩) (need_intro ?_ ?_); rintro ⟨lv, b⟩ h6; (conv => whnf))
        | (refine bc_true (by assumption) ?_; (conv => whnf))
        | (refine bc_false (by assumption) ?_; (conv => whnf))
        | (refine need_intro ?_ ?_; (conv => whnf))
        | (refine wk_refl ?_; (conv => whnf))
        | (refine draw_intro (by kernel_rfl) ?_; (conv => whnf))
        | (refine ord_intro (by kernel_rfl) ?_; (conv => whnf))
      refine bc_intro (fun hlv => ?_) (fun hlv => ?_) <;> (conv => whnf)
      · cases off with
        | zero =>
          conv => whnf
          repeat' first
            | (refine call_some_if (next_ex _) (fun _ => by first | exact .inl rfl | exact .inr ⟨rfl, rfl⟩) (need_intro ?_ ?_); rintro ⟨v, b⟩ ⟨⟨q1, q2⟩, h6⟩; (conv => whnf))
            | (refine call_some_if (writeIn_ex _) (fun _ => by first | exact .inl rfl | exact .inr ⟨rfl, rfl⟩) (need_intro ?_ ?_); rintro ⟨⟨wk, wv, wd⟩, b⟩ ⟨⟨h7, h8⟩, h6⟩; (conv => whnf))
            | (refine call_some_if (member_ex _ g) (fun _ => by first | exact .inl rfl | exact .inr ⟨rfl, rfl⟩) (need_intro ?_ ?_); rintro ⟨id, b⟩ h6; (conv => whnf))
            | (refine call_if (propr_spec g (_, _, _)) (by first | exact .inl rfl | exact .inr ⟨rfl, rfl⟩) (need_intro ?_ ?_); (conv => whnf))
            | (refine call_if (replr_spec g _) (by first | exact .inl rfl | exact .inr ⟨rfl, rfl⟩) (need_intro ?_ ?_); (conv => whnf))
            | (refine call_if (commr_spec g) (by first | exact .inl rfl | exact .inr ⟨rfl, rfl⟩) (need_intro ?_ ?_); (conv => whnf))
            | (refine call_if (crashr_spec g _) (by first | exact .inl rfl | exact .inr ⟨rfl, rfl⟩) (need_intro ?_ ?_); (conv => whnf))
            | (refine bc_true (by assumption) ?_; (conv => whnf))
            | (refine bc_false (by assumption) ?_; (conv => whnf))
            | (refine bc_intro (fun _ => ?_) (fun _ => ?_) <;> (conv => whnf))
            | (refine need_intro ?_ ?_; (conv => whnf))
            | (refine wk_refl ?_; (conv => whnf))
            | (refine draw_intro (by kernel_rfl) ?_; (conv => whnf))
            | (refine ord_intro (by kernel_rfl) ?_; (conv => whnf))
          all_goals try first
            | assumption
            | exact hgb
            | exact ⟨by assumption, by omega, by omega⟩
            | exact ⟨by assumption, hem⟩
            | exact ⟨by assumption, by omega⟩
          all_goals try simp only [beq_iff_eq, beq_eq_false_iff_ne, bne_iff_ne, bne_eq_false_iff_eq, decide_eq_true_eq, decide_eq_false_iff_not, ne_eq] at *
          all_goals try (exfalso; omega)
          all_goals first
            | exact ⟨Int.le_refl 0, by show (0 : Int) < (g.mem.length : Nat); omega⟩
            | exact ⟨by omega, by rw [bytesWr]; omega, by omega⟩
            | exact ⟨trivial, by rw [bytesWr]; omega, by omega⟩
            | (have hP := keep_propose (w := (wk, wv, wd)) hI (by assumption)
               (refine NextVC.mk (i + 1, (proposeG g (wk, wv, wd)).1, rows, q.drop 0 ++ [(wk, wv, wd)], 0, b) ?_ ?_ ?_
                (conv => whnf)
                repeat' (refine need_intro ?_ ?_; (conv => whnf))
                all_goals try simp only [cellsWr, bytesWr, true_and, and_true]
                all_goals first
                  | exact trivial
                  | exact DLe.refl _
                  | exact RowLe.refl _ _ _
                  | exact DLe.of_eq (by rw [hsi])
                  | exact ⟨by omega, hP, Nat.zero_le _, by assumption⟩
                  | omega
                  | (simp only [List.length_append, List.length_drop, List.length_singleton]; done)
                  | (simp only [List.length_append, List.length_drop, List.length_singleton]; omega)
                  | (simp only [Option.getD]; omega)
                  | (simp only [Option.getD]; exact ⟨by omega, by omega⟩)
                  | exact row_opn (by omega) (by simp only [List.length_append, List.length_drop, List.length_singleton]) (jlt3 (DLe.refl _) (DLe.refl _) (DLe.refl _))
                  | exact row_opn0 (by omega) (by simp only [List.length_append, List.length_drop, List.length_singleton]) (jlt3 (DLe.refl _) (DLe.refl _) (DLe.refl _))
                done)
              )
            | (have hP := keep_replicate (id := id) hI (by assumption)
               (refine NextVC.mk (i + 1, (replicateG g id).1, rows, q, 0, b) ?_ ?_ ?_
                (conv => whnf)
                repeat' (refine need_intro ?_ ?_; (conv => whnf))
                all_goals try simp only [cellsWr, bytesWr, true_and, and_true]
                all_goals first
                  | exact trivial
                  | exact DLe.refl _
                  | exact RowLe.refl _ _ _
                  | exact DLe.of_eq (by rw [hsi])
                  | exact ⟨by omega, hP, hoq, by assumption⟩
                  | omega
                  | (simp only [List.length_append, List.length_drop, List.length_singleton]; done)
                  | (simp only [List.length_append, List.length_drop, List.length_singleton]; omega)
                  | (simp only [Option.getD]; omega)
                  | (simp only [Option.getD]; exact ⟨by omega, by omega⟩)
                  | exact row_opn (by omega) (by simp only [List.length_append, List.length_drop, List.length_singleton]) (jlt3 (DLe.refl _) (DLe.refl _) (DLe.refl _))
                  | exact row_opn0 (by omega) (by simp only [List.length_append, List.length_drop, List.length_singleton]) (jlt3 (DLe.refl _) (DLe.refl _) (DLe.refl _))
                done)
              )
            | (have hP := keep_crash (id := id) hI (by assumption)
               (refine NextVC.mk (i + 1, (crashG g id).1, rows, q, 0, b) ?_ ?_ ?_
                (conv => whnf)
                repeat' (refine need_intro ?_ ?_; (conv => whnf))
                all_goals try simp only [cellsWr, bytesWr, true_and, and_true]
                all_goals first
                  | exact trivial
                  | exact DLe.refl _
                  | exact RowLe.refl _ _ _
                  | exact DLe.of_eq (by rw [hsi])
                  | exact ⟨by omega, hP, hoq, by assumption⟩
                  | omega
                  | (simp only [List.length_append, List.length_drop, List.length_singleton]; done)
                  | (simp only [List.length_append, List.length_drop, List.length_singleton]; omega)
                  | (simp only [Option.getD]; omega)
                  | (simp only [Option.getD]; exact ⟨by omega, by omega⟩)
                  | exact row_opn (by omega) (by simp only [List.length_append, List.length_drop, List.length_singleton]) (jlt3 (DLe.refl _) (DLe.refl _) (DLe.refl _))
                  | exact row_opn0 (by omega) (by simp only [List.length_append, List.length_drop, List.length_singleton]) (jlt3 (DLe.refl _) (DLe.refl _) (DLe.refl _))
                done)
              )
            | (have hC := keep_commit hI (by assumption)
               have hC1 : KeepI (k, t, k2, t2) (i + 1) (commitG g).1.1 (own0 (commitG g).1.1).copy.rows (q.drop (0 + 1)) := by have := hC.1; rwa [List.drop_drop] at this
               have hC2 := hC.2.2
               rw [List.length_drop] at hC2
               conv => whnf
               repeat' first
                 | (refine call_intro (apply_lit rows (commitG g).1.2 _ hC.2.1) ?_ (by first | exact .inl rfl | exact .inr ⟨rfl, rfl⟩); (conv => whnf))
                 | (refine bc_true (by assumption) ?_; (conv => whnf))
                 | (refine bc_false (by assumption) ?_; (conv => whnf))
                 | (refine bc_intro (fun _ => ?_) (fun _ => ?_) <;> (conv => whnf))
                 | (refine need_intro ?_ ?_; (conv => whnf))
                 | (refine wk_refl ?_; (conv => whnf))
                 | (refine draw_intro (by kernel_rfl) ?_; (conv => whnf))
                 | (refine ord_intro (by kernel_rfl) ?_; (conv => whnf))
               all_goals first
                 | (simp only [Option.getD]; exact ⟨by omega, by omega, by omega⟩)
                 | (refine NextVC.mk (i + 1, (commitG g).1.1, (own0 (commitG g).1.1).copy.rows, q, 0 + 1, b) ?_ ?_ ?_
                    (conv => whnf)
                    repeat' (refine need_intro ?_ ?_; (conv => whnf))
                    all_goals try simp only [cellsWr, bytesWr, true_and, and_true]
                    all_goals first
                      | exact trivial
                      | exact DLe.refl _
                      | exact RowLe.refl _ _ _
                      | exact DLe.of_eq (by rw [hsi])
                      | exact ⟨by omega, hC1, by omega, by assumption⟩
                      | omega
                      | (simp only [List.length_append, List.length_drop, List.length_singleton]; done)
                      | (simp only [List.length_append, List.length_drop, List.length_singleton]; omega)
                      | (simp only [Option.getD]; omega)
                      | (simp only [Option.getD]; exact ⟨by omega, by omega⟩)
                      | exact row_opn (by omega) (by simp only [List.length_append, List.length_drop, List.length_singleton]) (jlt3 (DLe.refl _) (DLe.refl _) (DLe.refl _))
                      | exact row_opn0 (by omega) (by simp only [List.length_append, List.length_drop, List.length_singleton]) (jlt3 (DLe.refl _) (DLe.refl _) (DLe.refl _))
                    done)
                 | trace_state
              )
            | (refine NextVC.mk (i + 1, g, rows, q, 0, b) ?_ ?_ ?_
               (conv => whnf)
               repeat' (refine need_intro ?_ ?_; (conv => whnf))
               all_goals try simp only [cellsWr, bytesWr, true_and, and_true]
               all_goals first
                 | exact trivial
                 | exact DLe.refl _
                 | exact RowLe.refl _ _ _
                 | exact DLe.of_eq (by rw [hsi])
                 | exact ⟨by omega, hI.mono (by omega), hoq, by assumption⟩
                 | omega
                 | (simp only [List.length_append, List.length_drop, List.length_singleton]; done)
                 | (simp only [List.length_append, List.length_drop, List.length_singleton]; omega)
                 | (simp only [Option.getD]; omega)
                 | (simp only [Option.getD]; exact ⟨by omega, by omega⟩)
                 | exact row_opn (by omega) (by simp only [List.length_append, List.length_drop, List.length_singleton]) (jlt3 (DLe.refl _) (DLe.refl _) (DLe.refl _))
                 | exact row_opn0 (by omega) (by simp only [List.length_append, List.length_drop, List.length_singleton]) (jlt3 (DLe.refl _) (DLe.refl _) (DLe.refl _))
               done)
            | trace_state
        | succ o =>
          conv => whnf
          repeat' first
            | (refine call_some_if (next_ex _) (fun _ => by first | exact .inl rfl | exact .inr ⟨rfl, rfl⟩) (need_intro ?_ ?_); rintro ⟨v, b⟩ ⟨⟨q1, q2⟩, h6⟩; (conv => whnf))
            | (refine call_some_if (writeIn_ex _) (fun _ => by first | exact .inl rfl | exact .inr ⟨rfl, rfl⟩) (need_intro ?_ ?_); rintro ⟨⟨wk, wv, wd⟩, b⟩ ⟨⟨h7, h8⟩, h6⟩; (conv => whnf))
            | (refine call_some_if (member_ex _ g) (fun _ => by first | exact .inl rfl | exact .inr ⟨rfl, rfl⟩) (need_intro ?_ ?_); rintro ⟨id, b⟩ h6; (conv => whnf))
            | (refine call_if (propr_spec g (_, _, _)) (by first | exact .inl rfl | exact .inr ⟨rfl, rfl⟩) (need_intro ?_ ?_); (conv => whnf))
            | (refine call_if (replr_spec g _) (by first | exact .inl rfl | exact .inr ⟨rfl, rfl⟩) (need_intro ?_ ?_); (conv => whnf))
            | (refine call_if (commr_spec g) (by first | exact .inl rfl | exact .inr ⟨rfl, rfl⟩) (need_intro ?_ ?_); (conv => whnf))
            | (refine call_if (crashr_spec g _) (by first | exact .inl rfl | exact .inr ⟨rfl, rfl⟩) (need_intro ?_ ?_); (conv => whnf))
            | (refine bc_true (by assumption) ?_; (conv => whnf))
            | (refine bc_false (by assumption) ?_; (conv => whnf))
            | (refine bc_intro (fun _ => ?_) (fun _ => ?_) <;> (conv => whnf))
            | (refine need_intro ?_ ?_; (conv => whnf))
            | (refine wk_refl ?_; (conv => whnf))
            | (refine draw_intro (by kernel_rfl) ?_; (conv => whnf))
            | (refine ord_intro (by kernel_rfl) ?_; (conv => whnf))
          all_goals try first
            | assumption
            | exact hgb
            | exact ⟨by assumption, by omega, by omega⟩
            | exact ⟨by assumption, hem⟩
            | exact ⟨by assumption, by omega⟩
          all_goals try simp only [beq_iff_eq, beq_eq_false_iff_ne, bne_iff_ne, bne_eq_false_iff_eq, decide_eq_true_eq, decide_eq_false_iff_not, ne_eq] at *
          all_goals try (exfalso; omega)
          all_goals first
            | exact ⟨Int.le_refl 0, by show (0 : Int) < (g.mem.length : Nat); omega⟩
            | exact ⟨by omega, by rw [bytesWr]; omega, by omega⟩
            | exact ⟨trivial, by rw [bytesWr]; omega, by omega⟩
            | (have hP := keep_propose (w := (wk, wv, wd)) hI (by assumption)
               (refine NextVC.mk (i + 1, (proposeG g (wk, wv, wd)).1, rows, q.drop (o + 1) ++ [(wk, wv, wd)], 0, b) ?_ ?_ ?_
                (conv => whnf)
                repeat' (refine need_intro ?_ ?_; (conv => whnf))
                all_goals try simp only [cellsWr, bytesWr, true_and, and_true]
                all_goals first
                  | exact trivial
                  | exact DLe.refl _
                  | exact RowLe.refl _ _ _
                  | exact DLe.of_eq (by rw [hsi])
                  | exact ⟨by omega, hP, Nat.zero_le _, by assumption⟩
                  | omega
                  | (simp only [List.length_append, List.length_drop, List.length_singleton]; done)
                  | (simp only [List.length_append, List.length_drop, List.length_singleton]; omega)
                  | (simp only [Option.getD]; omega)
                  | (simp only [Option.getD]; exact ⟨by omega, by omega⟩)
                  | exact row_opn (by omega) (by simp only [List.length_append, List.length_drop, List.length_singleton]) (jlt3 (DLe.refl _) (DLe.refl _) (DLe.refl _))
                  | exact row_opn0 (by omega) (by simp only [List.length_append, List.length_drop, List.length_singleton]) (jlt3 (DLe.refl _) (DLe.refl _) (DLe.refl _))
                done)
              )
            | (have hP := keep_replicate (id := id) hI (by assumption)
               (refine NextVC.mk (i + 1, (replicateG g id).1, rows, q, (o + 1), b) ?_ ?_ ?_
                (conv => whnf)
                repeat' (refine need_intro ?_ ?_; (conv => whnf))
                all_goals try simp only [cellsWr, bytesWr, true_and, and_true]
                all_goals first
                  | exact trivial
                  | exact DLe.refl _
                  | exact RowLe.refl _ _ _
                  | exact DLe.of_eq (by rw [hsi])
                  | exact ⟨by omega, hP, hoq, by assumption⟩
                  | omega
                  | (simp only [List.length_append, List.length_drop, List.length_singleton]; done)
                  | (simp only [List.length_append, List.length_drop, List.length_singleton]; omega)
                  | (simp only [Option.getD]; omega)
                  | (simp only [Option.getD]; exact ⟨by omega, by omega⟩)
                  | exact row_opn (by omega) (by simp only [List.length_append, List.length_drop, List.length_singleton]) (jlt3 (DLe.refl _) (DLe.refl _) (DLe.refl _))
                  | exact row_opn0 (by omega) (by simp only [List.length_append, List.length_drop, List.length_singleton]) (jlt3 (DLe.refl _) (DLe.refl _) (DLe.refl _))
                done)
              )
            | (have hP := keep_crash (id := id) hI (by assumption)
               (refine NextVC.mk (i + 1, (crashG g id).1, rows, q, (o + 1), b) ?_ ?_ ?_
                (conv => whnf)
                repeat' (refine need_intro ?_ ?_; (conv => whnf))
                all_goals try simp only [cellsWr, bytesWr, true_and, and_true]
                all_goals first
                  | exact trivial
                  | exact DLe.refl _
                  | exact RowLe.refl _ _ _
                  | exact DLe.of_eq (by rw [hsi])
                  | exact ⟨by omega, hP, hoq, by assumption⟩
                  | omega
                  | (simp only [List.length_append, List.length_drop, List.length_singleton]; done)
                  | (simp only [List.length_append, List.length_drop, List.length_singleton]; omega)
                  | (simp only [Option.getD]; omega)
                  | (simp only [Option.getD]; exact ⟨by omega, by omega⟩)
                  | exact row_opn (by omega) (by simp only [List.length_append, List.length_drop, List.length_singleton]) (jlt3 (DLe.refl _) (DLe.refl _) (DLe.refl _))
                  | exact row_opn0 (by omega) (by simp only [List.length_append, List.length_drop, List.length_singleton]) (jlt3 (DLe.refl _) (DLe.refl _) (DLe.refl _))
                done)
              )
            | (have hC := keep_commit hI (by assumption)
               have hC1 : KeepI (k, t, k2, t2) (i + 1) (commitG g).1.1 (own0 (commitG g).1.1).copy.rows (q.drop ((o + 1) + 1)) := by have := hC.1; rwa [List.drop_drop] at this
               have hC2 := hC.2.2
               rw [List.length_drop] at hC2
               conv => whnf
               repeat' first
                 | (refine call_intro (apply_lit rows (commitG g).1.2 _ hC.2.1) ?_ (by first | exact .inl rfl | exact .inr ⟨rfl, rfl⟩); (conv => whnf))
                 | (refine bc_true (by assumption) ?_; (conv => whnf))
                 | (refine bc_false (by assumption) ?_; (conv => whnf))
                 | (refine bc_intro (fun _ => ?_) (fun _ => ?_) <;> (conv => whnf))
                 | (refine need_intro ?_ ?_; (conv => whnf))
                 | (refine wk_refl ?_; (conv => whnf))
                 | (refine draw_intro (by kernel_rfl) ?_; (conv => whnf))
                 | (refine ord_intro (by kernel_rfl) ?_; (conv => whnf))
               all_goals first
                 | (simp only [Option.getD]; exact ⟨by omega, by omega, by omega⟩)
                 | (refine NextVC.mk (i + 1, (commitG g).1.1, (own0 (commitG g).1.1).copy.rows, q, (o + 1) + 1, b) ?_ ?_ ?_
                    (conv => whnf)
                    repeat' (refine need_intro ?_ ?_; (conv => whnf))
                    all_goals try simp only [cellsWr, bytesWr, true_and, and_true]
                    all_goals first
                      | exact trivial
                      | exact DLe.refl _
                      | exact RowLe.refl _ _ _
                      | exact DLe.of_eq (by rw [hsi])
                      | exact ⟨by omega, hC1, by omega, by assumption⟩
                      | omega
                      | (simp only [List.length_append, List.length_drop, List.length_singleton]; done)
                      | (simp only [List.length_append, List.length_drop, List.length_singleton]; omega)
                      | (simp only [Option.getD]; omega)
                      | (simp only [Option.getD]; exact ⟨by omega, by omega⟩)
                      | exact row_opn (by omega) (by simp only [List.length_append, List.length_drop, List.length_singleton]) (jlt3 (DLe.refl _) (DLe.refl _) (DLe.refl _))
                      | exact row_opn0 (by omega) (by simp only [List.length_append, List.length_drop, List.length_singleton]) (jlt3 (DLe.refl _) (DLe.refl _) (DLe.refl _))
                    done)
                 | trace_state
              )
            | (refine NextVC.mk (i + 1, g, rows, q, (o + 1), b) ?_ ?_ ?_
               (conv => whnf)
               repeat' (refine need_intro ?_ ?_; (conv => whnf))
               all_goals try simp only [cellsWr, bytesWr, true_and, and_true]
               all_goals first
                 | exact trivial
                 | exact DLe.refl _
                 | exact RowLe.refl _ _ _
                 | exact DLe.of_eq (by rw [hsi])
                 | exact ⟨by omega, hI.mono (by omega), hoq, by assumption⟩
                 | omega
                 | (simp only [List.length_append, List.length_drop, List.length_singleton]; done)
                 | (simp only [List.length_append, List.length_drop, List.length_singleton]; omega)
                 | (simp only [Option.getD]; omega)
                 | (simp only [Option.getD]; exact ⟨by omega, by omega⟩)
                 | exact row_opn (by omega) (by simp only [List.length_append, List.length_drop, List.length_singleton]) (jlt3 (DLe.refl _) (DLe.refl _) (DLe.refl _))
                 | exact row_opn0 (by omega) (by simp only [List.length_append, List.length_drop, List.length_singleton]) (jlt3 (DLe.refl _) (DLe.refl _) (DLe.refl _))
               done)
            | trace_state
      · have hrl := liver_spec0 g hlen
        have hrv := recoverp_spec g hgb
        conv => whnf
        repeat' first
          | (refine bc_true (by assumption) ?_; (conv => whnf))
          | (refine bc_false (by assumption) ?_; (conv => whnf))
          | (refine need_intro ?_ ?_; (conv => whnf))
          | (refine wk_refl ?_; (conv => whnf))
          | (refine draw_intro (by kernel_rfl) ?_; (conv => whnf))
          | (refine ord_intro (by kernel_rfl) ?_; (conv => whnf))
        · refine bc_intro (fun hu => ?_) (fun hu => ?_) <;> (conv => whnf)
          · have hd : (own0 g).up = false := by
              have h9 : (!(g.mem.getD 0 default).up) = true := hu
              rw [Bool.not_eq_true'] at h9
              exact h9
            have hd' : (g.mem.getD (Int.toNat 0) default).up = false := hd
            conv => whnf
            repeat' first
              | (refine call_intro (hrl) ?_ (by first | exact .inl rfl | exact .inr ⟨rfl, rfl⟩); (conv => whnf))
              | (refine bc_true (by assumption) ?_; (conv => whnf))
              | (refine bc_false (by assumption) ?_; (conv => whnf))
              | (refine need_intro ?_ ?_; (conv => whnf))
              | (refine wk_refl ?_; (conv => whnf))
              | (refine draw_intro (by kernel_rfl) ?_; (conv => whnf))
              | (refine ord_intro (by kernel_rfl) ?_; (conv => whnf))
            refine bc_intro (fun hz => ?_) (fun hz => ?_) <;> (conv => whnf)
            · have h15 := rcv_lost hn1 hd (live_heir (by simp only [beq_iff_eq] at hz; omega))
              conv => whnf
              repeat' first
                | (refine call_intro (hrv) ?_ (by first | exact .inl rfl | exact .inr ⟨rfl, rfl⟩); (conv => whnf))
                | (refine call_intro (awake26_spec) ?_ (by first | exact .inl rfl | exact .inr ⟨rfl, rfl⟩); (conv => whnf))
                | (refine bc_true (by assumption) ?_; (conv => whnf))
                | (refine bc_false (by assumption) ?_; (conv => whnf))
                | (refine bc_intro (fun _ => ?_) (fun _ => ?_) <;> (conv => whnf))
                | (refine need_intro ?_ ?_; (conv => whnf))
                | (refine wk_refl ?_; (conv => whnf))
                | (refine draw_intro (by kernel_rfl) ?_; (conv => whnf))
                | (refine ord_intro (by kernel_rfl) ?_; (conv => whnf))
              all_goals first
                | exact ⟨LeS.refl _, trivial⟩
                | (exfalso; simp only [h15] at *; simp at *; done)
                | trace_state
            · have hnh : ¬ heirG g.mem 0 < 0 := fun h => by
                have h9 := heir_live h
                rw [h9] at hz
                simp at hz
              obtain ⟨K, W, e1, e2, e3, e4, e5, m, m1, m2, m3⟩ := kept hI.snd hI.ev (by omega) hd hnh
              rw [e1] at hrv
              simp only at hrv
              have hck := checkr_spec K e5
              have hkl := e5.b.len
              have hk1 := e5.n1
              conv => whnf
              repeat' first
                | (refine call_intro (hrv) ?_ (by first | exact .inl rfl | exact .inr ⟨rfl, rfl⟩); (conv => whnf))
                | (refine call_intro (hck) ?_ (by first | exact .inl rfl | exact .inr ⟨rfl, rfl⟩); (conv => whnf))
                | (refine call_intro (cmpSr_spec _ _ _ _) ?_ (by first | exact .inl rfl | exact .inr ⟨rfl, rfl⟩); (conv => whnf))
                | (refine bc_true (by assumption) ?_; (conv => whnf))
                | (refine bc_false (by assumption) ?_; (conv => whnf))
                | (refine bc_intro (fun _ => ?_) (fun _ => ?_) <;> (conv => whnf))
                | (refine need_intro ?_ ?_; (conv => whnf))
                | (refine wk_refl ?_; (conv => whnf))
                | (refine draw_intro (by kernel_rfl) ?_; (conv => whnf))
                | (refine ord_intro (by kernel_rfl) ?_; (conv => whnf))
              all_goals try exact ⟨Int.le_refl 0, by show (0 : Int) < (g.mem.length : Nat); omega⟩
              all_goals try exact ⟨Int.le_refl 0, by show (0 : Int) < (K.mem.length : Nat); omega⟩
              all_goals try
                (exfalso
                 have h9 : (!K.opn) = true := by assumption
                 rw [e2] at h9
                 cases h9)
              all_goals try
                (exfalso
                 have h9 : ((K.mem.length : Int) != (g.mem.length : Int)) = true := by assumption
                 rw [e3] at h9
                 simp at h9
                 done)
              all_goals try
                (exfalso
                 have h9 : decide (cmpS (own0 g).copy.se (own0 g).copy.sv (own0 K).copy.se (own0 K).copy.sv ≥ 0) = true := by assumption
                 rw [cmpS_lt e4] at h9
                 cases h9)
              have hap := keep_apply hI m3
              rw [hI.pend, List.length_drop] at m1
              refine loop_auto [2, 5, 19, 20] [19] (fun x : Nat × Bool => match x with
                  | (n, true) => [(22, .d (.int .i64 n)), (6, .osl 501 3 off (q.length - off))]
                  | (n, false) => [(22, .d (.int .i64 n)), (6, .d (.list (q.length - off) 3 fun i j => cellOf encWr q (off + i) j))])
                (fun x => match x with
                  | (n, true) => [(501, .row 58 3 q.length (cellOf encWr q))]
                  | (n, false) => []) (fun x => x.1 ≤ m) (fun x => m - x.1) (0, true) ?_ (fun x hx => ?_) (by simp)
              · conv => whnf
                repeat' first
                  | (refine bc_true (by assumption) ?_; (conv => whnf))
                  | (refine bc_false (by assumption) ?_; (conv => whnf))
                  | (refine bc_intro (fun _ => ?_) (fun _ => ?_) <;> (conv => whnf))
                  | (refine need_intro ?_ ?_; (conv => whnf))
                  | (refine wk_refl ?_; (conv => whnf))
                  | (refine draw_intro (by kernel_rfl) ?_; (conv => whnf))
                  | (refine ord_intro (by kernel_rfl) ?_; (conv => whnf))
                all_goals first | exact trivial | exact DLe.refl _ | exact RowLe.refl _ _ _ | exact ⟨rfl, rfl⟩ | exact ⟨rfl, rfl, rfl⟩ | trace_state
              · obtain ⟨n', fst⟩ := x
                simp only at hx
                have hsn : IntKind.i64.wrap ((n' : Int) + 1) = ((n' + 1 : Nat) : Int) := wrap_succ (n := 2000) (by omega) (by omega)
                cases fst with
                | true =>
                  conv => whnf
                  repeat' first
                    | (refine call_if (apply_cut rows q off n') (by first | exact .inl rfl | exact .inr ⟨rfl, rfl⟩) (need_intro ?_ ?_); (conv => whnf))
                    | (refine call_if (same_any) (by first | exact .inl rfl | exact .inr ⟨rfl, rfl⟩) (need_intro ?_ ?_); (conv => whnf))
                    | (refine call_intro (awake26_spec) ?_ (by first | exact .inl rfl | exact .inr ⟨rfl, rfl⟩); (conv => whnf))
                    | (refine NextVC.mk (n' + 1, false) ?_ ?_ ?_; (conv => whnf))
                    | (refine bc_true (by assumption) ?_; (conv => whnf))
                    | (refine bc_false (by assumption) ?_; (conv => whnf))
                    | (refine bc_intro (fun _ => ?_) (fun _ => ?_) <;> (conv => whnf))
                    | (refine need_intro ?_ ?_; (conv => whnf))
                    | (refine wk_refl ?_; (conv => whnf))
                    | (refine draw_intro (by kernel_rfl) ?_; (conv => whnf))
                    | (refine ord_intro (by kernel_rfl) ?_; (conv => whnf))
                  all_goals first
                    | exact trivial
                    | exact DLe.refl _
                    | exact DLe.of_eq (by rw [hsn])
                    | omega
                    | exact ⟨LeS.refl _, trivial⟩
                    | exact ⟨Nat.le_trans apply_lenK (by omega), Nat.le_trans (mem_small e5.b 0).1 (by omega)⟩
                    | exact ⟨Int.le_refl 0, by show (0 : Int) < (K.mem.length : Nat); omega⟩
                    | (simp only [Option.getD]; exact ⟨⟨by omega, by simp⟩, by omega, by omega⟩)
                    | (simp only [Option.getD]; exact ⟨by omega, by omega, by omega⟩)
                    | (have hne : n' ≠ m := by
                         rintro rfl
                         have h9 : sameF (applyF rows ((q.drop off).take n')).1 (own0 K).copy.rows = false := by assumption
                         rw [hap, same_refl] at h9
                         cases h9
                       omega)
                    | (exfalso
                       simp only [decide_eq_false_iff_not, decide_eq_true_eq] at *
                       omega)
                    | trace_state
                | false =>
                  conv => whnf
                  repeat' first
                    | (refine call_if (apply_cut2 rows q off n') (by first | exact .inl rfl | exact .inr ⟨rfl, rfl⟩) (need_intro ?_ ?_); (conv => whnf))
                    | (refine call_if (same_any) (by first | exact .inl rfl | exact .inr ⟨rfl, rfl⟩) (need_intro ?_ ?_); (conv => whnf))
                    | (refine call_intro (awake26_spec) ?_ (by first | exact .inl rfl | exact .inr ⟨rfl, rfl⟩); (conv => whnf))
                    | (refine NextVC.mk (n' + 1, false) ?_ ?_ ?_; (conv => whnf))
                    | (refine bc_true (by assumption) ?_; (conv => whnf))
                    | (refine bc_false (by assumption) ?_; (conv => whnf))
                    | (refine bc_intro (fun _ => ?_) (fun _ => ?_) <;> (conv => whnf))
                    | (refine need_intro ?_ ?_; (conv => whnf))
                    | (refine wk_refl ?_; (conv => whnf))
                    | (refine draw_intro (by kernel_rfl) ?_; (conv => whnf))
                    | (refine ord_intro (by kernel_rfl) ?_; (conv => whnf))
                  all_goals first
                    | exact trivial
                    | exact DLe.refl _
                    | exact DLe.of_eq (by rw [hsn])
                    | omega
                    | exact ⟨LeS.refl _, trivial⟩
                    | exact ⟨Nat.le_trans apply_lenK (by omega), Nat.le_trans (mem_small e5.b 0).1 (by omega)⟩
                    | exact ⟨Int.le_refl 0, by show (0 : Int) < (K.mem.length : Nat); omega⟩
                    | (simp only [Option.getD]; exact ⟨⟨by omega, by simp⟩, by omega, by omega⟩)
                    | (simp only [Option.getD]; exact ⟨by omega, by omega, by omega⟩)
                    | (have hne : n' ≠ m := by
                         rintro rfl
                         have h9 : sameF (applyF rows ((q.drop off).take n')).1 (own0 K).copy.rows = false := by assumption
                         rw [hap, same_refl] at h9
                         cases h9
                       omega)
                    | (exfalso
                       simp only [decide_eq_false_iff_not, decide_eq_true_eq] at *
                       omega)
                    | trace_state
          · have hd : (own0 g).up = true := by
              have h9 : (!(g.mem.getD 0 default).up) = false := hu
              rw [Bool.not_eq_false'] at h9
              exact h9
            have hd' : (g.mem.getD (Int.toNat 0) default).up = true := hd
            have h7 := rcv_state hn1 hI.snd.opn hd
            conv => whnf
            repeat' first
              | (refine call_intro (hrv) ?_ (by first | exact .inl rfl | exact .inr ⟨rfl, rfl⟩); (conv => whnf))
              | (refine call_intro (awake26_spec) ?_ (by first | exact .inl rfl | exact .inr ⟨rfl, rfl⟩); (conv => whnf))
              | (refine bc_true (by assumption) ?_; (conv => whnf))
              | (refine bc_false (by assumption) ?_; (conv => whnf))
              | (refine bc_intro (fun _ => ?_) (fun _ => ?_) <;> (conv => whnf))
              | (refine need_intro ?_ ?_; (conv => whnf))
              | (refine wk_refl ?_; (conv => whnf))
              | (refine draw_intro (by kernel_rfl) ?_; (conv => whnf))
              | (refine ord_intro (by kernel_rfl) ?_; (conv => whnf))
            all_goals first
              | exact ⟨LeS.refl _, trivial⟩
              | (exfalso; simp only [h7] at *; simp at *; done)
              | exact ⟨Int.le_refl 0, by show (0 : Int) < (g.mem.length : Nat); omega⟩
              | trace_state
        all_goals exact ⟨Int.le_refl 0, by show (0 : Int) < (g.mem.length : Nat); omega⟩
      exact hb
    · have hrl := liver_spec0 g hlen
      have hrv := recoverp_spec g hgb
      conv => whnf
      repeat' first
        | (refine bc_true (by assumption) ?_; (conv => whnf))
        | (refine bc_false (by assumption) ?_; (conv => whnf))
        | (refine need_intro ?_ ?_; (conv => whnf))
        | (refine wk_refl ?_; (conv => whnf))
        | (refine draw_intro (by kernel_rfl) ?_; (conv => whnf))
        | (refine ord_intro (by kernel_rfl) ?_; (conv => whnf))
      · refine bc_intro (fun hu => ?_) (fun hu => ?_) <;> (conv => whnf)
        · have hd : (own0 g).up = false := by
            have h9 : (!(g.mem.getD 0 default).up) = true := hu
            rw [Bool.not_eq_true'] at h9
            exact h9
          have hd' : (g.mem.getD (Int.toNat 0) default).up = false := hd
          conv => whnf
          repeat' first
            | (refine call_intro (hrl) ?_ (by first | exact .inl rfl | exact .inr ⟨rfl, rfl⟩); (conv => whnf))
            | (refine bc_true (by assumption) ?_; (conv => whnf))
            | (refine bc_false (by assumption) ?_; (conv => whnf))
            | (refine need_intro ?_ ?_; (conv => whnf))
            | (refine wk_refl ?_; (conv => whnf))
            | (refine draw_intro (by kernel_rfl) ?_; (conv => whnf))
            | (refine ord_intro (by kernel_rfl) ?_; (conv => whnf))
          refine bc_intro (fun hz => ?_) (fun hz => ?_) <;> (conv => whnf)
          · have h15 := rcv_lost hn1 hd (live_heir (by simp only [beq_iff_eq] at hz; omega))
            conv => whnf
            repeat' first
              | (refine call_intro (hrv) ?_ (by first | exact .inl rfl | exact .inr ⟨rfl, rfl⟩); (conv => whnf))
              | (refine call_intro (awake26_spec) ?_ (by first | exact .inl rfl | exact .inr ⟨rfl, rfl⟩); (conv => whnf))
              | (refine bc_true (by assumption) ?_; (conv => whnf))
              | (refine bc_false (by assumption) ?_; (conv => whnf))
              | (refine bc_intro (fun _ => ?_) (fun _ => ?_) <;> (conv => whnf))
              | (refine need_intro ?_ ?_; (conv => whnf))
              | (refine wk_refl ?_; (conv => whnf))
              | (refine draw_intro (by kernel_rfl) ?_; (conv => whnf))
              | (refine ord_intro (by kernel_rfl) ?_; (conv => whnf))
            all_goals first
              | exact ⟨LeS.refl _, trivial⟩
              | (exfalso; simp only [h15] at *; simp at *; done)
              | trace_state
          · have hnh : ¬ heirG g.mem 0 < 0 := fun h => by
              have h9 := heir_live h
              rw [h9] at hz
              simp at hz
            obtain ⟨K, W, e1, e2, e3, e4, e5, m, m1, m2, m3⟩ := kept hI.snd hI.ev (by omega) hd hnh
            rw [e1] at hrv
            simp only at hrv
            have hck := checkr_spec K e5
            have hkl := e5.b.len
            have hk1 := e5.n1
            conv => whnf
            repeat' first
              | (refine call_intro (hrv) ?_ (by first | exact .inl rfl | exact .inr ⟨rfl, rfl⟩); (conv => whnf))
              | (refine call_intro (hck) ?_ (by first | exact .inl rfl | exact .inr ⟨rfl, rfl⟩); (conv => whnf))
              | (refine call_intro (cmpSr_spec _ _ _ _) ?_ (by first | exact .inl rfl | exact .inr ⟨rfl, rfl⟩); (conv => whnf))
              | (refine bc_true (by assumption) ?_; (conv => whnf))
              | (refine bc_false (by assumption) ?_; (conv => whnf))
              | (refine bc_intro (fun _ => ?_) (fun _ => ?_) <;> (conv => whnf))
              | (refine need_intro ?_ ?_; (conv => whnf))
              | (refine wk_refl ?_; (conv => whnf))
              | (refine draw_intro (by kernel_rfl) ?_; (conv => whnf))
              | (refine ord_intro (by kernel_rfl) ?_; (conv => whnf))
            all_goals try exact ⟨Int.le_refl 0, by show (0 : Int) < (g.mem.length : Nat); omega⟩
            all_goals try exact ⟨Int.le_refl 0, by show (0 : Int) < (K.mem.length : Nat); omega⟩
            all_goals try
              (exfalso
               have h9 : (!K.opn) = true := by assumption
               rw [e2] at h9
               cases h9)
            all_goals try
              (exfalso
               have h9 : ((K.mem.length : Int) != (g.mem.length : Int)) = true := by assumption
               rw [e3] at h9
               simp at h9
               done)
            all_goals try
              (exfalso
               have h9 : decide (cmpS (own0 g).copy.se (own0 g).copy.sv (own0 K).copy.se (own0 K).copy.sv ≥ 0) = true := by assumption
               rw [cmpS_lt e4] at h9
               cases h9)
            have hap := keep_apply hI m3
            rw [hI.pend, List.length_drop] at m1
            refine loop_auto [2, 5, 19, 20] [19] (fun x : Nat × Bool => match x with
                | (n, true) => [(22, .d (.int .i64 n)), (6, .osl 501 3 off (q.length - off))]
                | (n, false) => [(22, .d (.int .i64 n)), (6, .d (.list (q.length - off) 3 fun i j => cellOf encWr q (off + i) j))])
              (fun x => match x with
                | (n, true) => [(501, .row 58 3 q.length (cellOf encWr q))]
                | (n, false) => []) (fun x => x.1 ≤ m) (fun x => m - x.1) (0, true) ?_ (fun x hx => ?_) (by simp)
            · conv => whnf
              repeat' first
                | (refine bc_true (by assumption) ?_; (conv => whnf))
                | (refine bc_false (by assumption) ?_; (conv => whnf))
                | (refine bc_intro (fun _ => ?_) (fun _ => ?_) <;> (conv => whnf))
                | (refine need_intro ?_ ?_; (conv => whnf))
                | (refine wk_refl ?_; (conv => whnf))
                | (refine draw_intro (by kernel_rfl) ?_; (conv => whnf))
                | (refine ord_intro (by kernel_rfl) ?_; (conv => whnf))
              all_goals first | exact trivial | exact DLe.refl _ | exact RowLe.refl _ _ _ | exact ⟨rfl, rfl⟩ | exact ⟨rfl, rfl, rfl⟩ | trace_state
            · obtain ⟨n', fst⟩ := x
              simp only at hx
              have hsn : IntKind.i64.wrap ((n' : Int) + 1) = ((n' + 1 : Nat) : Int) := wrap_succ (n := 2000) (by omega) (by omega)
              cases fst with
              | true =>
                conv => whnf
                repeat' first
                  | (refine call_if (apply_cut rows q off n') (by first | exact .inl rfl | exact .inr ⟨rfl, rfl⟩) (need_intro ?_ ?_); (conv => whnf))
                  | (refine call_if (same_any) (by first | exact .inl rfl | exact .inr ⟨rfl, rfl⟩) (need_intro ?_ ?_); (conv => whnf))
                  | (refine call_intro (awake26_spec) ?_ (by first | exact .inl rfl | exact .inr ⟨rfl, rfl⟩); (conv => whnf))
                  | (refine NextVC.mk (n' + 1, false) ?_ ?_ ?_; (conv => whnf))
                  | (refine bc_true (by assumption) ?_; (conv => whnf))
                  | (refine bc_false (by assumption) ?_; (conv => whnf))
                  | (refine bc_intro (fun _ => ?_) (fun _ => ?_) <;> (conv => whnf))
                  | (refine need_intro ?_ ?_; (conv => whnf))
                  | (refine wk_refl ?_; (conv => whnf))
                  | (refine draw_intro (by kernel_rfl) ?_; (conv => whnf))
                  | (refine ord_intro (by kernel_rfl) ?_; (conv => whnf))
                all_goals first
                  | exact trivial
                  | exact DLe.refl _
                  | exact DLe.of_eq (by rw [hsn])
                  | omega
                  | exact ⟨LeS.refl _, trivial⟩
                  | exact ⟨Nat.le_trans apply_lenK (by omega), Nat.le_trans (mem_small e5.b 0).1 (by omega)⟩
                  | exact ⟨Int.le_refl 0, by show (0 : Int) < (K.mem.length : Nat); omega⟩
                  | (simp only [Option.getD]; exact ⟨⟨by omega, by simp⟩, by omega, by omega⟩)
                  | (simp only [Option.getD]; exact ⟨by omega, by omega, by omega⟩)
                  | (have hne : n' ≠ m := by
                       rintro rfl
                       have h9 : sameF (applyF rows ((q.drop off).take n')).1 (own0 K).copy.rows = false := by assumption
                       rw [hap, same_refl] at h9
                       cases h9
                     omega)
                  | (exfalso
                     simp only [decide_eq_false_iff_not, decide_eq_true_eq] at *
                     omega)
                  | trace_state
              | false =>
                conv => whnf
                repeat' first
                  | (refine call_if (apply_cut2 rows q off n') (by first | exact .inl rfl | exact .inr ⟨rfl, rfl⟩) (need_intro ?_ ?_); (conv => whnf))
                  | (refine call_if (same_any) (by first | exact .inl rfl | exact .inr ⟨rfl, rfl⟩) (need_intro ?_ ?_); (conv => whnf))
                  | (refine call_intro (awake26_spec) ?_ (by first | exact .inl rfl | exact .inr ⟨rfl, rfl⟩); (conv => whnf))
                  | (refine NextVC.mk (n' + 1, false) ?_ ?_ ?_; (conv => whnf))
                  | (refine bc_true (by assumption) ?_; (conv => whnf))
                  | (refine bc_false (by assumption) ?_; (conv => whnf))
                  | (refine bc_intro (fun _ => ?_) (fun _ => ?_) <;> (conv => whnf))
                  | (refine need_intro ?_ ?_; (conv => whnf))
                  | (refine wk_refl ?_; (conv => whnf))
                  | (refine draw_intro (by kernel_rfl) ?_; (conv => whnf))
                  | (refine ord_intro (by kernel_rfl) ?_; (conv => whnf))
                all_goals first
                  | exact trivial
                  | exact DLe.refl _
                  | exact DLe.of_eq (by rw [hsn])
                  | omega
                  | exact ⟨LeS.refl _, trivial⟩
                  | exact ⟨Nat.le_trans apply_lenK (by omega), Nat.le_trans (mem_small e5.b 0).1 (by omega)⟩
                  | exact ⟨Int.le_refl 0, by show (0 : Int) < (K.mem.length : Nat); omega⟩
                  | (simp only [Option.getD]; exact ⟨⟨by omega, by simp⟩, by omega, by omega⟩)
                  | (simp only [Option.getD]; exact ⟨by omega, by omega, by omega⟩)
                  | (have hne : n' ≠ m := by
                       rintro rfl
                       have h9 : sameF (applyF rows ((q.drop off).take n')).1 (own0 K).copy.rows = false := by assumption
                       rw [hap, same_refl] at h9
                       cases h9
                     omega)
                  | (exfalso
                     simp only [decide_eq_false_iff_not, decide_eq_true_eq] at *
                     omega)
                  | trace_state
        · have hd : (own0 g).up = true := by
            have h9 : (!(g.mem.getD 0 default).up) = false := hu
            rw [Bool.not_eq_false'] at h9
            exact h9
          have hd' : (g.mem.getD (Int.toNat 0) default).up = true := hd
          have h7 := rcv_state hn1 hI.snd.opn hd
          conv => whnf
          repeat' first
            | (refine call_intro (hrv) ?_ (by first | exact .inl rfl | exact .inr ⟨rfl, rfl⟩); (conv => whnf))
            | (refine call_intro (awake26_spec) ?_ (by first | exact .inl rfl | exact .inr ⟨rfl, rfl⟩); (conv => whnf))
            | (refine bc_true (by assumption) ?_; (conv => whnf))
            | (refine bc_false (by assumption) ?_; (conv => whnf))
            | (refine bc_intro (fun _ => ?_) (fun _ => ?_) <;> (conv => whnf))
            | (refine need_intro ?_ ?_; (conv => whnf))
            | (refine wk_refl ?_; (conv => whnf))
            | (refine draw_intro (by kernel_rfl) ?_; (conv => whnf))
            | (refine ord_intro (by kernel_rfl) ?_; (conv => whnf))
          all_goals first
            | exact ⟨LeS.refl _, trivial⟩
            | (exfalso; simp only [h7] at *; simp at *; done)
            | exact ⟨Int.le_refl 0, by show (0 : Int) < (g.mem.length : Nat); omega⟩
            | trace_state
      all_goals exact ⟨Int.le_refl 0, by show (0 : Int) < (g.mem.length : Nat); omega⟩
theorem takeoverKeeps_all (dss : List (List D)) (h : All2 (wfT Tryz.prog reachBytes 12) [22] dss) : Sx.Spec Tryz.prog GG 4 (svs Tryz.prog [22] dss) [] (.d (.bool true)) [] := by
  obtain ⟨x, rfl, hx⟩ := inv1 h
  obtain ⟨l, h1, h2, h3⟩ := ints_arg hx
  obtain ⟨_, _, rfl, _⟩ := hx
  exact (takeoverKeeps_law l h1).arg h2
end Go.Proofs.YtegbenagmciegaaGreatDoor
