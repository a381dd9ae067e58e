/- The law GroupReads: the walk through its code and the claim. -/
import Derived.Test.YtegbenagmciegaaDoorLawG
namespace Go.Proofs.YtegbenagmciegaaDoor
open Go Go.Sx Go.ChangeShapes Go.WideShapes Go.ChangeAt Go.WideMaps Go.WideElems Go.RowKit
set_option linter.unusedVariables false
set_option linter.unusedSimpArgs false
set_option maxRecDepth 100000
theorem of_eq0 {n : Int} (h : (n == 0) = true) : n = 0 := by simpa using h
theorem getC_ok {c : CopyT} {k : List UInt8} (h : (getC c k).2.2 = 0) : (getC c k).1 = (getF c.rows k).1 ∧ (getC c k).2.1 = (getF c.rows k).2 := by
  unfold getC at h ⊢
  split
  · exact ⟨rfl, rfl⟩
  · rename_i hn; rw [if_neg hn] at h; cases h
set_option maxHeartbeats 8000000 in
theorem groupReads_law (l : List Int) (hl : ∀ x ∈ l, -9223372036854775808 ≤ x ∧ x < 9223372036854775808) : Sx.Spec Tryd.prog GG 4 [.d (encL encI 1 l)] [] (.d (.bool true)) [] := by
  refine spec_intro (E := EE) (fn := Tryd.f4) eok (by kernel_rfl) (by kernel_rfl) Tryd.call4 (by kernel_rfl) (by kernel_rfl) ?_
  conv => whnf
  repeat' first
    | (refine call_some (new_ex 2000 hl) (fun _ => by first | exact .inl rfl | exact .inr ⟨rfl, rfl⟩) ?_; rintro ⟨tl, ta⟩ hT; (conv => whnf))
    | (refine call_some_if (proper_ex _) (fun _ => by first | exact .inl rfl | exact .inr ⟨rfl, rfl⟩) (need_intro ?_ ?_); rintro ⟨k, t, k2, t2, b⟩ ⟨⟨h1, h2, h4⟩, h3⟩; (conv => whnf))
    | (refine call_some_if (group_ex _) (fun _ => by first | exact .inl rfl | exact .inr ⟨rfl, rfl⟩) (need_intro ?_ ?_); rintro ⟨⟨c, n⟩, b⟩ ⟨⟨hn, hv, hsm, hr, hse, hsv, hp⟩, h5⟩; (conv => whnf))
    | (refine bc_true (by assumption) ?_; (conv => whnf))
    | (refine bc_false (by assumption) ?_; (conv => whnf))
    | (refine need_intro ?_ ?_; (conv => whnf))
    | (refine wk_refl ?_; (conv => whnf))
    | (refine draw_intro (by kernel_rfl) ?_; (conv => whnf))
    | (refine ord_intro (by kernel_rfl) ?_; (conv => whnf))
  all_goals try simp only at *
  have hml := memG_len (c := c) (n := n)
  all_goals try first
    | assumption
    | exact ⟨by assumption, by assumption⟩
    | (have hml := memG_len (c := c) (n := n); exact ⟨by omega, by omega⟩)
  have hI0 := read_new (n := n) ⟨hn, hv⟩ hsm
  have e0 : (memG c n).getD 0 default = ⟨10 + ((0 : Nat) : Int), true, c⟩ := memG_get (by omega)
  rw [hr] at hI0
  have hc0 : ∀ j, cellOf encMem (memG c n) (Int.toNat 0) j = (encMem ⟨10 + ((0 : Nat) : Int), true, c⟩).getD j default := fun j => by
    unfold cellOf
    rw [show Int.toNat 0 = 0 from rfl, e0]
  refine loop_auto [2, 3, 4, 6] [] (fun x : Nat × List Row × Int × Int × GrpT × Nat => [(7, .d (.int .i64 x.1)), (5, .d (encL encRow 2 x.2.1))]) (fun x => [(4, .box (grpL x.2.2.2.2.1)), (6, .box [.d (.int .i64 x.2.2.1), .d (.int .i64 x.2.2.2.1)]), (2000, tapeB tl x.2.2.2.2.2)])
    (fun x => x.1 ≤ 50 ∧ ReadI (k, t, k2, t2) x.2.1 x.2.2.1 x.2.2.2.1 x.2.2.2.2.1 ∧ TapeOk tl x.2.2.2.2.2) (fun x => 50 - x.1) (0, c.rows, c.se, c.sv, ⟨1, true, memG c n⟩, b) ?_ (fun x hx => ?_) ⟨by simp, hI0, h5⟩
  · conv => whnf
    repeat' first
      | (refine bc_true (by assumption) ?_; (conv => whnf))
      | (refine bc_false (by assumption) ?_; (conv => whnf))
      | (refine bc_intro (fun _ => ?_) (fun _ => ?_) <;> (conv => whnf))
      | (refine need_intro ?_ ?_; (conv => whnf))
      | (refine wk_refl ?_; (conv => whnf))
      | (refine draw_intro (by kernel_rfl) ?_; (conv => whnf))
      | (refine ord_intro (by kernel_rfl) ?_; (conv => whnf))
    all_goals first | exact trivial | exact DLe.refl _ | exact DLe.of_eq (hc0 _) | trace_state
  · obtain ⟨i, rows, se, sv, g, b⟩ := x
    obtain ⟨hi, hI, hb⟩ := hx
    simp only at hi hI hb
    have hsi : IntKind.i64.wrap ((i : Int) + 1) = ((i + 1 : Nat) : Int) := wrap_succ (n := 100) (by omega) (by omega)
    have hb0 := hI.snd.b
    have hrng := hI.rng
    simp only [CopyT.rng, Prod.mk.injEq] at hrng
    obtain ⟨r1, r2, r3, r4⟩ := hrng
    have hem : emptyR (own0 g).copy.lk (own0 g).copy.lt (own0 g).copy.hk (own0 g).copy.ht = false := by rw [r1, r2, r3, r4]; exact h4
    have hn1 := hI.snd.n1
    have hlen := hb0.len
    conv => whnf
    repeat' first
      | (refine call_some_if (left_ex _) (fun _ => by first | exact .inl rfl | exact .inr ⟨rfl, rfl⟩) (need_intro ?_ ?_); rintro ⟨v, b⟩ h6; (conv => whnf))
      | (refine call_some_if (next_ex _) (fun _ => by first | exact .inl rfl | exact .inr ⟨rfl, rfl⟩) (need_intro ?_ ?_); rintro ⟨v, b⟩ ⟨⟨q1, q2⟩, h6⟩; (conv => whnf))
      | (refine call_some_if (writeIn_ex _) (fun _ => by first | exact .inl rfl | exact .inr ⟨rfl, rfl⟩) (need_intro ?_ ?_); rintro ⟨⟨wk, wv, wd⟩, b⟩ ⟨⟨h7, h8⟩, h6⟩; (conv => whnf))
      | (refine call_some_if (member_ex _ g) (fun _ => by first | exact .inl rfl | exact .inr ⟨rfl, rfl⟩) (need_intro ?_ ?_); rintro ⟨id, b⟩ h6; (conv => whnf))
      | (refine call_if (propose_spec g (_, _, _)) (by first | exact .inl rfl | exact .inr ⟨rfl, rfl⟩) (need_intro ?_ ?_); (conv => whnf))
      | (refine call_if (replicate_spec g _) (by first | exact .inl rfl | exact .inr ⟨rfl, rfl⟩) (need_intro ?_ ?_); (conv => whnf))
      | (refine call_if (commitG_spec g) (by first | exact .inl rfl | exact .inr ⟨rfl, rfl⟩) (need_intro ?_ ?_); (conv => whnf))
      | (refine call_intro (awake25_spec) ?_ (by first | exact .inl rfl | exact .inr ⟨rfl, rfl⟩); (conv => whnf))
      | (refine bc_true (by assumption) ?_; (conv => whnf))
      | (refine bc_false (by assumption) ?_; (conv => whnf))
      | (refine bc_intro (fun _ => ?_) (fun _ => ?_) <;> (conv => whnf))
      | (refine need_intro ?_ ?_; (conv => whnf))
      | (refine wk_refl ?_; (conv => whnf))
      | (refine draw_intro (by kernel_rfl) ?_; (conv => whnf))
      | (refine ord_intro (by kernel_rfl) ?_; (conv => whnf))
    all_goals try first
      | exact trivial
      | assumption
      | omega
      | exact DLe.refl _
      | exact ⟨by assumption, by omega, by omega⟩
      | exact ⟨by assumption, hem⟩
      | exact ⟨by assumption, by omega⟩
      | exact ⟨by omega, by omega⟩
    all_goals try first
      | exact ⟨LeS.refl _, trivial⟩
      | exact ⟨Int.le_refl 0, by show (0 : Int) < (g.mem.length : Nat); omega⟩
    all_goals first
      | (have hI' := read_propose (w := (wk, wv, wd)) hI (of_eq0 (by assumption))
         exfalso
         have h9 := hI'.snd.n1
         simp only [beq_iff_eq] at *
         omega)
      | (have hI' := read_propose (w := (wk, wv, wd)) hI (of_eq0 (by assumption))
         have hs' := hI'.snd
         have ho' := owner_is hs' hI'.up
         have hvw : Sx.Spec Tryd.prog GG 19 [.agg (grpL (proposeG g (wk, wv, wd)).1)] [] (.tup [.agg [.d (.int .i64 (own0 (proposeG g (wk, wv, wd)).1).id), .d (.str (own0 (proposeG g (wk, wv, wd)).1).copy.lk), .d (.bool (own0 (proposeG g (wk, wv, wd)).1).copy.lt), .d (.str (own0 (proposeG g (wk, wv, wd)).1).copy.hk), .d (.bool (own0 (proposeG g (wk, wv, wd)).1).copy.ht), .d (.int .i64 se), .d (.int .i64 sv), .d (encL encRow 2 rows)], .d (.int .i64 0)]) [] := by
           have h9 := viewp_spec (proposeG g (wk, wv, wd)).1 hs'.b
           rw [view_ok (by rw [ho']) hs'.opn, ho'] at h9
           rw [← hI'.rows, ← hI'.se, ← hI'.sv]
           exact h9
         have hgt : ∀ q, Sx.Spec Tryd.prog GG 23 [.agg (grpL (proposeG g (wk, wv, wd)).1), .d (.str q)] [] (.tup [.d (.str (getC (own0 (proposeG g (wk, wv, wd)).1).copy q).1), .d (.bool (getC (own0 (proposeG g (wk, wv, wd)).1).copy q).2.1), .d (.int .i64 (getC (own0 (proposeG g (wk, wv, wd)).1).copy q).2.2)]) [] := fun q => by
           have h9 := getgp_spec (proposeG g (wk, wv, wd)).1 q hs'.b
           rw [getG_ok (by rw [ho']) hs'.opn, ho'] at h9
           exact h9
         have hrl : (rows).length ≤ 1000000 := by rw [← hI'.rows]; exact (mem_small hs'.b 0).1
         have hsr : Sx.Spec Tryd.prog GG 25 [.d (encL encRow 2 rows), .d (encL encRow 2 rows)] [] (.d (.bool true)) [] := by
           have h9 := sameRr_spec rows rows ⟨Nat.le_trans hrl (by omega), Nat.le_trans hrl (by omega)⟩
           rw [same_refl] at h9
           exact h9
         have hgo := fun q => getC_ok (c := (own0 (proposeG g (wk, wv, wd)).1).copy) (k := q)
         rw [hI'.rows] at hgo
         conv => whnf
         repeat' first
           | (refine call_intro (hvw) ?_ (by first | exact .inl rfl | exact .inr ⟨rfl, rfl⟩); (conv => whnf))
           | (refine call_intro (hvw) ?_ (by first | exact .inl rfl | exact .inr ⟨rfl, rfl⟩); (conv => whnf))
           | (refine call_intro (cmpSr_spec _ _ _ _) ?_ (by first | exact .inl rfl | exact .inr ⟨rfl, rfl⟩); (conv => whnf))
           | (refine call_some_if (key_ex _) (fun _ => by first | exact .inl rfl | exact .inr ⟨rfl, rfl⟩) (need_intro ?_ ?_); rintro ⟨q, b⟩ ⟨q7, h6⟩; (conv => whnf))
           | (refine call_intro (hgt _) ?_ (by first | exact .inl rfl | exact .inr ⟨rfl, rfl⟩); (conv => whnf))
           | (refine call_if (getr_spec _ _) (by first | exact .inl rfl | exact .inr ⟨rfl, rfl⟩) (need_intro ?_ ?_); (conv => whnf))
           | (refine call_intro (hsr) ?_ (by first | exact .inl rfl | exact .inr ⟨rfl, rfl⟩); (conv => whnf))
           | (refine NextVC.mk (i + 1, rows, se, sv, (proposeG g (wk, wv, wd)).1, b) ?_ ?_ ?_; (conv => whnf))
           | (refine bc_true (by assumption) ?_; (conv => whnf))
           | (refine bc_false (by assumption) ?_; (conv => whnf))
           | (refine bc_intro (fun _ => ?_) (fun _ => ?_) <;> (conv => whnf))
           | (refine need_intro ?_ ?_; (conv => whnf))
           | (refine wk_refl ?_; (conv => whnf))
           | (refine draw_intro (by kernel_rfl) ?_; (conv => whnf))
           | (refine ord_intro (by kernel_rfl) ?_; (conv => whnf))
         all_goals try simp only [decide_eq_true_eq, decide_eq_false_iff_not, bne_iff_ne, ne_eq, Bool.not_eq_true', Bool.not_eq_false', beq_iff_eq, Bool.or_eq_true] at *
         all_goals first
           | exact trivial
           | assumption
           | omega
           | exact DLe.refl _
           | exact DLe.of_eq (by rw [hsi])
           | exact ⟨by omega, by omega⟩
           | exact ⟨by omega, hI', by assumption⟩
           | exact ⟨trivial, hwr⟩
           | exact ⟨rfl, hwr⟩
           | (exfalso
              have h9 := hgo _ (by assumption)
              have h10 := h9.1
              have h11 := h9.2
              first
                | contradiction
                | (simp_all; done))
           | (exfalso; rw [cmpS_next] at *; omega)
           | (exfalso; simp at *; done)
         done)
      | (have hI' := read_replicate (id := id) hI (of_eq0 (by assumption))
         exfalso
         have h9 := hI'.snd.n1
         simp only [beq_iff_eq] at *
         omega)
      | (have hI' := read_replicate (id := id) hI (of_eq0 (by assumption))
         have hs' := hI'.snd
         have ho' := owner_is hs' hI'.up
         have hvw : Sx.Spec Tryd.prog GG 19 [.agg (grpL (replicateG g id).1)] [] (.tup [.agg [.d (.int .i64 (own0 (replicateG g id).1).id), .d (.str (own0 (replicateG g id).1).copy.lk), .d (.bool (own0 (replicateG g id).1).copy.lt), .d (.str (own0 (replicateG g id).1).copy.hk), .d (.bool (own0 (replicateG g id).1).copy.ht), .d (.int .i64 se), .d (.int .i64 sv), .d (encL encRow 2 rows)], .d (.int .i64 0)]) [] := by
           have h9 := viewp_spec (replicateG g id).1 hs'.b
           rw [view_ok (by rw [ho']) hs'.opn, ho'] at h9
           rw [← hI'.rows, ← hI'.se, ← hI'.sv]
           exact h9
         have hgt : ∀ q, Sx.Spec Tryd.prog GG 23 [.agg (grpL (replicateG g id).1), .d (.str q)] [] (.tup [.d (.str (getC (own0 (replicateG g id).1).copy q).1), .d (.bool (getC (own0 (replicateG g id).1).copy q).2.1), .d (.int .i64 (getC (own0 (replicateG g id).1).copy q).2.2)]) [] := fun q => by
           have h9 := getgp_spec (replicateG g id).1 q hs'.b
           rw [getG_ok (by rw [ho']) hs'.opn, ho'] at h9
           exact h9
         have hrl : (rows).length ≤ 1000000 := by rw [← hI'.rows]; exact (mem_small hs'.b 0).1
         have hsr : Sx.Spec Tryd.prog GG 25 [.d (encL encRow 2 rows), .d (encL encRow 2 rows)] [] (.d (.bool true)) [] := by
           have h9 := sameRr_spec rows rows ⟨Nat.le_trans hrl (by omega), Nat.le_trans hrl (by omega)⟩
           rw [same_refl] at h9
           exact h9
         have hgo := fun q => getC_ok (c := (own0 (replicateG g id).1).copy) (k := q)
         rw [hI'.rows] at hgo
         conv => whnf
         repeat' first
           | (refine call_intro (hvw) ?_ (by first | exact .inl rfl | exact .inr ⟨rfl, rfl⟩); (conv => whnf))
           | (refine call_intro (hvw) ?_ (by first | exact .inl rfl | exact .inr ⟨rfl, rfl⟩); (conv => whnf))
           | (refine call_intro (cmpSr_spec _ _ _ _) ?_ (by first | exact .inl rfl | exact .inr ⟨rfl, rfl⟩); (conv => whnf))
           | (refine call_some_if (key_ex _) (fun _ => by first | exact .inl rfl | exact .inr ⟨rfl, rfl⟩) (need_intro ?_ ?_); rintro ⟨q, b⟩ ⟨q7, h6⟩; (conv => whnf))
           | (refine call_intro (hgt _) ?_ (by first | exact .inl rfl | exact .inr ⟨rfl, rfl⟩); (conv => whnf))
           | (refine call_if (getr_spec _ _) (by first | exact .inl rfl | exact .inr ⟨rfl, rfl⟩) (need_intro ?_ ?_); (conv => whnf))
           | (refine call_intro (hsr) ?_ (by first | exact .inl rfl | exact .inr ⟨rfl, rfl⟩); (conv => whnf))
           | (refine NextVC.mk (i + 1, rows, se, sv, (replicateG g id).1, b) ?_ ?_ ?_; (conv => whnf))
           | (refine bc_true (by assumption) ?_; (conv => whnf))
           | (refine bc_false (by assumption) ?_; (conv => whnf))
           | (refine bc_intro (fun _ => ?_) (fun _ => ?_) <;> (conv => whnf))
           | (refine need_intro ?_ ?_; (conv => whnf))
           | (refine wk_refl ?_; (conv => whnf))
           | (refine draw_intro (by kernel_rfl) ?_; (conv => whnf))
           | (refine ord_intro (by kernel_rfl) ?_; (conv => whnf))
         all_goals try simp only [decide_eq_true_eq, decide_eq_false_iff_not, bne_iff_ne, ne_eq, Bool.not_eq_true', Bool.not_eq_false', beq_iff_eq, Bool.or_eq_true] at *
         all_goals first
           | exact trivial
           | assumption
           | omega
           | exact DLe.refl _
           | exact DLe.of_eq (by rw [hsi])
           | exact ⟨by omega, by omega⟩
           | exact ⟨by omega, hI', by assumption⟩
           | exact ⟨trivial, hwr⟩
           | exact ⟨rfl, hwr⟩
           | (exfalso
              have h9 := hgo _ (by assumption)
              have h10 := h9.1
              have h11 := h9.2
              first
                | contradiction
                | (simp_all; done))
           | (exfalso; rw [cmpS_next] at *; omega)
           | (exfalso; simp at *; done)
         done)
      | (have hI' := (read_commit hI (of_eq0 (by assumption))).1
         exfalso
         have h9 := hI'.snd.n1
         simp only [beq_iff_eq] at *
         omega)
      | (exfalso
         simp only [beq_iff_eq] at *
         omega)
      | (have hI2 := read_commit hI (of_eq0 (by assumption))
         have hI' := hI2.1
         have hrl0 : rows.length ≤ 1000000 := by rw [← hI.rows]; exact (mem_small hb0 0).1
         have hwr : RowLe 1 3 (tabF (fun _ j => [D.str [], D.str [], D.bool false].getD j default) [(0, [D.str (commitG g).1.2.1, D.str (commitG g).1.2.2.1, D.bool (commitG g).1.2.2.2])]) (cellOf encWr [(commitG g).1.2]) := .of_eq (fun a j ha hj => by
           have : a = 0 := by omega
           subst this
           rfl)
         have hap : ∀ {m : Nat} {gf : Nat → Nat → D}, (m = 1 ∧ RowLe 1 3 gf (cellOf encWr [(commitG g).1.2])) → Sx.Spec Tryd.prog GG 20 [.d (encL encRow 2 rows), .d (.list m 3 gf)] [] (.tup [.d (encL encRow 2 (own0 (commitG g).1.1).copy.rows), .d (.int .i64 0)]) [] := by
           rintro m gf ⟨rfl, hgf⟩
           have h9 := (applyr_spec rows [(commitG g).1.2] (by simp)).arg (LeL.cons (LeS.refl _) (LeL.cons (LeS.d (DLe.rows rfl hgf)) LeL.nil))
           rw [hI2.2.1] at h9
           exact h9
         have hs' := hI'.snd
         have ho' := owner_is hs' hI'.up
         have hvw : Sx.Spec Tryd.prog GG 19 [.agg (grpL (commitG g).1.1)] [] (.tup [.agg [.d (.int .i64 (own0 (commitG g).1.1).id), .d (.str (own0 (commitG g).1.1).copy.lk), .d (.bool (own0 (commitG g).1.1).copy.lt), .d (.str (own0 (commitG g).1.1).copy.hk), .d (.bool (own0 (commitG g).1.1).copy.ht), .d (.int .i64 se), .d (.int .i64 (sv + 1)), .d (encL encRow 2 (own0 (commitG g).1.1).copy.rows)], .d (.int .i64 0)]) [] := by
           have h9 := viewp_spec (commitG g).1.1 hs'.b
           rw [view_ok (by rw [ho']) hs'.opn, ho'] at h9
           rw [← hI'.rows, ← hI'.se, ← hI'.sv]
           exact h9
         have hgt : ∀ q, Sx.Spec Tryd.prog GG 23 [.agg (grpL (commitG g).1.1), .d (.str q)] [] (.tup [.d (.str (getC (own0 (commitG g).1.1).copy q).1), .d (.bool (getC (own0 (commitG g).1.1).copy q).2.1), .d (.int .i64 (getC (own0 (commitG g).1.1).copy q).2.2)]) [] := fun q => by
           have h9 := getgp_spec (commitG g).1.1 q hs'.b
           rw [getG_ok (by rw [ho']) hs'.opn, ho'] at h9
           exact h9
         have hrl : ((own0 (commitG g).1.1).copy.rows).length ≤ 1000000 := by rw [← hI'.rows]; exact (mem_small hs'.b 0).1
         have hsr : Sx.Spec Tryd.prog GG 25 [.d (encL encRow 2 (own0 (commitG g).1.1).copy.rows), .d (encL encRow 2 (own0 (commitG g).1.1).copy.rows)] [] (.d (.bool true)) [] := by
           have h9 := sameRr_spec (own0 (commitG g).1.1).copy.rows (own0 (commitG g).1.1).copy.rows ⟨Nat.le_trans hrl (by omega), Nat.le_trans hrl (by omega)⟩
           rw [same_refl] at h9
           exact h9
         have hgo := fun q => getC_ok (c := (own0 (commitG g).1.1).copy) (k := q)
         rw [hI'.rows] at hgo
         conv => whnf
         repeat' first
           | (refine call_intro (hvw) ?_ (by first | exact .inl rfl | exact .inr ⟨rfl, rfl⟩); (conv => whnf))
           | (refine call_if (hap) (by first | exact .inl rfl | exact .inr ⟨rfl, rfl⟩) (need_intro ?_ ?_); (conv => whnf))
           | (refine call_intro (cmpSr_spec _ _ _ _) ?_ (by first | exact .inl rfl | exact .inr ⟨rfl, rfl⟩); (conv => whnf))
           | (refine call_some_if (key_ex _) (fun _ => by first | exact .inl rfl | exact .inr ⟨rfl, rfl⟩) (need_intro ?_ ?_); rintro ⟨q, b⟩ ⟨q7, h6⟩; (conv => whnf))
           | (refine call_intro (hgt _) ?_ (by first | exact .inl rfl | exact .inr ⟨rfl, rfl⟩); (conv => whnf))
           | (refine call_if (getr_spec _ _) (by first | exact .inl rfl | exact .inr ⟨rfl, rfl⟩) (need_intro ?_ ?_); (conv => whnf))
           | (refine call_intro (hsr) ?_ (by first | exact .inl rfl | exact .inr ⟨rfl, rfl⟩); (conv => whnf))
           | (refine NextVC.mk (i + 1, (own0 (commitG g).1.1).copy.rows, se, (sv + 1), (commitG g).1.1, b) ?_ ?_ ?_; (conv => whnf))
           | (refine bc_true (by assumption) ?_; (conv => whnf))
           | (refine bc_false (by assumption) ?_; (conv => whnf))
           | (refine bc_intro (fun _ => ?_) (fun _ => ?_) <;> (conv => whnf))
           | (refine need_intro ?_ ?_; (conv => whnf))
           | (refine wk_refl ?_; (conv => whnf))
           | (refine draw_intro (by kernel_rfl) ?_; (conv => whnf))
           | (refine ord_intro (by kernel_rfl) ?_; (conv => whnf))
         all_goals try simp only [decide_eq_true_eq, decide_eq_false_iff_not, bne_iff_ne, ne_eq, Bool.not_eq_true', Bool.not_eq_false', beq_iff_eq, Bool.or_eq_true] at *
         all_goals first
           | exact trivial
           | assumption
           | omega
           | exact DLe.refl _
           | exact DLe.of_eq (by rw [hsi])
           | exact ⟨by omega, by omega⟩
           | exact ⟨by omega, hI', by assumption⟩
           | exact ⟨trivial, hwr⟩
           | exact ⟨rfl, hwr⟩
           | (exfalso
              have h9 := hgo _ (by assumption)
              have h10 := h9.1
              have h11 := h9.2
              first
                | contradiction
                | (simp_all; done))
           | (exfalso; rw [cmpS_next] at *; omega)
           | (exfalso; simp at *; done)
         done)
      | (have hI' := hI
         have hs' := hI'.snd
         have ho' := owner_is hs' hI'.up
         have hvw : Sx.Spec Tryd.prog GG 19 [.agg (grpL g)] [] (.tup [.agg [.d (.int .i64 (own0 g).id), .d (.str (own0 g).copy.lk), .d (.bool (own0 g).copy.lt), .d (.str (own0 g).copy.hk), .d (.bool (own0 g).copy.ht), .d (.int .i64 se), .d (.int .i64 sv), .d (encL encRow 2 rows)], .d (.int .i64 0)]) [] := by
           have h9 := viewp_spec g hs'.b
           rw [view_ok (by rw [ho']) hs'.opn, ho'] at h9
           rw [← hI'.rows, ← hI'.se, ← hI'.sv]
           exact h9
         have hgt : ∀ q, Sx.Spec Tryd.prog GG 23 [.agg (grpL g), .d (.str q)] [] (.tup [.d (.str (getC (own0 g).copy q).1), .d (.bool (getC (own0 g).copy q).2.1), .d (.int .i64 (getC (own0 g).copy q).2.2)]) [] := fun q => by
           have h9 := getgp_spec g q hs'.b
           rw [getG_ok (by rw [ho']) hs'.opn, ho'] at h9
           exact h9
         have hrl : (rows).length ≤ 1000000 := by rw [← hI'.rows]; exact (mem_small hs'.b 0).1
         have hsr : Sx.Spec Tryd.prog GG 25 [.d (encL encRow 2 rows), .d (encL encRow 2 rows)] [] (.d (.bool true)) [] := by
           have h9 := sameRr_spec rows rows ⟨Nat.le_trans hrl (by omega), Nat.le_trans hrl (by omega)⟩
           rw [same_refl] at h9
           exact h9
         have hgo := fun q => getC_ok (c := (own0 g).copy) (k := q)
         rw [hI'.rows] at hgo
         conv => whnf
         repeat' first
           | (refine call_intro (hvw) ?_ (by first | exact .inl rfl | exact .inr ⟨rfl, rfl⟩); (conv => whnf))
           | (refine call_intro (hvw) ?_ (by first | exact .inl rfl | exact .inr ⟨rfl, rfl⟩); (conv => whnf))
           | (refine call_intro (cmpSr_spec _ _ _ _) ?_ (by first | exact .inl rfl | exact .inr ⟨rfl, rfl⟩); (conv => whnf))
           | (refine call_some_if (key_ex _) (fun _ => by first | exact .inl rfl | exact .inr ⟨rfl, rfl⟩) (need_intro ?_ ?_); rintro ⟨q, b⟩ ⟨q7, h6⟩; (conv => whnf))
           | (refine call_intro (hgt _) ?_ (by first | exact .inl rfl | exact .inr ⟨rfl, rfl⟩); (conv => whnf))
           | (refine call_if (getr_spec _ _) (by first | exact .inl rfl | exact .inr ⟨rfl, rfl⟩) (need_intro ?_ ?_); (conv => whnf))
           | (refine call_intro (hsr) ?_ (by first | exact .inl rfl | exact .inr ⟨rfl, rfl⟩); (conv => whnf))
           | (refine NextVC.mk (i + 1, rows, se, sv, g, b) ?_ ?_ ?_; (conv => whnf))
           | (refine bc_true (by assumption) ?_; (conv => whnf))
           | (refine bc_false (by assumption) ?_; (conv => whnf))
           | (refine bc_intro (fun _ => ?_) (fun _ => ?_) <;> (conv => whnf))
           | (refine need_intro ?_ ?_; (conv => whnf))
           | (refine wk_refl ?_; (conv => whnf))
           | (refine draw_intro (by kernel_rfl) ?_; (conv => whnf))
           | (refine ord_intro (by kernel_rfl) ?_; (conv => whnf))
         all_goals try simp only [decide_eq_true_eq, decide_eq_false_iff_not, bne_iff_ne, ne_eq, Bool.not_eq_true', Bool.not_eq_false', beq_iff_eq, Bool.or_eq_true] at *
         all_goals first
           | exact trivial
           | assumption
           | omega
           | exact DLe.refl _
           | exact DLe.of_eq (by rw [hsi])
           | exact ⟨by omega, by omega⟩
           | exact ⟨by omega, hI', by assumption⟩
           | exact ⟨trivial, hwr⟩
           | exact ⟨rfl, hwr⟩
           | (exfalso
              have h9 := hgo _ (by assumption)
              have h10 := h9.1
              have h11 := h9.2
              first
                | contradiction
                | (simp_all; done))
           | (exfalso; rw [cmpS_next] at *; omega)
           | (exfalso; simp at *; done)
         done)
      | trace_state
theorem groupReads_all (dss : List (List D)) (h : All2 (wfT Tryd.prog reachBytes 12) [22] dss) : Sx.Spec Tryd.prog GG 4 (svs Tryd.prog [22] dss) [] (.d (.bool true)) [] := by
  obtain ⟨x, rfl, hx⟩ := inv1 h
  obtain ⟨l, h1, h2, h3⟩ := ints_arg hx
  obtain ⟨_, _, rfl, _⟩ := hx
  exact (groupReads_law l h1).arg h2
theorem groupReads_lifted (os : Os) (started : os.Started) (H : Type) (enc : TypeId × Value → H) :
    ReturnsInHanded {} Tryd.checked os 4 .any (fun w args => (Rows.groupReadsSpec.pre enc Tryd.prog Tryd.f4 [] false w args ∧ laidMetH Tryd.prog laidL w) ∧ sizedMet enc Tryd.prog Tryd.f4 (OpenSpec.ofChange Rows.groupReadsSpec) false w args)
      (Rows.groupReadsSpec.post enc Tryd.prog Tryd.f4 false true false false) := by
  refine returnsInHanded_of_change_and (C := Tryd.checked) (X := fun w _ => laidMetH Tryd.prog laidL w) (fun _ _ _ hh h => h.of_heap hh) own started (by kernel_rfl) Tryd.func4
    (ChangeSpec.witness_shaped (enc := enc) (C := Tryd.checked) (os := os) (X := fun w _ => laidMetH Tryd.prog laidL w) false (World.doorLaid Tryd.prog 400 os) #[.slice none 0 0] 8 rfl (World.shaped_of_RefB (by kernel_rfl) (by kernel_rfl)) (by kernel_rfl) (by kernel_rfl) (by kernel_rfl) (door_met os _)) ?_
  intro W base args ds gs before hval hW hcnd hsz hL _
  refine law_contract (P := Tryd.prog) (ts := [22]) (bt := 4) (G := GG) laidOut (by rw [Tryd.params4]) (by kernel_rfl) Tryd.underlying4 (by kernel_rfl) rfl ?_ groupReads_all hval hW hsz (gok hL)
  intro ds h
  match ds, h with
  | [_], _ => rfl
theorem groupReads_over : Rows.groupReadsRow.holds Tryd.pinned (OpenSpec.ofChange Rows.groupReadsSpec) :=
  OpenClaim.holds_of_wide 4 Tryd.f4 rfl rfl rfl rfl rfl rfl rfl ⟨rfl, rfl, rfl, rfl, rfl⟩ rfl rfl rfl rfl rfl (by kernel_rfl) Tryd.func4 (by kernel_rfl)
    (of_decide_eq_true (by kernel_rfl)) (by unfold Func.isWrapper; first | (rw [if_pos (by decide +kernel)]; kernel_rfl) | (rw [if_neg (by decide +kernel)]; exact ⟨rfl, rfl⟩))
    (fun os started H enc _ => groupReads_lifted os started H enc)
theorem groupReads_plain : ∀ t ∈ [22], Tryd.prog.wantsStandIn t = false := by
  intro t ht
  simp only [List.mem_cons, List.not_mem_nil, or_false] at ht
  rcases ht with rfl <;> kernel_rfl
theorem groupReads_proved : Rows.GroupReadsCardSaid :=
  Claim7.holds_tied_plain_at .later [] [.data] true (true, "799aac668b55922899e7f152319e0f580bbd25d9568e1a4f3f498f4db6bcb55f") false
    groupReads_over (fun _ h => by cases h) (by kernel_rfl) (fun _ h => by cases h) groupReads_row_tie rfl ⟨rfl, rfl⟩ (by kernel_rfl) rfl
    (fun f fn hf hfn => by
      obtain rfl : f = 4 := Option.some.inj ((show Tryd.prog.funcNamed Rows.groupReadsRow.func = some 4 by kernel_rfl).symm.trans hf) |>.symm
      obtain rfl : fn = Tryd.f4 := (Option.some.inj (Tryd.func4.symm.trans hfn)).symm
      exact ⟨by kernel_rfl, fun j t ht => groupReads_plain t (by
        rw [Tryd.params4] at ht
        exact List.mem_of_getElem? (by simpa using ht))⟩)
    (by kernel_rfl)
#print axioms groupReads_proved
end Go.Proofs.YtegbenagmciegaaDoor
