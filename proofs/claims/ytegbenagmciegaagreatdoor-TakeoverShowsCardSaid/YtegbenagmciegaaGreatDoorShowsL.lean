/- Contracts of functions that the law reaches: YtegbenagmciegaaGreatDoorShowsL. Written for this claim. -/
import Derived.Test.YtegbenagmciegaaGreatDoorLawT2
import Derived.Test.YtegbenagmciegaaGreatDoorSxGrp9
namespace Go.Proofs.YtegbenagmciegaaGreatDoor
open Go Go.Sx Go.ChangeShapes Go.WideShapes Go.ChangeAt Go.WideMaps Go.WideElems Go.RowKit
set_option linter.unusedVariables false
set_option linter.unusedSimpArgs false
set_option maxRecDepth 100000
theorem copyB_small {c : CopyT} {n : Nat} (h : CopyB n c) (hn : n ≤ 1000000) : Small c := ⟨Nat.le_trans h.rows hn, Nat.le_trans h.pend hn, Nat.le_trans h.out.rows (by omega), Nat.le_trans h.inn.rows (by omega)⟩
theorem of_eq0 {n : Int} (h : (n == 0) = true) : n = 0 := by simpa using h
theorem changep_nil (g : GrpT) (c : CopyT) : (GrpB 1000 g ∧ Small c) → Sx.Spec Tryz.prog GG 51 [.agg (grpL g), .agg (copyL c), .d (.val (.slice none 0 0))] [] (.tup [.agg (grpL (changeG g c []).1), .d (.int .i64 (changeG g c []).2)]) [] := fun ⟨h, hs⟩ =>
  (changep_spec g c [] ⟨h, hs, by simp⟩).arg (LeL.cons (LeS.refl _) (LeL.cons (LeS.refl _) (LeL.cons (les_nil rfl) LeL.nil)))
set_option maxHeartbeats 8000000 in
theorem takeoverShows_law (l : List Int) (hl : ∀ x ∈ l, -9223372036854775808 ≤ x ∧ x < 9223372036854775808) : Sx.Spec Tryz.prog GG 8 [.d (encL encI 1 l)] [] (.d (.bool true)) [] := by
  have hv0 : ∀ (c : CopyT) (n : Nat), 1 ≤ n ∧ n ≤ 4 → Small c → validC c = true → Sx.Spec Tryz.prog GG 49 [.agg (grpL ⟨1, true, memG c n⟩)] [] (.tup [.agg (viewL (viewOf (own0 ⟨1, true, memG c n⟩))), .d (.int .i64 0)]) [] := fun c n hn hs hv => by
    have hs0 := snd_new (n := n) hn.1 (by omega) hv hs
    have hu : (own0 ⟨1, true, memG c n⟩).up = true := by
      have e : own0 ⟨1, true, memG c n⟩ = ⟨10 + ((0 : Nat) : Int), true, c⟩ := memG_get (by omega)
      rw [e]
    have := viewr_spec ⟨1, true, memG c n⟩ hs0.b
    rw [view_ok (by rw [owner_is hs0 hu]) rfl, owner_is hs0 hu] at this
    exact this
  refine spec_intro (E := EE) (fn := Tryz.f8) eok (by kernel_rfl) (by kernel_rfl) Tryz.call8 (by kernel_rfl) (by kernel_rfl) ?_
  conv => whnf
  repeat' first
    | (refine call_some (new_ex 2000 hl) (fun _ => by first | exact .inl rfl | exact .inr ⟨rfl, rfl⟩) ?_; rintro ⟨tl, ta⟩ hT; (conv => whnf))
    | (refine call_some_if (proper_ex _) (fun _ => by first | exact .inl rfl | exact .inr ⟨rfl, rfl⟩) (need_intro ?_ ?_); rintro ⟨k, t, k2, t2, b⟩ ⟨⟨h1, h2, h4⟩, h3⟩; (conv => whnf))
    | (refine call_some_if (group_ex _) (fun _ => by first | exact .inl rfl | exact .inr ⟨rfl, rfl⟩) (need_intro ?_ ?_); rintro ⟨⟨c, n⟩, b⟩ ⟨⟨hn, hv, hsm, hr, hse, hsv, hp⟩, h5⟩; (conv => whnf))
    | (refine call_intro (hv0 c n hn hsm hv) ?_ (by first | exact .inl rfl | exact .inr ⟨rfl, rfl⟩); (conv => whnf))
    | (refine bc_true (by assumption) ?_; (conv => whnf))
    | (refine bc_false (by assumption) ?_; (conv => whnf))
    | (refine need_intro ?_ ?_; (conv => whnf))
    | (refine wk_refl ?_; (conv => whnf))
    | (refine draw_intro (by kernel_rfl) ?_; (conv => whnf))
    | (refine ord_intro (by kernel_rfl) ?_; (conv => whnf))
  all_goals try simp only at *
  all_goals try first
    | assumption
    | exact ⟨by assumption, by assumption⟩
    | (exfalso; simp at *; done)
  have hI0 : EvM (k, t, k2, t2) 0 (memG c n) := by
    have := ev_new (c := c) (n := n) (by omega) (by omega) hv hsm (by omega) (by omega)
    rw [hr] at this
    exact this
  have hS0 := show_new (c := c) (n := n) (by omega) (by omega)
  have hl0 : (viewOf (own0 ⟨1, true, memG c n⟩)).rows.length ≤ 1000000 := (mem_small (g := ⟨1, true, memG c n⟩) hI0.b 0).1
  refine loop_auto [2, 3, 4, 5] [] (fun x : Nat × ViewT × GrpT × Nat => [(7, .d (.int .i64 x.1))]) (fun x => [(4, .box (grpL x.2.2.1)), (5, .box (viewL x.2.1)), (2000, tapeB tl x.2.2.2)])
    (fun x => x.1 ≤ 60 ∧ EvM (k, t, k2, t2) x.1 x.2.2.1.mem ∧ ShowI x.2.1 x.2.2.1 ∧ x.2.1.rows.length ≤ 1000000 ∧ TapeOk tl x.2.2.2) (fun x => 60 - x.1) (0, viewOf (own0 ⟨1, true, memG c n⟩), ⟨1, true, memG c n⟩, b) ?_ (fun x hx => ?_) ⟨by simp, hI0, hS0, hl0, h5⟩
  · conv => whnf
    repeat' first
      | (refine bc_true (by assumption) ?_; (conv => whnf))
      | (refine bc_false (by assumption) ?_; (conv => whnf))
      | (refine bc_intro (fun _ => ?_) (fun _ => ?_) <;> (conv => whnf))
      | (refine need_intro ?_ ?_; (conv => whnf))
      | (refine wk_refl ?_; (conv => whnf))
      | (refine draw_intro (by kernel_rfl) ?_; (conv => whnf))
      | (refine ord_intro (by kernel_rfl) ?_; (conv => whnf))
    all_goals first | exact trivial | exact DLe.refl _ | trace_state
  · obtain ⟨i, last, g, b⟩ := x
    obtain ⟨hi, hI, hS, hll, hb⟩ := hx
    simp only at hi hI hS hll hb
    have hsi : IntKind.i64.wrap ((i : Int) + 1) = ((i + 1 : Nat) : Int) := wrap_succ (n := 100) (by omega) (by omega)
    have hgb := hI.b (g := g)
    have hlen := hgb.len
    have hn1 := hI.n1
    have hrng := (hI.at (i := 0) (by omega)).rng
    have hem : emptyR (own0 g).copy.lk (own0 g).copy.lt (own0 g).copy.hk (own0 g).copy.ht = false := by
      simp only [CopyT.rng, Prod.mk.injEq] at hrng
      obtain ⟨r1, r2, r3, r4⟩ := hrng
      show emptyR (g.mem.getD 0 default).copy.lk (g.mem.getD 0 default).copy.lt (g.mem.getD 0 default).copy.hk (g.mem.getD 0 default).copy.ht = false
      rw [r1, r2, r3, r4]; exact h4
    have hsm0 : Small (own0 g).copy := mem_small hgb 0
    conv => whnf
    repeat' first
      | (refine call_some_if (left_ex _) (fun _ => by first | exact .inl rfl | exact .inr ⟨rfl, rfl⟩) (need_intro ?_ ?_); rintro ⟨v, b⟩ h6; (conv => whnf))
      | (refine call_some_if (next_ex _) (fun _ => by first | exact .inl rfl | exact .inr ⟨rfl, rfl⟩) (need_intro ?_ ?_); rintro ⟨v, b⟩ ⟨⟨q1, q2⟩, h6⟩; (conv => whnf))
      | (refine call_some_if (writeIn_ex _) (fun _ => by first | exact .inl rfl | exact .inr ⟨rfl, rfl⟩) (need_intro ?_ ?_); rintro ⟨⟨wk, wv, wd⟩, b⟩ ⟨⟨h7, h8⟩, h6⟩; (conv => whnf))
      | (refine call_some_if (member_ex _ g) (fun _ => by first | exact .inl rfl | exact .inr ⟨rfl, rfl⟩) (need_intro ?_ ?_); rintro ⟨id, b⟩ h6; (conv => whnf))
      | (refine call_if (propr_spec g (_, _, _)) (by first | exact .inl rfl | exact .inr ⟨rfl, rfl⟩) (need_intro ?_ ?_); (conv => whnf))
      | (refine call_if (replr_spec g _) (by first | exact .inl rfl | exact .inr ⟨rfl, rfl⟩) (need_intro ?_ ?_); (conv => whnf))
      | (refine call_if (commr_spec g) (by first | exact .inl rfl | exact .inr ⟨rfl, rfl⟩) (need_intro ?_ ?_); (conv => whnf))
      | (refine call_if (crashr_spec g _) (by first | exact .inl rfl | exact .inr ⟨rfl, rfl⟩) (need_intro ?_ ?_); (conv => whnf))
      | (refine call_if (takep_spec g) (by first | exact .inl rfl | exact .inr ⟨rfl, rfl⟩) (need_intro ?_ ?_); (conv => whnf))
      | (refine call_if (finishp_spec g) (by first | exact .inl rfl | exact .inr ⟨rfl, rfl⟩) (need_intro ?_ ?_); (conv => whnf))
      | (refine call_if (changep_nil g (own0 g).copy) (by first | exact .inl rfl | exact .inr ⟨rfl, rfl⟩) (need_intro ?_ ?_); (conv => whnf))
      | (refine call_intro (awake26_spec) ?_ (by first | exact .inl rfl | exact .inr ⟨rfl, rfl⟩); (conv => whnf))
      | (refine NextVC.mk (i + 1, last, g, b) ?_ ?_ ?_; (conv => whnf))
      | (refine bc_true (by assumption) ?_; (conv => whnf))
      | (refine bc_false (by assumption) ?_; (conv => whnf))
      | (refine bc_intro (fun _ => ?_) (fun _ => ?_) <;> (conv => whnf))
      | (refine need_intro ?_ ?_; (conv => whnf))
      | (refine wk_refl ?_; (conv => whnf))
      | (refine draw_intro (by kernel_rfl) ?_; (conv => whnf))
      | (refine ord_intro (by kernel_rfl) ?_; (conv => whnf))
    all_goals try first
      | exact trivial
      | assumption
      | omega
      | exact DLe.refl _
      | exact ⟨by assumption, by omega, by omega⟩
      | exact ⟨by assumption, hem⟩
      | exact ⟨by assumption, by omega⟩
      | exact ⟨by omega, by omega⟩
      | exact ⟨hgb, hsm0⟩
      | exact ⟨LeS.refl _, trivial⟩
      | exact DLe.of_eq (by rw [hsi])
      | exact ⟨Int.le_refl 0, by show (0 : Int) < (g.mem.length : Nat); omega⟩
      | exact ⟨by simp only [decide_eq_true_eq] at *; omega, hI.mono (by omega), hS, hll, by assumption⟩
      | (simp only [decide_eq_true_eq] at *; omega)
    all_goals first
      | (have hE' := ev_propose (w := (wk, wv, wd)) hI (of_neq0 (by assumption))
         exfalso
         have h9 := hE'.n1
         simp only [beq_iff_eq] at *
         omega)
      | (have hE' := ev_propose (w := (wk, wv, wd)) hI (of_neq0 (by assumption))
         have hJ' := show_propose (w := (wk, wv, wd)) hn1 hS (of_neq0 (by assumption))
         have hn' := hE'.n1
         have hvw := viewr_spec ((proposeG g (wk, wv, wd)).1) hE'.b
         have hvl := view_rows hE'.b
         have hyes := fun h9 => show_view hJ' h9
         have hno := fun h9 => show_none hn' hJ' h9
         generalize hvg : viewG ((proposeG g (wk, wv, wd)).1) = vg at *
         obtain ⟨v, e⟩ := vg
         simp only at hvw hvl hyes hno
         conv => whnf
         repeat' first
           | (refine call_intro (hvw) ?_ (by first | exact .inl rfl | exact .inr ⟨rfl, rfl⟩); (conv => whnf))
           | (refine call_intro (cmpSr_spec _ _ _ _) ?_ (by first | exact .inl rfl | exact .inr ⟨rfl, rfl⟩); (conv => whnf))
           | (refine call_if (sameRr_spec _ _) (by first | exact .inl rfl | exact .inr ⟨rfl, rfl⟩) (need_intro ?_ ?_); (conv => whnf))
           | (refine NextVC.mk (i + 1, (fun _ => v) (show (e == 0) = true by assumption), (proposeG g (wk, wv, wd)).1, b) ?_ ?_ ?_; (conv => whnf))
           | (refine NextVC.mk (i + 1, last, (proposeG g (wk, wv, wd)).1, b) ?_ ?_ ?_; (conv => whnf))
           | (refine bc_true (by assumption) ?_; (conv => whnf))
           | (refine bc_false (by assumption) ?_; (conv => whnf))
           | (refine bc_intro (fun _ => ?_) (fun _ => ?_) <;> (conv => whnf))
           | (refine need_intro ?_ ?_; (conv => whnf))
           | (refine wk_refl ?_; (conv => whnf))
           | (refine draw_intro (by kernel_rfl) ?_; (conv => whnf))
           | (refine ord_intro (by kernel_rfl) ?_; (conv => whnf))
         all_goals try simp only [decide_eq_true_eq, decide_eq_false_iff_not, bne_iff_ne, ne_eq, Bool.not_eq_true', Bool.not_eq_false', beq_iff_eq, beq_eq_false_iff_ne, Bool.or_eq_true] at *
         all_goals first
           | exact trivial
           | assumption
           | omega
           | exact DLe.refl _
           | exact DLe.of_eq (by rw [hsi])
           | exact ⟨by omega, by omega⟩
           | exact ⟨by omega, hE', hno (by assumption), hll, by assumption⟩
           | (have h9 := hyes (of_eq0 (by assumption))
              obtain ⟨e1, e2, e3⟩ := h9
              rw [← e1] at e3
              exact ⟨by omega, hE', e3, hvl, by assumption⟩)
           | (exfalso
              have h9 := hyes (by assumption)
              obtain ⟨e1, e2, e3⟩ := h9
              rw [← e1] at e2
              have h10 := later_cmp e2
              first
                | omega
                | (have h11 := h10.2 (by omega)
                   subst h11
                   first
                     | contradiction
                     | (have h12 : sameF last.rows last.rows = false := by assumption
                        rw [same_refl] at h12
                        cases h12)))
         done)
      | (have hE' := ev_replicate (id := id) hI (of_neq0 (by assumption))
         exfalso
         have h9 := hE'.n1
         simp only [beq_iff_eq] at *
         omega)
      | (have hE' := ev_replicate (id := id) hI (of_neq0 (by assumption))
         have hJ' := show_replicate (id := id) hn1 hS (of_neq0 (by assumption))
         have hn' := hE'.n1
         have hvw := viewr_spec ((replicateG g id).1) hE'.b
         have hvl := view_rows hE'.b
         have hyes := fun h9 => show_view hJ' h9
         have hno := fun h9 => show_none hn' hJ' h9
         generalize hvg : viewG ((replicateG g id).1) = vg at *
         obtain ⟨v, e⟩ := vg
         simp only at hvw hvl hyes hno
         conv => whnf
         repeat' first
           | (refine call_intro (hvw) ?_ (by first | exact .inl rfl | exact .inr ⟨rfl, rfl⟩); (conv => whnf))
           | (refine call_intro (cmpSr_spec _ _ _ _) ?_ (by first | exact .inl rfl | exact .inr ⟨rfl, rfl⟩); (conv => whnf))
           | (refine call_if (sameRr_spec _ _) (by first | exact .inl rfl | exact .inr ⟨rfl, rfl⟩) (need_intro ?_ ?_); (conv => whnf))
           | (refine NextVC.mk (i + 1, (fun _ => v) (show (e == 0) = true by assumption), (replicateG g id).1, b) ?_ ?_ ?_; (conv => whnf))
           | (refine NextVC.mk (i + 1, last, (replicateG g id).1, b) ?_ ?_ ?_; (conv => whnf))
           | (refine bc_true (by assumption) ?_; (conv => whnf))
           | (refine bc_false (by assumption) ?_; (conv => whnf))
           | (refine bc_intro (fun _ => ?_) (fun _ => ?_) <;> (conv => whnf))
           | (refine need_intro ?_ ?_; (conv => whnf))
           | (refine wk_refl ?_; (conv => whnf))
           | (refine draw_intro (by kernel_rfl) ?_; (conv => whnf))
           | (refine ord_intro (by kernel_rfl) ?_; (conv => whnf))
         all_goals try simp only [decide_eq_true_eq, decide_eq_false_iff_not, bne_iff_ne, ne_eq, Bool.not_eq_true', Bool.not_eq_false', beq_iff_eq, beq_eq_false_iff_ne, Bool.or_eq_true] at *
         all_goals first
           | exact trivial
           | assumption
           | omega
           | exact DLe.refl _
           | exact DLe.of_eq (by rw [hsi])
           | exact ⟨by omega, by omega⟩
           | exact ⟨by omega, hE', hno (by assumption), hll, by assumption⟩
           | (have h9 := hyes (of_eq0 (by assumption))
              obtain ⟨e1, e2, e3⟩ := h9
              rw [← e1] at e3
              exact ⟨by omega, hE', e3, hvl, by assumption⟩)
           | (exfalso
              have h9 := hyes (by assumption)
              obtain ⟨e1, e2, e3⟩ := h9
              rw [← e1] at e2
              have h10 := later_cmp e2
              first
                | omega
                | (have h11 := h10.2 (by omega)
                   subst h11
                   first
                     | contradiction
                     | (have h12 : sameF last.rows last.rows = false := by assumption
                        rw [same_refl] at h12
                        cases h12)))
         done)
      | (have hE' := ev_commitG hI (of_neq0 (by assumption))
         exfalso
         have h9 := hE'.n1
         simp only [beq_iff_eq] at *
         omega)
      | (have hE' := ev_commitG hI (of_neq0 (by assumption))
         have hJ' := show_commit hn1 hS (of_neq0 (by assumption))
         have hn' := hE'.n1
         have hvw := viewr_spec ((commitG g).1.1) hE'.b
         have hvl := view_rows hE'.b
         have hyes := fun h9 => show_view hJ' h9
         have hno := fun h9 => show_none hn' hJ' h9
         generalize hvg : viewG ((commitG g).1.1) = vg at *
         obtain ⟨v, e⟩ := vg
         simp only at hvw hvl hyes hno
         conv => whnf
         repeat' first
           | (refine call_intro (hvw) ?_ (by first | exact .inl rfl | exact .inr ⟨rfl, rfl⟩); (conv => whnf))
           | (refine call_intro (cmpSr_spec _ _ _ _) ?_ (by first | exact .inl rfl | exact .inr ⟨rfl, rfl⟩); (conv => whnf))
           | (refine call_if (sameRr_spec _ _) (by first | exact .inl rfl | exact .inr ⟨rfl, rfl⟩) (need_intro ?_ ?_); (conv => whnf))
           | (refine NextVC.mk (i + 1, (fun _ => v) (show (e == 0) = true by assumption), (commitG g).1.1, b) ?_ ?_ ?_; (conv => whnf))
           | (refine NextVC.mk (i + 1, last, (commitG g).1.1, b) ?_ ?_ ?_; (conv => whnf))
           | (refine bc_true (by assumption) ?_; (conv => whnf))
           | (refine bc_false (by assumption) ?_; (conv => whnf))
           | (refine bc_intro (fun _ => ?_) (fun _ => ?_) <;> (conv => whnf))
           | (refine need_intro ?_ ?_; (conv => whnf))
           | (refine wk_refl ?_; (conv => whnf))
           | (refine draw_intro (by kernel_rfl) ?_; (conv => whnf))
           | (refine ord_intro (by kernel_rfl) ?_; (conv => whnf))
         all_goals try simp only [decide_eq_true_eq, decide_eq_false_iff_not, bne_iff_ne, ne_eq, Bool.not_eq_true', Bool.not_eq_false', beq_iff_eq, beq_eq_false_iff_ne, Bool.or_eq_true] at *
         all_goals first
           | exact trivial
           | assumption
           | omega
           | exact DLe.refl _
           | exact DLe.of_eq (by rw [hsi])
           | exact ⟨by omega, by omega⟩
           | exact ⟨by omega, hE', hno (by assumption), hll, by assumption⟩
           | (have h9 := hyes (of_eq0 (by assumption))
              obtain ⟨e1, e2, e3⟩ := h9
              rw [← e1] at e3
              exact ⟨by omega, hE', e3, hvl, by assumption⟩)
           | (exfalso
              have h9 := hyes (by assumption)
              obtain ⟨e1, e2, e3⟩ := h9
              rw [← e1] at e2
              have h10 := later_cmp e2
              first
                | omega
                | (have h11 := h10.2 (by omega)
                   subst h11
                   first
                     | contradiction
                     | (have h12 : sameF last.rows last.rows = false := by assumption
                        rw [same_refl] at h12
                        cases h12)))
         done)
      | (have hE' := ev_crash (id := id) hI (of_neq0 (by assumption))
         exfalso
         have h9 := hE'.n1
         simp only [beq_iff_eq] at *
         omega)
      | (have hE' := ev_crash (id := id) hI (of_neq0 (by assumption))
         have hJ' := show_crash (id := id) hn1 hS (of_neq0 (by assumption))
         have hn' := hE'.n1
         have hvw := viewr_spec ((crashG g id).1) hE'.b
         have hvl := view_rows hE'.b
         have hyes := fun h9 => show_view hJ' h9
         have hno := fun h9 => show_none hn' hJ' h9
         generalize hvg : viewG ((crashG g id).1) = vg at *
         obtain ⟨v, e⟩ := vg
         simp only at hvw hvl hyes hno
         conv => whnf
         repeat' first
           | (refine call_intro (hvw) ?_ (by first | exact .inl rfl | exact .inr ⟨rfl, rfl⟩); (conv => whnf))
           | (refine call_intro (cmpSr_spec _ _ _ _) ?_ (by first | exact .inl rfl | exact .inr ⟨rfl, rfl⟩); (conv => whnf))
           | (refine call_if (sameRr_spec _ _) (by first | exact .inl rfl | exact .inr ⟨rfl, rfl⟩) (need_intro ?_ ?_); (conv => whnf))
           | (refine NextVC.mk (i + 1, (fun _ => v) (show (e == 0) = true by assumption), (crashG g id).1, b) ?_ ?_ ?_; (conv => whnf))
           | (refine NextVC.mk (i + 1, last, (crashG g id).1, b) ?_ ?_ ?_; (conv => whnf))
           | (refine bc_true (by assumption) ?_; (conv => whnf))
           | (refine bc_false (by assumption) ?_; (conv => whnf))
           | (refine bc_intro (fun _ => ?_) (fun _ => ?_) <;> (conv => whnf))
           | (refine need_intro ?_ ?_; (conv => whnf))
           | (refine wk_refl ?_; (conv => whnf))
           | (refine draw_intro (by kernel_rfl) ?_; (conv => whnf))
           | (refine ord_intro (by kernel_rfl) ?_; (conv => whnf))
         all_goals try simp only [decide_eq_true_eq, decide_eq_false_iff_not, bne_iff_ne, ne_eq, Bool.not_eq_true', Bool.not_eq_false', beq_iff_eq, beq_eq_false_iff_ne, Bool.or_eq_true] at *
         all_goals first
           | exact trivial
           | assumption
           | omega
           | exact DLe.refl _
           | exact DLe.of_eq (by rw [hsi])
           | exact ⟨by omega, by omega⟩
           | exact ⟨by omega, hE', hno (by assumption), hll, by assumption⟩
           | (have h9 := hyes (of_eq0 (by assumption))
              obtain ⟨e1, e2, e3⟩ := h9
              rw [← e1] at e3
              exact ⟨by omega, hE', e3, hvl, by assumption⟩)
           | (exfalso
              have h9 := hyes (by assumption)
              obtain ⟨e1, e2, e3⟩ := h9
              rw [← e1] at e2
              have h10 := later_cmp e2
              first
                | omega
                | (have h11 := h10.2 (by omega)
                   subst h11
                   first
                     | contradiction
                     | (have h12 : sameF last.rows last.rows = false := by assumption
                        rw [same_refl] at h12
                        cases h12)))
         done)
      | (have hE' := ev_take hI (of_neq0 (by assumption))
         exfalso
         have h9 := hE'.n1
         simp only [beq_iff_eq] at *
         omega)
      | (have hE' := ev_take hI (of_neq0 (by assumption))
         have hJ' := show_take hn1 hS (of_neq0 (by assumption))
         have hn' := hE'.n1
         have hvw := viewr_spec ((takeG g).1) hE'.b
         have hvl := view_rows hE'.b
         have hyes := fun h9 => show_view hJ' h9
         have hno := fun h9 => show_none hn' hJ' h9
         generalize hvg : viewG ((takeG g).1) = vg at *
         obtain ⟨v, e⟩ := vg
         simp only at hvw hvl hyes hno
         conv => whnf
         repeat' first
           | (refine call_intro (hvw) ?_ (by first | exact .inl rfl | exact .inr ⟨rfl, rfl⟩); (conv => whnf))
           | (refine call_intro (cmpSr_spec _ _ _ _) ?_ (by first | exact .inl rfl | exact .inr ⟨rfl, rfl⟩); (conv => whnf))
           | (refine call_if (sameRr_spec _ _) (by first | exact .inl rfl | exact .inr ⟨rfl, rfl⟩) (need_intro ?_ ?_); (conv => whnf))
           | (refine NextVC.mk (i + 1, (fun _ => v) (show (e == 0) = true by assumption), (takeG g).1, b) ?_ ?_ ?_; (conv => whnf))
           | (refine NextVC.mk (i + 1, last, (takeG g).1, b) ?_ ?_ ?_; (conv => whnf))
           | (refine bc_true (by assumption) ?_; (conv => whnf))
           | (refine bc_false (by assumption) ?_; (conv => whnf))
           | (refine bc_intro (fun _ => ?_) (fun _ => ?_) <;> (conv => whnf))
           | (refine need_intro ?_ ?_; (conv => whnf))
           | (refine wk_refl ?_; (conv => whnf))
           | (refine draw_intro (by kernel_rfl) ?_; (conv => whnf))
           | (refine ord_intro (by kernel_rfl) ?_; (conv => whnf))
         all_goals try simp only [decide_eq_true_eq, decide_eq_false_iff_not, bne_iff_ne, ne_eq, Bool.not_eq_true', Bool.not_eq_false', beq_iff_eq, beq_eq_false_iff_ne, Bool.or_eq_true] at *
         all_goals first
           | exact trivial
           | assumption
           | omega
           | exact DLe.refl _
           | exact DLe.of_eq (by rw [hsi])
           | exact ⟨by omega, by omega⟩
           | exact ⟨by omega, hE', hno (by assumption), hll, by assumption⟩
           | (have h9 := hyes (of_eq0 (by assumption))
              obtain ⟨e1, e2, e3⟩ := h9
              rw [← e1] at e3
              exact ⟨by omega, hE', e3, hvl, by assumption⟩)
           | (exfalso
              have h9 := hyes (by assumption)
              obtain ⟨e1, e2, e3⟩ := h9
              rw [← e1] at e2
              have h10 := later_cmp e2
              first
                | omega
                | (have h11 := h10.2 (by omega)
                   subst h11
                   first
                     | contradiction
                     | (have h12 : sameF last.rows last.rows = false := by assumption
                        rw [same_refl] at h12
                        cases h12)))
         done)
      | (have hE' := ev_finish hI (of_neq0 (by assumption))
         exfalso
         have h9 := hE'.n1
         simp only [beq_iff_eq] at *
         omega)
      | (have hE' := ev_finish hI (of_neq0 (by assumption))
         have hJ' := show_finish hn1 hS (of_neq0 (by assumption))
         have hn' := hE'.n1
         have hvw := viewr_spec ((finishG g).1.1) hE'.b
         have hvl := view_rows hE'.b
         have hyes := fun h9 => show_view hJ' h9
         have hno := fun h9 => show_none hn' hJ' h9
         generalize hvg : viewG ((finishG g).1.1) = vg at *
         obtain ⟨v, e⟩ := vg
         simp only at hvw hvl hyes hno
         conv => whnf
         repeat' first
           | (refine call_intro (hvw) ?_ (by first | exact .inl rfl | exact .inr ⟨rfl, rfl⟩); (conv => whnf))
           | (refine call_intro (cmpSr_spec _ _ _ _) ?_ (by first | exact .inl rfl | exact .inr ⟨rfl, rfl⟩); (conv => whnf))
           | (refine call_if (sameRr_spec _ _) (by first | exact .inl rfl | exact .inr ⟨rfl, rfl⟩) (need_intro ?_ ?_); (conv => whnf))
           | (refine NextVC.mk (i + 1, (fun _ => v) (show (e == 0) = true by assumption), (finishG g).1.1, b) ?_ ?_ ?_; (conv => whnf))
           | (refine NextVC.mk (i + 1, last, (finishG g).1.1, b) ?_ ?_ ?_; (conv => whnf))
           | (refine bc_true (by assumption) ?_; (conv => whnf))
           | (refine bc_false (by assumption) ?_; (conv => whnf))
           | (refine bc_intro (fun _ => ?_) (fun _ => ?_) <;> (conv => whnf))
           | (refine need_intro ?_ ?_; (conv => whnf))
           | (refine wk_refl ?_; (conv => whnf))
           | (refine draw_intro (by kernel_rfl) ?_; (conv => whnf))
           | (refine ord_intro (by kernel_rfl) ?_; (conv => whnf))
         all_goals try simp only [decide_eq_true_eq, decide_eq_false_iff_not, bne_iff_ne, ne_eq, Bool.not_eq_true', Bool.not_eq_false', beq_iff_eq, beq_eq_false_iff_ne, Bool.or_eq_true] at *
         all_goals first
           | exact trivial
           | assumption
           | omega
           | exact DLe.refl _
           | exact DLe.of_eq (by rw [hsi])
           | exact ⟨by omega, by omega⟩
           | exact ⟨by omega, hE', hno (by assumption), hll, by assumption⟩
           | (have h9 := hyes (of_eq0 (by assumption))
              obtain ⟨e1, e2, e3⟩ := h9
              rw [← e1] at e3
              exact ⟨by omega, hE', e3, hvl, by assumption⟩)
           | (exfalso
              have h9 := hyes (by assumption)
              obtain ⟨e1, e2, e3⟩ := h9
              rw [← e1] at e2
              have h10 := later_cmp e2
              first
                | omega
                | (have h11 := h10.2 (by omega)
                   subst h11
                   first
                     | contradiction
                     | (have h12 : sameF last.rows last.rows = false := by assumption
                        rw [same_refl] at h12
                        cases h12)))
         done)
      | (have hE' := ev_change hI (of_neq0 (by assumption))
         exfalso
         have h9 := hE'.n1
         simp only [beq_iff_eq] at *
         omega)
      | (have hE' := ev_change hI (of_neq0 (by assumption))
         have hJ' := show_change hn1 hS (of_neq0 (by assumption))
         have hn' := hE'.n1
         have hvw := viewr_spec ((changeG g (own0 g).copy []).1) hE'.b
         have hvl := view_rows hE'.b
         have hyes := fun h9 => show_view hJ' h9
         have hno := fun h9 => show_none hn' hJ' h9
         generalize hvg : viewG ((changeG g (own0 g).copy []).1) = vg at *
         obtain ⟨v, e⟩ := vg
         simp only at hvw hvl hyes hno
         conv => whnf
         repeat' first
           | (refine call_intro (hvw) ?_ (by first | exact .inl rfl | exact .inr ⟨rfl, rfl⟩); (conv => whnf))
           | (refine call_intro (cmpSr_spec _ _ _ _) ?_ (by first | exact .inl rfl | exact .inr ⟨rfl, rfl⟩); (conv => whnf))
           | (refine call_if (sameRr_spec _ _) (by first | exact .inl rfl | exact .inr ⟨rfl, rfl⟩) (need_intro ?_ ?_); (conv => whnf))
           | (refine NextVC.mk (i + 1, (fun _ => v) (show (e == 0) = true by assumption), (changeG g (own0 g).copy []).1, b) ?_ ?_ ?_; (conv => whnf))
           | (refine NextVC.mk (i + 1, last, (changeG g (own0 g).copy []).1, b) ?_ ?_ ?_; (conv => whnf))
           | (refine bc_true (by assumption) ?_; (conv => whnf))
           | (refine bc_false (by assumption) ?_; (conv => whnf))
           | (refine bc_intro (fun _ => ?_) (fun _ => ?_) <;> (conv => whnf))
           | (refine need_intro ?_ ?_; (conv => whnf))
           | (refine wk_refl ?_; (conv => whnf))
           | (refine draw_intro (by kernel_rfl) ?_; (conv => whnf))
           | (refine ord_intro (by kernel_rfl) ?_; (conv => whnf))
         all_goals try simp only [decide_eq_true_eq, decide_eq_false_iff_not, bne_iff_ne, ne_eq, Bool.not_eq_true', Bool.not_eq_false', beq_iff_eq, beq_eq_false_iff_ne, Bool.or_eq_true] at *
         all_goals first
           | exact trivial
           | assumption
           | omega
           | exact DLe.refl _
           | exact DLe.of_eq (by rw [hsi])
           | exact ⟨by omega, by omega⟩
           | exact ⟨by omega, hE', hno (by assumption), hll, by assumption⟩
           | (have h9 := hyes (of_eq0 (by assumption))
              obtain ⟨e1, e2, e3⟩ := h9
              rw [← e1] at e3
              exact ⟨by omega, hE', e3, hvl, by assumption⟩)
           | (exfalso
              have h9 := hyes (by assumption)
              obtain ⟨e1, e2, e3⟩ := h9
              rw [← e1] at e2
              have h10 := later_cmp e2
              first
                | omega
                | (have h11 := h10.2 (by omega)
                   subst h11
                   first
                     | contradiction
                     | (have h12 : sameF last.rows last.rows = false := by assumption
                        rw [same_refl] at h12
                        cases h12)))
         done)
      | trace_state
theorem takeoverShows_all (dss : List (List D)) (h : All2 (wfT Tryz.prog reachBytes 12) [22] dss) : Sx.Spec Tryz.prog GG 8 (svs Tryz.prog [22] dss) [] (.d (.bool true)) [] := by
  obtain ⟨x, rfl, hx⟩ := inv1 h
  obtain ⟨l, h1, h2, h3⟩ := ints_arg hx
  obtain ⟨_, _, rfl, _⟩ := hx
  exact (takeoverShows_law l h1).arg h2
end Go.Proofs.YtegbenagmciegaaGreatDoor
