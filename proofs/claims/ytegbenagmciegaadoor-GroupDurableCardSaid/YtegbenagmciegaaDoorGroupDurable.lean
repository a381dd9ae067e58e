/- The law GroupDurable: the walk through its code and the claim. -/
import Derived.Test.YtegbenagmciegaaDoorLawG
namespace Go.Proofs.YtegbenagmciegaaDoor
open Go Go.Sx Go.ChangeShapes Go.WideShapes Go.ChangeAt Go.WideMaps Go.WideElems Go.RowKit
set_option linter.unusedVariables false
set_option linter.unusedSimpArgs false
set_option maxRecDepth 100000
theorem of_eq0 {n : Int} (h : (n == 0) = true) : n = 0 := by simpa using h
set_option maxHeartbeats 8000000 in
theorem groupDurable_law (l : List Int) (hl : ∀ x ∈ l, -9223372036854775808 ≤ x ∧ x < 9223372036854775808) : Sx.Spec Tryd.prog GG 3 [.d (encL encI 1 l)] [] (.d (.bool true)) [] := by
  refine spec_intro (E := EE) (fn := Tryd.f3) eok (by kernel_rfl) (by kernel_rfl) Tryd.call3 (by kernel_rfl) (by kernel_rfl) ?_
  conv => whnf
  repeat' first
    | (refine call_some (new_ex 2000 hl) (fun _ => by first | exact .inl rfl | exact .inr ⟨rfl, rfl⟩) ?_; rintro ⟨tl, ta⟩ hT; (conv => whnf))
    | (refine call_some_if (proper_ex _) (fun _ => by first | exact .inl rfl | exact .inr ⟨rfl, rfl⟩) (need_intro ?_ ?_); rintro ⟨k, t, k2, t2, b⟩ ⟨⟨h1, h2, h4⟩, h3⟩; (conv => whnf))
    | (refine call_some_if (group_ex _) (fun _ => by first | exact .inl rfl | exact .inr ⟨rfl, rfl⟩) (need_intro ?_ ?_); rintro ⟨⟨c, n⟩, b⟩ ⟨⟨hn, hv, hsm, hr, hse, hsv, hp⟩, h5⟩; (conv => whnf))
    | (refine bc_true (by assumption) ?_; (conv => whnf))
    | (refine bc_false (by assumption) ?_; (conv => whnf))
    | (refine need_intro ?_ ?_; (conv => whnf))
    | (refine wk_refl ?_; (conv => whnf))
    | (refine draw_intro (by kernel_rfl) ?_; (conv => whnf))
    | (refine ord_intro (by kernel_rfl) ?_; (conv => whnf))
  all_goals try simp only at *
  have hml := memG_len (c := c) (n := n)
  all_goals try first
    | assumption
    | exact ⟨by assumption, by assumption⟩
    | (have hml := memG_len (c := c) (n := n); exact ⟨by omega, by omega⟩)
  have hI0 := dur_new (n := n) ⟨hn, hv⟩ hsm
  have e0 : (memG c n).getD 0 default = ⟨10 + ((0 : Nat) : Int), true, c⟩ := memG_get (by omega)
  rw [hr] at hI0
  have hc0 : ∀ j, cellOf encMem (memG c n) (Int.toNat 0) j = (encMem ⟨10 + ((0 : Nat) : Int), true, c⟩).getD j default := fun j => by
    unfold cellOf
    rw [show Int.toNat 0 = 0 from rfl, e0]
  refine loop_auto [2, 3, 4] [] (fun x : Nat × Int × GrpT × Nat => [(7, .d (.int .i64 x.1)), (5, .d (.int .i64 c.se)), (6, .d (.int .i64 x.2.1))]) (fun x => [(4, .box (grpL x.2.2.1)), (2000, tapeB tl x.2.2.2)])
    (fun x => x.1 ≤ 50 ∧ DurI (k, t, k2, t2) c.se x.2.1 x.2.2.1 ∧ TapeOk tl x.2.2.2) (fun x => 50 - x.1) (0, c.sv, ⟨1, true, memG c n⟩, b) ?_ (fun x hx => ?_) ⟨by simp, hI0, h5⟩
  · conv => whnf
    repeat' first
      | (refine bc_true (by assumption) ?_; (conv => whnf))
      | (refine bc_false (by assumption) ?_; (conv => whnf))
      | (refine bc_intro (fun _ => ?_) (fun _ => ?_) <;> (conv => whnf))
      | (refine need_intro ?_ ?_; (conv => whnf))
      | (refine wk_refl ?_; (conv => whnf))
      | (refine draw_intro (by kernel_rfl) ?_; (conv => whnf))
      | (refine ord_intro (by kernel_rfl) ?_; (conv => whnf))
    all_goals first | exact trivial | exact DLe.refl _ | exact DLe.of_eq (hc0 _) | trace_state
  · obtain ⟨i, dn, g, b⟩ := x
    obtain ⟨hi, hI, hb⟩ := hx
    simp only at hi hI hb
    have hsi : IntKind.i64.wrap ((i : Int) + 1) = ((i + 1 : Nat) : Int) := wrap_succ (n := 100) (by omega) (by omega)
    have hb0 := hI.snd.b
    have hrng := hI.rng
    simp only [CopyT.rng, Prod.mk.injEq] at hrng
    obtain ⟨r1, r2, r3, r4⟩ := hrng
    have hem : emptyR (own0 g).copy.lk (own0 g).copy.lt (own0 g).copy.hk (own0 g).copy.ht = false := by rw [r1, r2, r3, r4]; exact h4
    have hn1 := hI.snd.n1
    have hlen := hb0.len
    conv => whnf
    repeat' first
      | (refine call_some_if (left_ex _) (fun _ => by first | exact .inl rfl | exact .inr ⟨rfl, rfl⟩) (need_intro ?_ ?_); rintro ⟨v, b⟩ h6; (conv => whnf))
      | (refine call_some_if (next_ex _) (fun _ => by first | exact .inl rfl | exact .inr ⟨rfl, rfl⟩) (need_intro ?_ ?_); rintro ⟨v, b⟩ ⟨⟨q1, q2⟩, h6⟩; (conv => whnf))
      | (refine call_some_if (writeIn_ex _) (fun _ => by first | exact .inl rfl | exact .inr ⟨rfl, rfl⟩) (need_intro ?_ ?_); rintro ⟨⟨wk, wv, wd⟩, b⟩ ⟨⟨h7, h8⟩, h6⟩; (conv => whnf))
      | (refine call_some_if (member_ex _ g) (fun _ => by first | exact .inl rfl | exact .inr ⟨rfl, rfl⟩) (need_intro ?_ ?_); rintro ⟨id, b⟩ h6; (conv => whnf))
      | (refine call_if (propose_spec g (_, _, _)) (by first | exact .inl rfl | exact .inr ⟨rfl, rfl⟩) (need_intro ?_ ?_); (conv => whnf))
      | (refine call_if (replicate_spec g _) (by first | exact .inl rfl | exact .inr ⟨rfl, rfl⟩) (need_intro ?_ ?_); (conv => whnf))
      | (refine call_if (commitG_spec g) (by first | exact .inl rfl | exact .inr ⟨rfl, rfl⟩) (need_intro ?_ ?_); (conv => whnf))
      | (refine call_if (crash_spec g _) (by first | exact .inl rfl | exact .inr ⟨rfl, rfl⟩) (need_intro ?_ ?_); (conv => whnf))
      | (refine call_if (recruit_spec g _) (by first | exact .inl rfl | exact .inr ⟨rfl, rfl⟩) (need_intro ?_ ?_); (conv => whnf))
      | (refine call_intro (awake25_spec) ?_ (by first | exact .inl rfl | exact .inr ⟨rfl, rfl⟩); (conv => whnf))
      | (refine bc_true (by assumption) ?_; (conv => whnf))
      | (refine bc_false (by assumption) ?_; (conv => whnf))
      | (refine bc_intro (fun _ => ?_) (fun _ => ?_) <;> (conv => whnf))
      | (refine need_intro ?_ ?_; (conv => whnf))
      | (refine wk_refl ?_; (conv => whnf))
      | (refine draw_intro (by kernel_rfl) ?_; (conv => whnf))
      | (refine ord_intro (by kernel_rfl) ?_; (conv => whnf))
    all_goals try first
      | exact trivial
      | assumption
      | omega
      | exact DLe.refl _
      | exact ⟨by assumption, by omega, by omega⟩
      | exact ⟨by assumption, hem⟩
      | exact ⟨by assumption, by omega⟩
      | exact ⟨by omega, by omega⟩
    all_goals try first
      | exact ⟨LeS.refl _, trivial⟩
      | exact ⟨Int.le_refl 0, by show (0 : Int) < (g.mem.length : Nat); omega⟩
      | (exfalso
         have h9 : ((own0 g).copy.sv == dn) = false := by assumption
         rw [hI.sv] at h9
         simp at h9
         done)
    all_goals first
      | (have hI' := dur_propose (w := (wk, wv, wd)) hI (of_eq0 (by assumption))
         exfalso
         have h9 := hI'.snd.n1
         simp only [beq_iff_eq] at *
         omega)
      | (have hI' := dur_propose (w := (wk, wv, wd)) hI (of_eq0 (by assumption))
         have hw : dn = dn := rfl
         refine loop_auto [2, 3, 4, 5, 6, 7, 110, 111] [4, 2000] (fun j : Nat => [(112, .d (.int .i64 j))]) (fun j => []) (fun j => j ≤ ((proposeG g (wk, wv, wd)).1).mem.length) (fun j => ((proposeG g (wk, wv, wd)).1).mem.length - j) 0 ?_ (fun j hj => ?_) (by omega)
         · conv => whnf
           repeat' first
             | (refine bc_true (by assumption) ?_; (conv => whnf))
             | (refine bc_false (by assumption) ?_; (conv => whnf))
             | (refine bc_intro (fun _ => ?_) (fun _ => ?_) <;> (conv => whnf))
             | (refine need_intro ?_ ?_; (conv => whnf))
             | (refine wk_refl ?_; (conv => whnf))
             | (refine draw_intro (by kernel_rfl) ?_; (conv => whnf))
             | (refine ord_intro (by kernel_rfl) ?_; (conv => whnf))
           all_goals first | exact trivial | exact DLe.refl _
         · have hsj : IntKind.i64.wrap ((j : Int) + 1) = ((j + 1 : Nat) : Int) := wrap_succ (n := 2000) (by have := hI'.snd.n5; omega) (by omega)
           have hh := fun h h' => dur_has hI' (i := j) h h'
           have hsm' := fun q => dur_small hI' q
           conv => whnf
           repeat' first
             | (refine call_if (contains_spec _ _) (by first | exact .inl rfl | exact .inr ⟨rfl, rfl⟩) (need_intro ?_ ?_); (conv => whnf))
             | (refine NextVC.mk (i + 1, dn, (proposeG g (wk, wv, wd)).1, b) ?_ ?_ ?_; (conv => whnf))
             | (refine NextVC.mk (j + 1) ?_ ?_ ?_; (conv => whnf))
             | (refine bc_true (by assumption) ?_; (conv => whnf))
             | (refine bc_false (by assumption) ?_; (conv => whnf))
             | (refine bc_intro (fun _ => ?_) (fun _ => ?_) <;> (conv => whnf))
             | (refine need_intro ?_ ?_; (conv => whnf))
             | (refine wk_refl ?_; (conv => whnf))
             | (refine draw_intro (by kernel_rfl) ?_; (conv => whnf))
             | (refine ord_intro (by kernel_rfl) ?_; (conv => whnf))
           all_goals try simp only [decide_eq_true_eq, decide_eq_false_iff_not, Int.toNat_natCast, bne_iff_ne, ne_eq, Bool.not_eq_true', Bool.not_eq_false'] at *
           all_goals first
             | exact trivial
             | omega
             | exact DLe.refl _
             | exact hsm' _
             | exact DLe.of_eq (by rw [hsj])
             | exact DLe.of_eq (by rw [hsi])
             | exact DLe.of_eq (by rw [hw])
             | exact ⟨by omega, by omega⟩
             | exact ⟨by omega, hI', by assumption⟩
             | (exfalso
                have h9 := hh (by omega) (by assumption)
                have h10 := h9.1
                have h11 := h9.2
                first
                  | contradiction
                  | omega)
         done)
      | (have hI' := dur_replicate (id := id) hI (of_eq0 (by assumption))
         exfalso
         have h9 := hI'.snd.n1
         simp only [beq_iff_eq] at *
         omega)
      | (have hI' := dur_replicate (id := id) hI (of_eq0 (by assumption))
         have hw : dn = dn := rfl
         refine loop_auto [2, 3, 4, 5, 6, 7, 110, 111] [4, 2000] (fun j : Nat => [(112, .d (.int .i64 j))]) (fun j => []) (fun j => j ≤ ((replicateG g id).1).mem.length) (fun j => ((replicateG g id).1).mem.length - j) 0 ?_ (fun j hj => ?_) (by omega)
         · conv => whnf
           repeat' first
             | (refine bc_true (by assumption) ?_; (conv => whnf))
             | (refine bc_false (by assumption) ?_; (conv => whnf))
             | (refine bc_intro (fun _ => ?_) (fun _ => ?_) <;> (conv => whnf))
             | (refine need_intro ?_ ?_; (conv => whnf))
             | (refine wk_refl ?_; (conv => whnf))
             | (refine draw_intro (by kernel_rfl) ?_; (conv => whnf))
             | (refine ord_intro (by kernel_rfl) ?_; (conv => whnf))
           all_goals first | exact trivial | exact DLe.refl _
         · have hsj : IntKind.i64.wrap ((j : Int) + 1) = ((j + 1 : Nat) : Int) := wrap_succ (n := 2000) (by have := hI'.snd.n5; omega) (by omega)
           have hh := fun h h' => dur_has hI' (i := j) h h'
           have hsm' := fun q => dur_small hI' q
           conv => whnf
           repeat' first
             | (refine call_if (contains_spec _ _) (by first | exact .inl rfl | exact .inr ⟨rfl, rfl⟩) (need_intro ?_ ?_); (conv => whnf))
             | (refine NextVC.mk (i + 1, dn, (replicateG g id).1, b) ?_ ?_ ?_; (conv => whnf))
             | (refine NextVC.mk (j + 1) ?_ ?_ ?_; (conv => whnf))
             | (refine bc_true (by assumption) ?_; (conv => whnf))
             | (refine bc_false (by assumption) ?_; (conv => whnf))
             | (refine bc_intro (fun _ => ?_) (fun _ => ?_) <;> (conv => whnf))
             | (refine need_intro ?_ ?_; (conv => whnf))
             | (refine wk_refl ?_; (conv => whnf))
             | (refine draw_intro (by kernel_rfl) ?_; (conv => whnf))
             | (refine ord_intro (by kernel_rfl) ?_; (conv => whnf))
           all_goals try simp only [decide_eq_true_eq, decide_eq_false_iff_not, Int.toNat_natCast, bne_iff_ne, ne_eq, Bool.not_eq_true', Bool.not_eq_false'] at *
           all_goals first
             | exact trivial
             | omega
             | exact DLe.refl _
             | exact hsm' _
             | exact DLe.of_eq (by rw [hsj])
             | exact DLe.of_eq (by rw [hsi])
             | exact DLe.of_eq (by rw [hw])
             | exact ⟨by omega, by omega⟩
             | exact ⟨by omega, hI', by assumption⟩
             | (exfalso
                have h9 := hh (by omega) (by assumption)
                have h10 := h9.1
                have h11 := h9.2
                first
                  | contradiction
                  | omega)
         done)
      | (have hI' := dur_crash (id := id) hI (of_eq0 (by assumption))
         exfalso
         have h9 := hI'.snd.n1
         simp only [beq_iff_eq] at *
         omega)
      | (have hI' := dur_crash (id := id) hI (of_eq0 (by assumption))
         have hw : dn = dn := rfl
         refine loop_auto [2, 3, 4, 5, 6, 7, 110, 111] [4, 2000] (fun j : Nat => [(112, .d (.int .i64 j))]) (fun j => []) (fun j => j ≤ ((crashG g id).1).mem.length) (fun j => ((crashG g id).1).mem.length - j) 0 ?_ (fun j hj => ?_) (by omega)
         · conv => whnf
           repeat' first
             | (refine bc_true (by assumption) ?_; (conv => whnf))
             | (refine bc_false (by assumption) ?_; (conv => whnf))
             | (refine bc_intro (fun _ => ?_) (fun _ => ?_) <;> (conv => whnf))
             | (refine need_intro ?_ ?_; (conv => whnf))
             | (refine wk_refl ?_; (conv => whnf))
             | (refine draw_intro (by kernel_rfl) ?_; (conv => whnf))
             | (refine ord_intro (by kernel_rfl) ?_; (conv => whnf))
           all_goals first | exact trivial | exact DLe.refl _
         · have hsj : IntKind.i64.wrap ((j : Int) + 1) = ((j + 1 : Nat) : Int) := wrap_succ (n := 2000) (by have := hI'.snd.n5; omega) (by omega)
           have hh := fun h h' => dur_has hI' (i := j) h h'
           have hsm' := fun q => dur_small hI' q
           conv => whnf
           repeat' first
             | (refine call_if (contains_spec _ _) (by first | exact .inl rfl | exact .inr ⟨rfl, rfl⟩) (need_intro ?_ ?_); (conv => whnf))
             | (refine NextVC.mk (i + 1, dn, (crashG g id).1, b) ?_ ?_ ?_; (conv => whnf))
             | (refine NextVC.mk (j + 1) ?_ ?_ ?_; (conv => whnf))
             | (refine bc_true (by assumption) ?_; (conv => whnf))
             | (refine bc_false (by assumption) ?_; (conv => whnf))
             | (refine bc_intro (fun _ => ?_) (fun _ => ?_) <;> (conv => whnf))
             | (refine need_intro ?_ ?_; (conv => whnf))
             | (refine wk_refl ?_; (conv => whnf))
             | (refine draw_intro (by kernel_rfl) ?_; (conv => whnf))
             | (refine ord_intro (by kernel_rfl) ?_; (conv => whnf))
           all_goals try simp only [decide_eq_true_eq, decide_eq_false_iff_not, Int.toNat_natCast, bne_iff_ne, ne_eq, Bool.not_eq_true', Bool.not_eq_false'] at *
           all_goals first
             | exact trivial
             | omega
             | exact DLe.refl _
             | exact hsm' _
             | exact DLe.of_eq (by rw [hsj])
             | exact DLe.of_eq (by rw [hsi])
             | exact DLe.of_eq (by rw [hw])
             | exact ⟨by omega, by omega⟩
             | exact ⟨by omega, hI', by assumption⟩
             | (exfalso
                have h9 := hh (by omega) (by assumption)
                have h10 := h9.1
                have h11 := h9.2
                first
                  | contradiction
                  | omega)
         done)
      | (have hI' := dur_recruit (id := IntKind.i64.wrap (80 + v)) hI (of_eq0 (by assumption))
         exfalso
         have h9 := hI'.snd.n1
         simp only [beq_iff_eq] at *
         omega)
      | (have hI' := dur_recruit (id := IntKind.i64.wrap (80 + v)) hI (of_eq0 (by assumption))
         have hw : dn = dn := rfl
         refine loop_auto [2, 3, 4, 5, 6, 7, 110, 111] [4, 2000] (fun j : Nat => [(112, .d (.int .i64 j))]) (fun j => []) (fun j => j ≤ ((recruitG g (IntKind.i64.wrap (80 + v))).1).mem.length) (fun j => ((recruitG g (IntKind.i64.wrap (80 + v))).1).mem.length - j) 0 ?_ (fun j hj => ?_) (by omega)
         · conv => whnf
           repeat' first
             | (refine bc_true (by assumption) ?_; (conv => whnf))
             | (refine bc_false (by assumption) ?_; (conv => whnf))
             | (refine bc_intro (fun _ => ?_) (fun _ => ?_) <;> (conv => whnf))
             | (refine need_intro ?_ ?_; (conv => whnf))
             | (refine wk_refl ?_; (conv => whnf))
             | (refine draw_intro (by kernel_rfl) ?_; (conv => whnf))
             | (refine ord_intro (by kernel_rfl) ?_; (conv => whnf))
           all_goals first | exact trivial | exact DLe.refl _
         · have hsj : IntKind.i64.wrap ((j : Int) + 1) = ((j + 1 : Nat) : Int) := wrap_succ (n := 2000) (by have := hI'.snd.n5; omega) (by omega)
           have hh := fun h h' => dur_has hI' (i := j) h h'
           have hsm' := fun q => dur_small hI' q
           conv => whnf
           repeat' first
             | (refine call_if (contains_spec _ _) (by first | exact .inl rfl | exact .inr ⟨rfl, rfl⟩) (need_intro ?_ ?_); (conv => whnf))
             | (refine NextVC.mk (i + 1, dn, (recruitG g (IntKind.i64.wrap (80 + v))).1, b) ?_ ?_ ?_; (conv => whnf))
             | (refine NextVC.mk (j + 1) ?_ ?_ ?_; (conv => whnf))
             | (refine bc_true (by assumption) ?_; (conv => whnf))
             | (refine bc_false (by assumption) ?_; (conv => whnf))
             | (refine bc_intro (fun _ => ?_) (fun _ => ?_) <;> (conv => whnf))
             | (refine need_intro ?_ ?_; (conv => whnf))
             | (refine wk_refl ?_; (conv => whnf))
             | (refine draw_intro (by kernel_rfl) ?_; (conv => whnf))
             | (refine ord_intro (by kernel_rfl) ?_; (conv => whnf))
           all_goals try simp only [decide_eq_true_eq, decide_eq_false_iff_not, Int.toNat_natCast, bne_iff_ne, ne_eq, Bool.not_eq_true', Bool.not_eq_false'] at *
           all_goals first
             | exact trivial
             | omega
             | exact DLe.refl _
             | exact hsm' _
             | exact DLe.of_eq (by rw [hsj])
             | exact DLe.of_eq (by rw [hsi])
             | exact DLe.of_eq (by rw [hw])
             | exact ⟨by omega, by omega⟩
             | exact ⟨by omega, hI', by assumption⟩
             | (exfalso
                have h9 := hh (by omega) (by assumption)
                have h10 := h9.1
                have h11 := h9.2
                first
                  | contradiction
                  | omega)
         done)
      | (have hI' := (dur_commit hI (of_eq0 (by assumption))).1
         exfalso
         have h9 := hI'.snd.n1
         simp only [beq_iff_eq] at *
         omega)
      | (exfalso
         simp only [beq_iff_eq] at *
         omega)
      | (have hI2 := dur_commit hI (of_eq0 (by assumption))
         have hI' := hI2.1
         have hw : IntKind.i64.wrap (dn + 1) = dn + 1 := wrap_of (by omega) (by omega)
         refine loop_auto [2, 3, 4, 5, 6, 7, 110, 111] [4, 2000] (fun j : Nat => [(112, .d (.int .i64 j))]) (fun j => []) (fun j => j ≤ ((commitG g).1.1).mem.length) (fun j => ((commitG g).1.1).mem.length - j) 0 ?_ (fun j hj => ?_) (by omega)
         · conv => whnf
           repeat' first
             | (refine bc_true (by assumption) ?_; (conv => whnf))
             | (refine bc_false (by assumption) ?_; (conv => whnf))
             | (refine bc_intro (fun _ => ?_) (fun _ => ?_) <;> (conv => whnf))
             | (refine need_intro ?_ ?_; (conv => whnf))
             | (refine wk_refl ?_; (conv => whnf))
             | (refine draw_intro (by kernel_rfl) ?_; (conv => whnf))
             | (refine ord_intro (by kernel_rfl) ?_; (conv => whnf))
           all_goals first | exact trivial | exact DLe.refl _
         · have hsj : IntKind.i64.wrap ((j : Int) + 1) = ((j + 1 : Nat) : Int) := wrap_succ (n := 2000) (by have := hI'.snd.n5; omega) (by omega)
           have hh := fun h h' => dur_has hI' (i := j) h h'
           have hsm' := fun q => dur_small hI' q
           conv => whnf
           repeat' first
             | (refine call_if (contains_spec _ _) (by first | exact .inl rfl | exact .inr ⟨rfl, rfl⟩) (need_intro ?_ ?_); (conv => whnf))
             | (refine NextVC.mk (i + 1, (dn + 1), (commitG g).1.1, b) ?_ ?_ ?_; (conv => whnf))
             | (refine NextVC.mk (j + 1) ?_ ?_ ?_; (conv => whnf))
             | (refine bc_true (by assumption) ?_; (conv => whnf))
             | (refine bc_false (by assumption) ?_; (conv => whnf))
             | (refine bc_intro (fun _ => ?_) (fun _ => ?_) <;> (conv => whnf))
             | (refine need_intro ?_ ?_; (conv => whnf))
             | (refine wk_refl ?_; (conv => whnf))
             | (refine draw_intro (by kernel_rfl) ?_; (conv => whnf))
             | (refine ord_intro (by kernel_rfl) ?_; (conv => whnf))
           all_goals try simp only [decide_eq_true_eq, decide_eq_false_iff_not, Int.toNat_natCast, bne_iff_ne, ne_eq, Bool.not_eq_true', Bool.not_eq_false'] at *
           all_goals first
             | exact trivial
             | omega
             | exact DLe.refl _
             | exact hsm' _
             | exact DLe.of_eq (by rw [hsj])
             | exact DLe.of_eq (by rw [hsi])
             | exact DLe.of_eq (by rw [hw])
             | exact ⟨by omega, by omega⟩
             | exact ⟨by omega, hI', by assumption⟩
             | (exfalso
                have h9 := hh (by omega) (by assumption)
                have h10 := h9.1
                have h11 := h9.2
                first
                  | contradiction
                  | omega)
         done)
      | (have hI' := hI
         have hw : dn = dn := rfl
         refine loop_auto [2, 3, 4, 5, 6, 7, 110, 111] [4, 2000] (fun j : Nat => [(112, .d (.int .i64 j))]) (fun j => []) (fun j => j ≤ (g).mem.length) (fun j => (g).mem.length - j) 0 ?_ (fun j hj => ?_) (by omega)
         · conv => whnf
           repeat' first
             | (refine bc_true (by assumption) ?_; (conv => whnf))
             | (refine bc_false (by assumption) ?_; (conv => whnf))
             | (refine bc_intro (fun _ => ?_) (fun _ => ?_) <;> (conv => whnf))
             | (refine need_intro ?_ ?_; (conv => whnf))
             | (refine wk_refl ?_; (conv => whnf))
             | (refine draw_intro (by kernel_rfl) ?_; (conv => whnf))
             | (refine ord_intro (by kernel_rfl) ?_; (conv => whnf))
           all_goals first | exact trivial | exact DLe.refl _
         · have hsj : IntKind.i64.wrap ((j : Int) + 1) = ((j + 1 : Nat) : Int) := wrap_succ (n := 2000) (by have := hI'.snd.n5; omega) (by omega)
           have hh := fun h h' => dur_has hI' (i := j) h h'
           have hsm' := fun q => dur_small hI' q
           conv => whnf
           repeat' first
             | (refine call_if (contains_spec _ _) (by first | exact .inl rfl | exact .inr ⟨rfl, rfl⟩) (need_intro ?_ ?_); (conv => whnf))
             | (refine NextVC.mk (i + 1, dn, g, b) ?_ ?_ ?_; (conv => whnf))
             | (refine NextVC.mk (j + 1) ?_ ?_ ?_; (conv => whnf))
             | (refine bc_true (by assumption) ?_; (conv => whnf))
             | (refine bc_false (by assumption) ?_; (conv => whnf))
             | (refine bc_intro (fun _ => ?_) (fun _ => ?_) <;> (conv => whnf))
             | (refine need_intro ?_ ?_; (conv => whnf))
             | (refine wk_refl ?_; (conv => whnf))
             | (refine draw_intro (by kernel_rfl) ?_; (conv => whnf))
             | (refine ord_intro (by kernel_rfl) ?_; (conv => whnf))
           all_goals try simp only [decide_eq_true_eq, decide_eq_false_iff_not, Int.toNat_natCast, bne_iff_ne, ne_eq, Bool.not_eq_true', Bool.not_eq_false'] at *
           all_goals first
             | exact trivial
             | omega
             | exact DLe.refl _
             | exact hsm' _
             | exact DLe.of_eq (by rw [hsj])
             | exact DLe.of_eq (by rw [hsi])
             | exact DLe.of_eq (by rw [hw])
             | exact ⟨by omega, by omega⟩
             | exact ⟨by omega, hI', by assumption⟩
             | (exfalso
                have h9 := hh (by omega) (by assumption)
                have h10 := h9.1
                have h11 := h9.2
                first
                  | contradiction
                  | omega)
         done)
      | trace_state
theorem groupDurable_all (dss : List (List D)) (h : All2 (wfT Tryd.prog reachBytes 12) [22] dss) : Sx.Spec Tryd.prog GG 3 (svs Tryd.prog [22] dss) [] (.d (.bool true)) [] := by
  obtain ⟨x, rfl, hx⟩ := inv1 h
  obtain ⟨l, h1, h2, h3⟩ := ints_arg hx
  obtain ⟨_, _, rfl, _⟩ := hx
  exact (groupDurable_law l h1).arg h2
theorem groupDurable_lifted (os : Os) (started : os.Started) (H : Type) (enc : TypeId × Value → H) :
    ReturnsInHanded {} Tryd.checked os 3 .any (fun w args => (Rows.groupDurableSpec.pre enc Tryd.prog Tryd.f3 [] false w args ∧ laidMetH Tryd.prog laidL w) ∧ sizedMet enc Tryd.prog Tryd.f3 (OpenSpec.ofChange Rows.groupDurableSpec) false w args)
      (Rows.groupDurableSpec.post enc Tryd.prog Tryd.f3 false true false false) := by
  refine returnsInHanded_of_change_and (C := Tryd.checked) (X := fun w _ => laidMetH Tryd.prog laidL w) (fun _ _ _ hh h => h.of_heap hh) own started (by kernel_rfl) Tryd.func3
    (ChangeSpec.witness_shaped (enc := enc) (C := Tryd.checked) (os := os) (X := fun w _ => laidMetH Tryd.prog laidL w) false (World.doorLaid Tryd.prog 400 os) #[.slice none 0 0] 8 rfl (World.shaped_of_RefB (by kernel_rfl) (by kernel_rfl)) (by kernel_rfl) (by kernel_rfl) (by kernel_rfl) (door_met os _)) ?_
  intro W base args ds gs before hval hW hcnd hsz hL _
  refine law_contract (P := Tryd.prog) (ts := [22]) (bt := 4) (G := GG) laidOut (by rw [Tryd.params3]) (by kernel_rfl) Tryd.underlying4 (by kernel_rfl) rfl ?_ groupDurable_all hval hW hsz (gok hL)
  intro ds h
  match ds, h with
  | [_], _ => rfl
theorem groupDurable_over : Rows.groupDurableRow.holds Tryd.pinned (OpenSpec.ofChange Rows.groupDurableSpec) :=
  OpenClaim.holds_of_wide 3 Tryd.f3 rfl rfl rfl rfl rfl rfl rfl ⟨rfl, rfl, rfl, rfl, rfl⟩ rfl rfl rfl rfl rfl (by kernel_rfl) Tryd.func3 (by kernel_rfl)
    (of_decide_eq_true (by kernel_rfl)) (by unfold Func.isWrapper; first | (rw [if_pos (by decide +kernel)]; kernel_rfl) | (rw [if_neg (by decide +kernel)]; exact ⟨rfl, rfl⟩))
    (fun os started H enc _ => groupDurable_lifted os started H enc)
theorem groupDurable_plain : ∀ t ∈ [22], Tryd.prog.wantsStandIn t = false := by
  intro t ht
  simp only [List.mem_cons, List.not_mem_nil, or_false] at ht
  rcases ht with rfl <;> kernel_rfl
theorem groupDurable_proved : Rows.GroupDurableCardSaid :=
  Claim7.holds_tied_plain_at .later [] [.data] true (true, "799aac668b55922899e7f152319e0f580bbd25d9568e1a4f3f498f4db6bcb55f") false
    groupDurable_over (fun _ h => by cases h) (by kernel_rfl) (fun _ h => by cases h) groupDurable_row_tie rfl ⟨rfl, rfl⟩ (by kernel_rfl) rfl
    (fun f fn hf hfn => by
      obtain rfl : f = 3 := Option.some.inj ((show Tryd.prog.funcNamed Rows.groupDurableRow.func = some 3 by kernel_rfl).symm.trans hf) |>.symm
      obtain rfl : fn = Tryd.f3 := (Option.some.inj (Tryd.func3.symm.trans hfn)).symm
      exact ⟨by kernel_rfl, fun j t ht => groupDurable_plain t (by
        rw [Tryd.params3] at ht
        exact List.mem_of_getElem? (by simpa using ht))⟩)
    (by kernel_rfl)
#print axioms groupDurable_proved
end Go.Proofs.YtegbenagmciegaaDoor
