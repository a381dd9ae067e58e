/- Contracts of functions that the law reaches: YtapddnfjngfloaaGreatDoorGrpX. Written for this claim. -/
import Derived.Test.YtapddnfjngfloaaGreatDoorGrpR
import Derived.Test.YtapddnfjngfloaaGreatDoorSxHan11
namespace Go.Proofs.YtapddnfjngfloaaGreatDoor
open Go Go.Sx Go.ChangeShapes Go.WideShapes Go.ChangeAt Go.RowKit
set_option linter.unusedVariables false
set_option linter.unusedSimpArgs false
set_option maxRecDepth 100000
theorem commitr_step (c : CopyT) (k : Nat) : (validC c = true ∧ k < c.pend.length ∧ c.sv + k < 1099511627776 ∧ SmallC c) → Sx.Spec Tryz.prog GG 106 [.agg (copyL (stepC c k))] [] (.tup [.agg (copyL (stepC c (k + 1))), .d (.int .i64 0)]) [] := by
  rintro ⟨h1, h2, h3, h4⟩
  have := commitr_spec (stepC c k) (smallC_of h4 (step_valid h1 (by omega) (by omega)).1 rfl rfl)
  rw [step_commit h1 h2 h3] at this
  exact this
theorem sameWr_cut (a : List Wr) {n : Nat} {gf : Nat → Nat → D} : ((n = a.length ∧ RowLe n 3 gf (cellOf encWr a)) ∧ a.length ≤ 1000) → Sx.Spec Tryz.prog GG 107 [.d (encL encWr 3 a), .d (.list n 3 gf)] [] (.d (.bool true)) [] := by
  rintro ⟨⟨rfl, hr⟩, hl⟩
  have := (sameWr_spec a a ⟨by omega, by omega⟩).arg (LeL.cons (LeS.refl _) (LeL.cons (LeS.d (DLe.rows rfl hr)) LeL.nil))
  rw [same_refl] at this
  exact this
set_option maxHeartbeats 2000000 in
theorem behindr_at (c : CopyT) (d : Nat) (t : List Wr) : (d ≤ c.pend.length ∧ validC c = true ∧ SmallC c ∧ c.sv + d ≤ 1099511627776 ∧ (c.pend.drop d ++ t).length ≤ 64) →
    Sx.Spec Tryz.prog GG 53 [.agg (copyL { c with sv := c.sv + d, rows := (goF c.rows (c.pend.take d)).1, pend := c.pend.drop d ++ t }), .agg (copyL c)] [] (.d (.bool true)) [] := by
  rintro ⟨hd, hv, hs, hsv, hl⟩
  have hi := valid_i64 hv
  have hw : IntKind.i64.wrap (c.sv + d - c.sv) = d := by rw [show c.sv + (d : Int) - c.sv = d by omega]; exact wrap_of (by omega) (by omega)
  have hdl : (c.pend.drop d).length ≤ (c.pend.drop d ++ t).length := by simp only [List.length_append]; omega
  obtain ⟨s1, s2, s3, s4⟩ := hs
  refine spec_intro (E := EE) (fn := Tryz.f53) eok (by kernel_rfl) (by kernel_rfl) Tryz.call53 (by kernel_rfl) (by kernel_rfl) ?_
  have hr := sameRngr_spec c.lk c.lt c.hk c.ht c.lk c.lt c.hk c.ht
  have e := sameRng_refl c.rng
  simp only [CopyT.rng] at e
  rw [e] at hr
  have hpo := samePartr_spec c.out c.out ⟨by omega, by omega⟩
  have hpi := samePartr_spec c.inn c.inn ⟨by omega, by omega⟩
  rw [samePart_refl] at hpo hpi
  conv => whnf
  repeat' first
    | (refine call_intro (hr) ?_ (by first | exact .inl rfl | exact .inr ⟨rfl, rfl⟩); (conv => whnf))
    | (refine call_intro (hpo) ?_ (by first | exact .inl rfl | exact .inr ⟨rfl, rfl⟩); (conv => whnf))
    | (refine call_intro (hpi) ?_ (by first | exact .inl rfl | exact .inr ⟨rfl, rfl⟩); (conv => whnf))
    | (refine bc_true (by assumption) ?_; (conv => whnf))
    | (refine bc_false (by assumption) ?_; (conv => whnf))
    | (refine bc_intro (fun _ => ?_) (fun _ => ?_) <;> (conv => whnf))
    | (refine need_intro ?_ ?_; (conv => whnf))
    | (refine wk_refl ?_; (conv => whnf))
    | (refine draw_intro (by kernel_rfl) ?_; (conv => whnf))
    | (refine ord_intro (by kernel_rfl) ?_; (conv => whnf))
  all_goals try simp only [hw] at *
  all_goals try (exfalso; simp at *; done)
  all_goals try (exfalso; simp at *; omega)
  refine loop_auto [2, 3, 4, 5] [2] (fun i : Nat => [(6, .d (.int .i64 i))]) (fun i => [(3, .box (copyL (stepC c i)))]) (fun i => i ≤ d) (fun i => d - i) 0 ?_ (fun i hi => ?_) (by omega)
  · conv => whnf
    repeat' first
      | (refine bc_true (by assumption) ?_; (conv => whnf))
      | (refine bc_false (by assumption) ?_; (conv => whnf))
      | (refine bc_intro (fun _ => ?_) (fun _ => ?_) <;> (conv => whnf))
      | (refine need_intro ?_ ?_; (conv => whnf))
      | (refine wk_refl ?_; (conv => whnf))
      | (refine draw_intro (by kernel_rfl) ?_; (conv => whnf))
      | (refine ord_intro (by kernel_rfl) ?_; (conv => whnf))
    all_goals first | exact trivial | exact DLe.refl _ | (rw [stepC_zero]; exact DLe.refl _) | trace_state
  · have hsi : IntKind.i64.wrap ((i : Int) + 1) = ((i + 1 : Nat) : Int) := wrap_succ (n := 2000) (by omega) (by omega)
    rcases Nat.lt_or_eq_of_le hi with hlt | rfl
    · have hlt' : decide ((i : Int) < (d : Int)) = true := decide_eq_true (by omega)
      conv => whnf
      repeat' first
        | (refine call_if (commitr_step c i) (by first | exact .inl rfl | exact .inr ⟨rfl, rfl⟩) (need_intro ?_ ?_); (conv => whnf))
        | (refine NextVC.mk (i + 1) ?_ ?_ ?_; (conv => whnf))
        | (refine bc_true (by assumption) ?_; (conv => whnf))
        | (refine bc_false (by assumption) ?_; (conv => whnf))
        | (refine bc_intro (fun _ => ?_) (fun _ => ?_) <;> (conv => whnf))
        | (refine need_intro ?_ ?_; (conv => whnf))
        | (refine wk_refl ?_; (conv => whnf))
        | (refine draw_intro (by kernel_rfl) ?_; (conv => whnf))
        | (refine ord_intro (by kernel_rfl) ?_; (conv => whnf))
      all_goals try simp only [hw] at *
      all_goals first
        | exact trivial
        | omega
        | exact DLe.refl _
        | exact DLe.of_eq (by rw [hsi])
        | exact ⟨hv, by omega, by omega, s1, s2, s3, s4⟩
        | (exfalso; rw [decide_eq_false_iff_not] at *; omega)
        | trace_state
    · have hlt' : decide ((i : Int) < (i : Int)) = false := decide_eq_false (by omega)
      have h1 : ((stepC c i).se == c.se && (stepC c i).sv == c.sv + (i : Int)) = true := by simp [stepC]
      have h2 : sameF (stepC c i).rows (goF c.rows (List.take i c.pend)).1 = true := same_refl _
      have h3 : decide ((((stepC c i).pend.length : Nat) : Int) ≤ (((c.pend.drop i ++ t).length : Nat) : Int)) = true := decide_eq_true (by simp only [stepC]; omega)
      have h4 := of_decide_eq_true h3
      have hrl : (goF c.rows (List.take i c.pend)).1.length ≤ 2000 := by
        have h5 := (valid_head (step_valid hv (k := i) hd hsv).1).2.2.2.2.2
        simp only [stepC] at h5
        omega
      have hpl : (stepC c i).pend.length ≤ 1000 := by simp only [stepC, List.length_drop]; omega
      conv => whnf
      repeat' first
        | (refine call_if (sameRr_spec _ _) (by first | exact .inl rfl | exact .inr ⟨rfl, rfl⟩) (need_intro ?_ ?_); (conv => whnf))
        | (refine call_if (sameWr_cut (stepC c i).pend) (by first | exact .inl rfl | exact .inr ⟨rfl, rfl⟩) (need_intro ?_ ?_); (conv => whnf))
        | (refine NextVC.mk (i + 1) ?_ ?_ ?_; (conv => whnf))
        | (refine bc_true (by assumption) ?_; (conv => whnf))
        | (refine bc_false (by assumption) ?_; (conv => whnf))
        | (refine bc_intro (fun _ => ?_) (fun _ => ?_) <;> (conv => whnf))
        | (refine need_intro ?_ ?_; (conv => whnf))
        | (refine wk_refl ?_; (conv => whnf))
        | (refine draw_intro (by kernel_rfl) ?_; (conv => whnf))
        | (refine ord_intro (by kernel_rfl) ?_; (conv => whnf))
      all_goals first
        | exact trivial
        | omega
        | exact DLe.refl _
        | exact ⟨LeS.refl _, trivial⟩
        | (exfalso; simp_all; done)
        | (simp only [Option.getD_some, Option.getD_none]
           exact ⟨by omega, by omega, h4⟩)
        | (have : (stepC c i).rows.length ≤ 2000 := hrl
           exact ⟨by omega, Nat.le_trans hrl (by omega)⟩)
        | (refine ⟨⟨by simp only [Option.getD_some, Option.getD_none]; omega, .of_eq fun a j ha _ => ?_⟩, hpl⟩
           simp only [Option.getD_some, Option.getD_none] at ha ⊢
           have e1 : Int.toNat 0 + a = a := by omega
           rw [e1]
           simp only [cellOf, stepC]
           rw [getD_append_left]
           have h6 : ((stepC c i).pend.length : Int) = ((c.pend.drop i).length : Nat) := rfl
           omega)
        | trace_state
theorem behindr_spec (c o : CopyT) : (Behind c o ∧ validC c = true ∧ validC o = true ∧ SmallC c) → Sx.Spec Tryz.prog GG 53 [.agg (copyL o), .agg (copyL c)] [] (.d (.bool true)) [] := by
  rintro ⟨hb, hc, ho, hs⟩
  have hi := valid_i64 ho
  obtain ⟨d, t, h1, h2, rfl⟩ := behind_eq hb
  simp only at hi
  exact behindr_at c d t ⟨h1, hc, hs, by omega, by omega⟩
theorem numr_true {n : Int} : numOk n = true → Sx.Spec Tryz.prog GG 50 [.d (.int .i64 n)] [] (.d (.bool true)) [] := fun h => by
  have := numberr_spec n; rw [h] at this; exact this
theorem validr_true {c : CopyT} : (validC c = true ∧ SmallC c) → Sx.Spec Tryz.prog GG 52 [.agg (copyL c)] [] (.d (.bool true)) [] := fun ⟨h, hs⟩ => by
  have := validr_spec c hs; rw [h] at this; exact this
set_option maxHeartbeats 2000000 in
theorem checkr_spec (g : GrpT) : SndG g → Sx.Spec Tryz.prog GG 17 [.agg (grpL g)] [] (.d (.bool true)) [] := by
  intro h
  have hl := h.n5
  have hn := h.n1
  refine spec_intro (E := EE) (fn := Tryz.f17) eok (by kernel_rfl) (by kernel_rfl) Tryz.call17 (by kernel_rfl) (by kernel_rfl) ?_
  have hopn := h.opn
  have hnum := numr_true h.num
  conv => whnf
  repeat' first
    | (refine call_intro (hnum) ?_ (by first | exact .inl rfl | exact .inr ⟨rfl, rfl⟩); (conv => whnf))
    | (refine bc_true (by assumption) ?_; (conv => whnf))
    | (refine bc_false (by assumption) ?_; (conv => whnf))
    | (refine bc_intro (fun _ => ?_) (fun _ => ?_) <;> (conv => whnf))
    | (refine need_intro ?_ ?_; (conv => whnf))
    | (refine wk_refl ?_; (conv => whnf))
    | (refine draw_intro (by kernel_rfl) ?_; (conv => whnf))
    | (refine ord_intro (by kernel_rfl) ?_; (conv => whnf))
  all_goals try (exfalso; simp only [beq_iff_eq, decide_eq_true_eq] at *; omega)
  refine loop_auto [1, 2, 24, 25] [1] (fun i : Nat => [(26, .d (.int .i64 i))]) (fun i => []) (fun i => i ≤ g.mem.length) (fun i => g.mem.length - i) 0 ?_ (fun i hi => ?_) (by omega)
  · conv => whnf
    repeat' first
      | (refine bc_true (by assumption) ?_; (conv => whnf))
      | (refine bc_false (by assumption) ?_; (conv => whnf))
      | (refine bc_intro (fun _ => ?_) (fun _ => ?_) <;> (conv => whnf))
      | (refine need_intro ?_ ?_; (conv => whnf))
      | (refine wk_refl ?_; (conv => whnf))
      | (refine draw_intro (by kernel_rfl) ?_; (conv => whnf))
      | (refine ord_intro (by kernel_rfl) ?_; (conv => whnf))
    all_goals first | exact trivial | exact DLe.refl _ | trace_state
  · have hsi : IntKind.i64.wrap ((i : Int) + 1) = ((i + 1 : Nat) : Int) := wrap_succ (n := 2000) (by omega) (by omega)
    rcases Nat.lt_or_eq_of_le hi with hlt | rfl
    · have hlt' : decide ((i : Int) < ((g.mem.length : Nat) : Int)) = true := decide_eq_true (by omega)
      have ha := h.at hlt
      have hpl := placeG_spec (n := g.mem.length) (gf := cellOf encMem g.mem) g.num g.opn g.mem (g.mem.getD i default).id ⟨⟨rfl, RowLe.refl _ _ _⟩, by omega⟩
      rw [checks_at h hlt] at hpl
      conv => whnf
      repeat' first
        | (refine call_intro (numr_true ha.1) ?_ (by first | exact .inl rfl | exact .inr ⟨rfl, rfl⟩); (conv => whnf))
        | (refine call_intro (hpl) ?_ (by first | exact .inl rfl | exact .inr ⟨rfl, rfl⟩); (conv => whnf))
        | (refine call_intro (validr_true ha.2) ?_ (by first | exact .inl rfl | exact .inr ⟨rfl, rfl⟩); (conv => whnf))
        | (refine NextVC.mk (i + 1) ?_ ?_ ?_; (conv => whnf))
        | (refine bc_true (by assumption) ?_; (conv => whnf))
        | (refine bc_false (by assumption) ?_; (conv => whnf))
        | (refine bc_intro (fun _ => ?_) (fun _ => ?_) <;> (conv => whnf))
        | (refine need_intro ?_ ?_; (conv => whnf))
        | (refine wk_refl ?_; (conv => whnf))
        | (refine draw_intro (by kernel_rfl) ?_; (conv => whnf))
        | (refine ord_intro (by kernel_rfl) ?_; (conv => whnf))
      all_goals first
        | exact trivial
        | omega
        | exact DLe.refl _
        | exact DLe.of_eq (by rw [hsi])
        | exact ⟨by omega, by omega⟩
        | (exfalso; simp at *; done)
        | trace_state
    · have hlt' : decide (((g.mem.length : Nat) : Int) < ((g.mem.length : Nat) : Int)) = false := decide_eq_false (by omega)
      conv => whnf
      repeat' first
        | (refine NextVC.mk 0 ?_ ?_ ?_; (conv => whnf))
        | (refine bc_true (by assumption) ?_; (conv => whnf))
        | (refine bc_false (by assumption) ?_; (conv => whnf))
        | (refine bc_intro (fun _ => ?_) (fun _ => ?_) <;> (conv => whnf))
        | (refine need_intro ?_ ?_; (conv => whnf))
        | (refine wk_refl ?_; (conv => whnf))
        | (refine draw_intro (by kernel_rfl) ?_; (conv => whnf))
        | (refine ord_intro (by kernel_rfl) ?_; (conv => whnf))
      all_goals try (exfalso; simp_all; done)
      refine loop_auto [1, 2, 54, 55] [1] (fun i : Nat => [(56, .d (.int .i64 i))]) (fun i => []) (fun i => i ≤ g.mem.length) (fun i => g.mem.length - i) 0 ?_ (fun i hi => ?_) (by omega)
      · conv => whnf
        repeat' first
          | (refine bc_true (by assumption) ?_; (conv => whnf))
          | (refine bc_false (by assumption) ?_; (conv => whnf))
          | (refine bc_intro (fun _ => ?_) (fun _ => ?_) <;> (conv => whnf))
          | (refine need_intro ?_ ?_; (conv => whnf))
          | (refine wk_refl ?_; (conv => whnf))
          | (refine draw_intro (by kernel_rfl) ?_; (conv => whnf))
          | (refine ord_intro (by kernel_rfl) ?_; (conv => whnf))
        all_goals first | exact trivial | exact DLe.refl _ | trace_state
      · have hsi : IntKind.i64.wrap ((i : Int) + 1) = ((i + 1 : Nat) : Int) := wrap_succ (n := 2000) (by omega) (by omega)
        have hb : ((i : Int) > 0 ∧ (i : Int) < (g.mem.length : Nat)) ∧ (g.mem.getD i default).up = true → Sx.Spec Tryz.prog GG 53 [.agg (copyL (g.mem.getD 0 default).copy), .agg (copyL (g.mem.getD i default).copy)] [] (.d (.bool true)) [] := fun ⟨⟨h1, h2⟩, h3⟩ => by
          have ha := h.at (i := i) (by omega)
          exact behindr_spec _ _ ⟨h.beh i (by omega) (by omega) h3, ha.2.1, (h.at (i := 0) (by omega)).2.1, ha.2.2⟩
        conv => whnf
        repeat' first
          | (refine call_if (hb) (by first | exact .inl rfl | exact .inr ⟨rfl, rfl⟩) (need_intro ?_ ?_); (conv => whnf))
          | (refine NextVC.mk (i + 1) ?_ ?_ ?_; (conv => whnf))
          | (refine bc_true (by assumption) ?_; (conv => whnf))
          | (refine bc_false (by assumption) ?_; (conv => whnf))
          | (refine bc_intro (fun _ => ?_) (fun _ => ?_) <;> (conv => whnf))
          | (refine need_intro ?_ ?_; (conv => whnf))
          | (refine wk_refl ?_; (conv => whnf))
          | (refine draw_intro (by kernel_rfl) ?_; (conv => whnf))
          | (refine ord_intro (by kernel_rfl) ?_; (conv => whnf))
        all_goals try simp only [decide_eq_true_eq, decide_eq_false_iff_not, Int.toNat_natCast] at *
        all_goals first
          | exact trivial
          | omega
          | exact DLe.refl _
          | exact DLe.of_eq (by rw [hsi])
          | exact ⟨by omega, by omega⟩
          | exact ⟨⟨by omega, by omega⟩, by assumption⟩
          | exact ⟨LeS.refl _, trivial⟩
          | (exfalso; simp at *; done)
          | trace_state
end Go.Proofs.YtapddnfjngfloaaGreatDoor
