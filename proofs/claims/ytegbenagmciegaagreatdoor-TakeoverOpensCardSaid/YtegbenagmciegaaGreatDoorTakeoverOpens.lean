/- The law TakeoverOpens: the walk through its code and the claim. -/
import Derived.Test.YtegbenagmciegaaGreatDoorLawT2
import Derived.Test.YtegbenagmciegaaGreatDoorSxGrp10
namespace Go.Proofs.YtegbenagmciegaaGreatDoor
open Go Go.Sx Go.ChangeShapes Go.WideShapes Go.ChangeAt Go.WideMaps Go.WideElems Go.RowKit
set_option linter.unusedVariables false
set_option linter.unusedSimpArgs false
set_option maxRecDepth 100000
theorem copyB_small {c : CopyT} {n : Nat} (h : CopyB n c) (hn : n ≤ 1000000) : Small c := ⟨Nat.le_trans h.rows hn, Nat.le_trans h.pend hn, Nat.le_trans h.out.rows (by omega), Nat.le_trans h.inn.rows (by omega)⟩
set_option maxHeartbeats 8000000 in
theorem takeoverOpens_law (l : List Int) (hl : ∀ x ∈ l, -9223372036854775808 ≤ x ∧ x < 9223372036854775808) : Sx.Spec Tryz.prog GG 5 [.d (encL encI 1 l)] [] (.d (.bool true)) [] := by
  refine spec_intro (E := EE) (fn := Tryz.f5) eok (by kernel_rfl) (by kernel_rfl) Tryz.call5 (by kernel_rfl) (by kernel_rfl) ?_
  conv => whnf
  repeat' first
    | (refine call_some (new_ex 2000 hl) (fun _ => by first | exact .inl rfl | exact .inr ⟨rfl, rfl⟩) ?_; rintro ⟨tl, ta⟩ hT; (conv => whnf))
    | (refine call_some_if (proper_ex _) (fun _ => by first | exact .inl rfl | exact .inr ⟨rfl, rfl⟩) (need_intro ?_ ?_); rintro ⟨k, t, k2, t2, b⟩ ⟨⟨h1, h2, h4⟩, h3⟩; (conv => whnf))
    | (refine call_some_if (group_ex _) (fun _ => by first | exact .inl rfl | exact .inr ⟨rfl, rfl⟩) (need_intro ?_ ?_); rintro ⟨⟨c, n⟩, b⟩ ⟨⟨hn, hv, hsm, hr, hse, hsv, hp⟩, h5⟩; (conv => whnf))
    | (refine bc_true (by assumption) ?_; (conv => whnf))
    | (refine bc_false (by assumption) ?_; (conv => whnf))
    | (refine need_intro ?_ ?_; (conv => whnf))
    | (refine wk_refl ?_; (conv => whnf))
    | (refine draw_intro (by kernel_rfl) ?_; (conv => whnf))
    | (refine ord_intro (by kernel_rfl) ?_; (conv => whnf))
  all_goals try simp only at *
  all_goals try first
    | assumption
    | exact ⟨by assumption, by assumption⟩
  have hI0 : EvM (k, t, k2, t2) 0 (memG c n) := by
    have := ev_new (c := c) (n := n) (by omega) (by omega) hv hsm (by omega) (by omega)
    rw [hr] at this
    exact this
  refine loop_auto [2, 3, 4] [] (fun x : Nat × GrpT × Nat => [(5, .d (.int .i64 x.1))]) (fun x => [(4, .box (grpL x.2.1)), (2000, tapeB tl x.2.2)])
    (fun x => x.1 ≤ 20 ∧ EvM (k, t, k2, t2) x.1 x.2.1.mem ∧ TapeOk tl x.2.2) (fun x => 20 - x.1) (0, ⟨1, true, memG c n⟩, b) ?_ (fun x hx => ?_) ⟨by simp, hI0, h5⟩
  · conv => whnf
    repeat' first
      | (refine bc_true (by assumption) ?_; (conv => whnf))
      | (refine bc_false (by assumption) ?_; (conv => whnf))
      | (refine bc_intro (fun _ => ?_) (fun _ => ?_) <;> (conv => whnf))
      | (refine need_intro ?_ ?_; (conv => whnf))
      | (refine wk_refl ?_; (conv => whnf))
      | (refine draw_intro (by kernel_rfl) ?_; (conv => whnf))
      | (refine ord_intro (by kernel_rfl) ?_; (conv => whnf))
    all_goals first | exact trivial | exact DLe.refl _ | trace_state
  · obtain ⟨i, g, b⟩ := x
    obtain ⟨hi, hI, hb⟩ := hx
    simp only at hi hI hb
    have hsi : IntKind.i64.wrap ((i : Int) + 1) = ((i + 1 : Nat) : Int) := wrap_succ (n := 100) (by omega) (by omega)
    have hgb := hI.b (g := g)
    have hln := hgb.len
    have hn1 := hI.n1
    conv => whnf
    repeat' first
      | (refine call_some_if (left_ex _) (fun _ => by first | exact .inl rfl | exact .inr ⟨rfl, rfl⟩) (need_intro ?_ ?_); rintro ⟨v, b⟩ h6; (conv => whnf))
      | (refine call_some_if (event_ex _ (k, t, k2, t2) i g) (fun _ => by first | exact .inl rfl | exact .inr ⟨rfl, rfl⟩) (need_intro ?_ ?_); rintro ⟨g4, b⟩ ⟨hI4, h6⟩; (conv => whnf))
      | (refine call_intro (awake26_spec) ?_ (by first | exact .inl rfl | exact .inr ⟨rfl, rfl⟩); (conv => whnf))
      | (refine NextVC.mk (i + 1, g4, b) ?_ ?_ ?_; (conv => whnf))
      | (refine bc_true (by assumption) ?_; (conv => whnf))
      | (refine bc_false (by assumption) ?_; (conv => whnf))
      | (refine bc_intro (fun _ => ?_) (fun _ => ?_) <;> (conv => whnf))
      | (refine need_intro ?_ ?_; (conv => whnf))
      | (refine wk_refl ?_; (conv => whnf))
      | (refine draw_intro (by kernel_rfl) ?_; (conv => whnf))
      | (refine ord_intro (by kernel_rfl) ?_; (conv => whnf))
    all_goals try simp only at *
    all_goals try first
      | exact trivial
      | assumption
      | omega
      | exact DLe.refl _
      | exact DLe.of_eq (by rw [hsi])
      | exact ⟨LeS.refl _, trivial⟩
      | exact ⟨by assumption, hI, h4⟩
      | exact ⟨by simp only [decide_eq_true_eq] at *; omega, hI4, by assumption⟩
      | exact ⟨Int.le_refl 0, by show (0 : Int) < (g.mem.length : Nat); omega⟩
      | (simp only [decide_eq_true_eq] at *; omega)
    all_goals
      have hop : g.opn = false := by assumption
      have hup : (own0 g).up = true := by
        have h9 : (!(g.mem.getD (Int.toNat 0) default).up) = false := by assumption
        simpa [-List.getD_eq_getElem?_getD] using h9
      obtain ⟨K, k1, k3, k4, k5, k6, k7, k8, k9, _⟩ := opened hI (by omega) hop hup
      have hrv := recoverp_spec g hgb
      have hKb := recover_b hgb
      rw [rcv_rest (down_no (.inr hup)) (.inr hop), k1] at hrv hKb
      simp only at hKb hrv
      have hrl := liver_spec0 g hln
      have hpl : (own0 g).copy.pend.length ≤ 1000000 := (mem_small hgb 0).2.1
      have hsw := sameWr_self (own0 g).copy.pend hpl
      have hll1 : 1 ≤ (liveL g.mem).length := by rw [live_own hn1 hup]; simp
      have hll2 : (liveL g.mem).length ≤ 5 := by
        have h9 := hI.le
        have h10 : (liveL g.mem).length ≤ g.mem.length := by unfold liveL; rw [List.length_map]; exact List.length_filter_le _ _
        omega
      have hKv : validC (own0 K).copy = true := by rw [k7]; exact (settle_keep k8).2.1
      have hvl := validp_spec (own0 K).copy (mem_small hKb 0)
      rw [hKv] at hvl
      have hsg := sameG_spec K hKb
      have hKl : 1 ≤ K.mem.length := by omega
      conv => whnf
      repeat' first
        | (refine call_intro (hrv) ?_ (by first | exact .inl rfl | exact .inr ⟨rfl, rfl⟩); (conv => whnf))
        | (refine call_intro (hrl) ?_ (by first | exact .inl rfl | exact .inr ⟨rfl, rfl⟩); (conv => whnf))
        | (refine bc_true (by assumption) ?_; (conv => whnf))
        | (refine bc_false (by assumption) ?_; (conv => whnf))
        | (refine bc_intro (fun _ => ?_) (fun _ => ?_) <;> (conv => whnf))
        | (refine need_intro ?_ ?_; (conv => whnf))
        | (refine wk_refl ?_; (conv => whnf))
        | (refine draw_intro (by kernel_rfl) ?_; (conv => whnf))
        | (refine ord_intro (by kernel_rfl) ?_; (conv => whnf))
      all_goals try first
        | exact trivial
        | assumption
        | omega
        | (simp only [Option.getD_none, Option.getD_some]; omega)
      refine loop_auto [2, 3, 4, 6, 7, 8, 50, 51] [6, 2000] (fun x : Nat × GrpT => [(52, .d (.int .i64 x.1))]) (fun x => [(4, .box (grpL x.2))]) (fun x => x.1 ≤ (liveL g.mem).length - 1 ∧ GrpB 1000 x.2 ∧ runIds ((liveL g.mem).drop (1 + x.1)) x.2 = runIds ((liveL g.mem).drop 1) g) (fun x => (liveL g.mem).length - 1 - x.1) (0, g) ?_ (fun x hx => ?_) ⟨by omega, hgb, rfl⟩
      · conv => whnf
        repeat' first
          | (refine bc_true (by assumption) ?_; (conv => whnf))
          | (refine bc_false (by assumption) ?_; (conv => whnf))
          | (refine bc_intro (fun _ => ?_) (fun _ => ?_) <;> (conv => whnf))
          | (refine need_intro ?_ ?_; (conv => whnf))
          | (refine wk_refl ?_; (conv => whnf))
          | (refine draw_intro (by kernel_rfl) ?_; (conv => whnf))
          | (refine ord_intro (by kernel_rfl) ?_; (conv => whnf))
        all_goals first | exact trivial | exact DLe.refl _ | trace_state
      · obtain ⟨j, gj⟩ := x
        obtain ⟨hj, hbj, hrj⟩ := hx
        simp only at hj hbj hrj
        have hsj : IntKind.i64.wrap ((j : Int) + 1) = ((j + 1 : Nat) : Int) := wrap_succ (n := 2000) (by omega) (by omega)
        have hcut : ((none : Option Int).getD ((liveL g.mem).length : Int) - (some 1).getD 0).toNat = (liveL g.mem).length - 1 := by simp only [Option.getD_none, Option.getD_some]; omega
        have hrun : j < (liveL g.mem).length - 1 → runIds ((liveL g.mem).drop (1 + (j + 1))) (replicateG gj ((liveL g.mem).getD (1 + j) default)).1 = runIds ((liveL g.mem).drop 1) g := fun h => by
          rw [← hrj, drop_cons' (xs := liveL g.mem) (i := 1 + j) (by omega)]
          rfl
        have hend : ¬ j < (liveL g.mem).length - 1 → gj = runIds ((liveL g.mem).drop 1) g := fun h => by
          rw [← hrj, List.drop_eq_nil_of_le (by omega)]
          rfl
        conv => whnf
        repeat' first
          | (refine call_if (replr_spec gj _) (by first | exact .inl rfl | exact .inr ⟨rfl, rfl⟩) (need_intro ?_ ?_); (conv => whnf))
          | (refine NextVC.mk (j + 1, (replicateG gj ((liveL g.mem).getD (1 + j) default)).1) ?_ ?_ ?_; (conv => whnf))
          | (refine bc_true (by assumption) ?_; (conv => whnf))
          | (refine bc_false (by assumption) ?_; (conv => whnf))
          | (refine bc_intro (fun _ => ?_) (fun _ => ?_) <;> (conv => whnf))
          | (refine need_intro ?_ ?_; (conv => whnf))
          | (refine wk_refl ?_; (conv => whnf))
          | (refine draw_intro (by kernel_rfl) ?_; (conv => whnf))
          | (refine ord_intro (by kernel_rfl) ?_; (conv => whnf))
        all_goals try simp only [hcut, decide_eq_true_eq, decide_eq_false_iff_not, Int.toNat_natCast] at *
        all_goals try first
          | exact trivial
          | assumption
          | omega
          | exact DLe.refl _
          | exact DLe.of_eq (by rw [hsj])
          | exact ⟨by omega, by omega⟩
          | exact ⟨by omega, replicate_b hbj, hrun (by omega)⟩
        all_goals
          have hge := hend (by omega)
          have hr1 := readyp_spec gj hbj
          have hf1 := finishp_spec gj hbj
          rw [hge, k4] at hr1
          rw [hge, k3] at hf1
          simp only at hf1
          rw [← hge] at hr1 hf1
          conv => whnf
          repeat' first
            | (refine call_intro (hr1) ?_ (by first | exact .inl rfl | exact .inr ⟨rfl, rfl⟩); (conv => whnf))
            | (refine call_intro (hf1) ?_ (by first | exact .inl rfl | exact .inr ⟨rfl, rfl⟩); (conv => whnf))
            | (refine call_intro (hsg) ?_ (by first | exact .inl rfl | exact .inr ⟨rfl, rfl⟩); (conv => whnf))
            | (refine call_intro (hsw) ?_ (by first | exact .inl rfl | exact .inr ⟨rfl, rfl⟩); (conv => whnf))
            | (refine call_if (validr_spec (own0 K).copy) (by first | exact .inl rfl | exact .inr ⟨rfl, rfl⟩) (need_intro ?_ ?_); (conv => whnf))
            | (refine call_intro (awake26_spec) ?_ (by first | exact .inl rfl | exact .inr ⟨rfl, rfl⟩); (conv => whnf))
            | (refine bc_true (by assumption) ?_; (conv => whnf))
            | (refine bc_false (by assumption) ?_; (conv => whnf))
            | (refine bc_intro (fun _ => ?_) (fun _ => ?_) <;> (conv => whnf))
            | (refine need_intro ?_ ?_; (conv => whnf))
            | (refine wk_refl ?_; (conv => whnf))
            | (refine draw_intro (by kernel_rfl) ?_; (conv => whnf))
            | (refine ord_intro (by kernel_rfl) ?_; (conv => whnf))
          all_goals first
            | exact trivial
            | exact ⟨LeS.refl _, trivial⟩
            | exact mem_small hKb 0
            | exact ⟨Int.le_refl 0, by show (0 : Int) < (K.mem.length : Nat); omega⟩
            | (exfalso
               have h9 : ((K.mem.getD (Int.toNat 0) default).copy.pend.length : Int) = 0 := by
                 have : (K.mem.getD (Int.toNat 0) default).copy.pend.length = 0 := k9
                 omega
               have h10 : (((K.mem.getD (Int.toNat 0) default).copy.pend.length : Int) == 0) = false := by assumption
               rw [h9] at h10
               cases h10)
            | (exfalso
               have h10 : validC (own0 K).copy = false := by assumption
               rw [hKv] at h10
               cases h10)
            | (exfalso
               have h10 : decide ((K.mem.length : Int) > 0) = false := by assumption
               simp only [decide_eq_false_iff_not] at h10
               omega)
            | (exfalso
               have h10 : K.opn = false := by assumption
               rw [k5] at h10
               cases h10)
            | trace_state
theorem takeoverOpens_all (dss : List (List D)) (h : All2 (wfT Tryz.prog reachBytes 12) [22] dss) : Sx.Spec Tryz.prog GG 5 (svs Tryz.prog [22] dss) [] (.d (.bool true)) [] := by
  obtain ⟨x, rfl, hx⟩ := inv1 h
  obtain ⟨l, h1, h2, h3⟩ := ints_arg hx
  obtain ⟨_, _, rfl, _⟩ := hx
  exact (takeoverOpens_law l h1).arg h2
theorem takeoverOpens_lifted (os : Os) (started : os.Started) (H : Type) (enc : TypeId × Value → H) :
    ReturnsInHanded {} Tryz.checked os 5 .any (fun w args => (Rows.takeoverOpensSpec.pre enc Tryz.prog Tryz.f5 [] false w args ∧ laidMetH Tryz.prog laidL w) ∧ sizedMet enc Tryz.prog Tryz.f5 (OpenSpec.ofChange Rows.takeoverOpensSpec) false w args)
      (Rows.takeoverOpensSpec.post enc Tryz.prog Tryz.f5 false true false false) := by
  refine returnsInHanded_of_change_and (C := Tryz.checked) (X := fun w _ => laidMetH Tryz.prog laidL w) (fun _ _ _ hh h => h.of_heap hh) own started (by kernel_rfl) Tryz.func5
    (ChangeSpec.witness_shaped (enc := enc) (C := Tryz.checked) (os := os) (X := fun w _ => laidMetH Tryz.prog laidL w) false (World.doorLaid Tryz.prog 400 os) #[.slice none 0 0] 8 rfl (World.shaped_of_RefB (by kernel_rfl) (by kernel_rfl)) (by kernel_rfl) (by kernel_rfl) (by kernel_rfl) (door_met os _)) ?_
  intro W base args ds gs before hval hW hcnd hsz hL _
  refine law_contract (P := Tryz.prog) (ts := [22]) (bt := 4) (G := GG) laidOut (by rw [Tryz.params5]) (by kernel_rfl) Tryz.underlying4 (by kernel_rfl) rfl ?_ takeoverOpens_all hval hW hsz (gok hL)
  intro ds h
  match ds, h with
  | [_], _ => rfl
theorem takeoverOpens_over : Rows.takeoverOpensRow.holds Tryz.pinned (OpenSpec.ofChange Rows.takeoverOpensSpec) :=
  OpenClaim.holds_of_wide 5 Tryz.f5 rfl rfl rfl rfl rfl rfl rfl ⟨rfl, rfl, rfl, rfl, rfl⟩ rfl rfl rfl rfl rfl (by kernel_rfl) Tryz.func5 (by kernel_rfl)
    (of_decide_eq_true (by kernel_rfl)) (by unfold Func.isWrapper; first | (rw [if_pos (by decide +kernel)]; kernel_rfl) | (rw [if_neg (by decide +kernel)]; exact ⟨rfl, rfl⟩))
    (fun os started H enc _ => takeoverOpens_lifted os started H enc)
theorem takeoverOpens_plain : ∀ t ∈ [22], Tryz.prog.wantsStandIn t = false := by
  intro t ht
  simp only [List.mem_cons, List.not_mem_nil, or_false] at ht
  rcases ht with rfl <;> kernel_rfl
theorem takeoverOpens_proved : Rows.TakeoverOpensCardSaid :=
  Claim7.holds_tied_plain_at .later [] [.data] true (true, "b01a978d79b23bb570124d2eddeea5731d9cb684bc1d25a1536c8487172713c4") false
    takeoverOpens_over (fun _ h => by cases h) (by kernel_rfl) (fun _ h => by cases h) takeoverOpens_row_tie rfl ⟨rfl, rfl⟩ (by kernel_rfl) rfl
    (fun f fn hf hfn => by
      obtain rfl : f = 5 := Option.some.inj ((show Tryz.prog.funcNamed Rows.takeoverOpensRow.func = some 5 by kernel_rfl).symm.trans hf) |>.symm
      obtain rfl : fn = Tryz.f5 := (Option.some.inj (Tryz.func5.symm.trans hfn)).symm
      exact ⟨by kernel_rfl, fun j t ht => takeoverOpens_plain t (by
        rw [Tryz.params5] at ht
        exact List.mem_of_getElem? (by simpa using ht))⟩)
    (by kernel_rfl)
#print axioms takeoverOpens_proved
end Go.Proofs.YtegbenagmciegaaGreatDoor
