/- The law TakeoverSteps: the walk through its code and the claim. -/
import Derived.Test.YtegbenagmciegaaGreatDoorLawT2
namespace Go.Proofs.YtegbenagmciegaaGreatDoor
open Go Go.Sx Go.ChangeShapes Go.WideShapes Go.ChangeAt Go.WideMaps Go.WideElems Go.RowKit
set_option linter.unusedVariables false
set_option linter.unusedSimpArgs false
set_option maxRecDepth 100000
theorem copyB_small {c : CopyT} {n : Nat} (h : CopyB n c) (hn : n ≤ 1000000) : Small c := ⟨Nat.le_trans h.rows hn, Nat.le_trans h.pend hn, Nat.le_trans h.out.rows (by omega), Nat.le_trans h.inn.rows (by omega)⟩
theorem agree_row (g : GrpT) (c : CopyT) (l : List (Int × Int)) {n : Nat} {gf : Nat → Nat → D} (h : (n = l.length ∧ RowLe n 2 gf (cellOf encStp l)) ∧ l.length ≤ 1000000 ∧ GrpB 1000 g ∧ Small c) : Sx.Spec Tryz.prog GG 44 [.agg (grpL g), .agg (copyL c), .d (.list n 2 gf)] [] (.d (.bool true)) [] := by
  obtain ⟨⟨rfl, hr⟩, hl, hb, hs⟩ := h
  exact (agree_spec g c l ⟨hb, hs, hl⟩).arg (LeL.cons (LeS.refl _) (LeL.cons (LeS.refl _) (LeL.cons (LeS.d (DLe.rows rfl hr)) LeL.nil)))
theorem row_cutS {e v k : Int} (hk : 0 ≤ k ∧ k < 2) {z : Nat → Nat → D} : (((some k).getD ((1 : Nat) : Int) - (none : Option Int).getD 0).toNat = ([(e, v)].take k.toNat).length) ∧ RowLe ((some k).getD ((1 : Nat) : Int) - (none : Option Int).getD 0).toNat 2 (fun i j => tabF z [(0, [.int .i64 e, .int .i64 v])] (((none : Option Int).getD 0).toNat + i) j) (cellOf encStp ([(e, v)].take k.toNat)) := by
  simp only [Option.getD_some, Option.getD_none, Int.sub_zero, Int.toNat_zero, Nat.zero_add]
  obtain h | h : k = 0 ∨ k = 1 := by omega
  · subst h
    exact ⟨rfl, .of_eq fun i j hi hj => absurd hi (Nat.not_lt_zero _)⟩
  · subst h
    exact ⟨rfl, row_oneS⟩
set_option maxHeartbeats 8000000 in
theorem takeoverSteps_law (l : List Int) (hl : ∀ x ∈ l, -9223372036854775808 ≤ x ∧ x < 9223372036854775808) : Sx.Spec Tryz.prog GG 6 [.d (encL encI 1 l)] [] (.d (.bool true)) [] := by
  refine spec_intro (E := EE) (fn := Tryz.f6) eok (by kernel_rfl) (by kernel_rfl) Tryz.call6 (by kernel_rfl) (by kernel_rfl) ?_
  conv => whnf
  repeat' first
    | (refine call_some (new_ex 2000 hl) (fun _ => by first | exact .inl rfl | exact .inr ⟨rfl, rfl⟩) ?_; rintro ⟨tl, ta⟩ hT; (conv => whnf))
    | (refine call_some_if (proper_ex _) (fun _ => by first | exact .inl rfl | exact .inr ⟨rfl, rfl⟩) (need_intro ?_ ?_); rintro ⟨k, t, k2, t2, b⟩ ⟨⟨h1, h2, h4⟩, h3⟩; (conv => whnf))
    | (refine call_some_if (group_ex _) (fun _ => by first | exact .inl rfl | exact .inr ⟨rfl, rfl⟩) (need_intro ?_ ?_); rintro ⟨⟨c, n⟩, b⟩ ⟨⟨hn, hv, hsm, hr, hse, hsv, hp⟩, h5⟩; (conv => whnf))
    | (refine bc_true (by assumption) ?_; (conv => whnf))
    | (refine bc_false (by assumption) ?_; (conv => whnf))
    | (refine need_intro ?_ ?_; (conv => whnf))
    | (refine wk_refl ?_; (conv => whnf))
    | (refine draw_intro (by kernel_rfl) ?_; (conv => whnf))
    | (refine ord_intro (by kernel_rfl) ?_; (conv => whnf))
  all_goals try simp only at *
  all_goals try first
    | assumption
    | exact ⟨by assumption, by assumption⟩
  have hI0 : EvM (k, t, k2, t2) 0 (memG c n) := by
    have := ev_new (c := c) (n := n) (by omega) (by omega) hv hsm (by omega) (by omega)
    rw [hr] at this
    exact this
  refine loop_auto [2, 3, 4] [] (fun x : Nat × GrpT × Nat => [(5, .d (.int .i64 x.1))]) (fun x => [(4, .box (grpL x.2.1)), (2000, tapeB tl x.2.2)])
    (fun x => x.1 ≤ 30 ∧ EvM (k, t, k2, t2) x.1 x.2.1.mem ∧ TapeOk tl x.2.2) (fun x => 30 - x.1) (0, ⟨1, true, memG c n⟩, b) ?_ (fun x hx => ?_) ⟨by simp, hI0, h5⟩
  · conv => whnf
    repeat' first
      | (refine bc_true (by assumption) ?_; (conv => whnf))
      | (refine bc_false (by assumption) ?_; (conv => whnf))
      | (refine bc_intro (fun _ => ?_) (fun _ => ?_) <;> (conv => whnf))
      | (refine need_intro ?_ ?_; (conv => whnf))
      | (refine wk_refl ?_; (conv => whnf))
      | (refine draw_intro (by kernel_rfl) ?_; (conv => whnf))
      | (refine ord_intro (by kernel_rfl) ?_; (conv => whnf))
    all_goals first | exact trivial | exact DLe.refl _ | trace_state
  · obtain ⟨i, g, b⟩ := x
    obtain ⟨hi, hI, hb⟩ := hx
    simp only at hi hI hb
    have hsi : IntKind.i64.wrap ((i : Int) + 1) = ((i + 1 : Nat) : Int) := wrap_succ (n := 100) (by omega) (by omega)
    have hgb := hI.b
    have hln := hI.b.len
    conv => whnf
    repeat' first
      | (refine call_some_if (left_ex _) (fun _ => by first | exact .inl rfl | exact .inr ⟨rfl, rfl⟩) (need_intro ?_ ?_); rintro ⟨v, b⟩ h6; (conv => whnf))
      | (refine call_some_if (copy_ex _) (fun _ => by first | exact .inl rfl | exact .inr ⟨rfl, rfl⟩) (need_intro ?_ ?_); rintro ⟨y, b⟩ ⟨hy, h6⟩; (conv => whnf))
      | (refine call_some_if (stamp_ex _) (fun _ => by first | exact .inl rfl | exact .inr ⟨rfl, rfl⟩) (need_intro ?_ ?_); rintro ⟨e, w, b⟩ ⟨⟨g1, g5, g6⟩, h6⟩; (conv => whnf))
      | (refine call_some_if (next_ex _) (fun _ => by first | exact .inl rfl | exact .inr ⟨rfl, rfl⟩) (need_intro ?_ ?_); rintro ⟨kk, b⟩ ⟨⟨g2, g3⟩, h6⟩; (conv => whnf))
      | (refine call_if (agree_row g y ([(e, w)].take kk.toNat)) (by first | exact .inl rfl | exact .inr ⟨rfl, rfl⟩) (need_intro ?_ ?_); (conv => whnf))
      | (refine call_if (agree_nil g y) (by first | exact .inl rfl | exact .inr ⟨rfl, rfl⟩) (need_intro ?_ ?_); (conv => whnf))
      | (refine call_some_if (event_ex _ (k, t, k2, t2) i g) (fun _ => by first | exact .inl rfl | exact .inr ⟨rfl, rfl⟩) (need_intro ?_ ?_); rintro ⟨g4, b⟩ ⟨hI4, h6⟩; (conv => whnf))
      | (refine call_intro (awake26_spec) ?_ (by first | exact .inl rfl | exact .inr ⟨rfl, rfl⟩); (conv => whnf))
      | (refine NextVC.mk (i + 1, g4, b) ?_ ?_ ?_; (conv => whnf))
      | (refine bc_true (by assumption) ?_; (conv => whnf))
      | (refine bc_false (by assumption) ?_; (conv => whnf))
      | (refine bc_intro (fun _ => ?_) (fun _ => ?_) <;> (conv => whnf))
      | (refine need_intro ?_ ?_; (conv => whnf))
      | (refine wk_refl ?_; (conv => whnf))
      | (refine draw_intro (by kernel_rfl) ?_; (conv => whnf))
      | (refine ord_intro (by kernel_rfl) ?_; (conv => whnf))
    all_goals try simp only at *
    all_goals first
      | exact trivial
      | assumption
      | omega
      | exact DLe.refl _
      | exact DLe.of_eq (by rw [hsi])
      | exact ⟨LeS.refl _, trivial⟩
      | exact ⟨by assumption, hI, h4⟩
      | exact ⟨by assumption, by omega⟩
      | exact ⟨hgb, copyB_small hy (by omega)⟩
      | exact ⟨by simp only [decide_eq_true_eq] at *; omega, hI4, by assumption⟩
      | exact ⟨row_cutS ⟨g2, by omega⟩, Nat.le_trans (List.length_take_le _ _) (by simp; omega), hgb, copyB_small hy (by omega)⟩
      | exact ⟨row_cutS ⟨g2, by omega⟩, Nat.le_trans (List.length_take_le _ _) (by omega), hgb, copyB_small hy (by omega)⟩
      | (simp; omega)
      | (simp only [decide_eq_true_eq] at *; omega)
      | (exfalso; simp at *; done)
      | trace_state
theorem takeoverSteps_all (dss : List (List D)) (h : All2 (wfT Tryz.prog reachBytes 12) [22] dss) : Sx.Spec Tryz.prog GG 6 (svs Tryz.prog [22] dss) [] (.d (.bool true)) [] := by
  obtain ⟨x, rfl, hx⟩ := inv1 h
  obtain ⟨l, h1, h2, h3⟩ := ints_arg hx
  obtain ⟨_, _, rfl, _⟩ := hx
  exact (takeoverSteps_law l h1).arg h2
theorem takeoverSteps_lifted (os : Os) (started : os.Started) (H : Type) (enc : TypeId × Value → H) :
    ReturnsInHanded {} Tryz.checked os 6 .any (fun w args => (Rows.takeoverStepsSpec.pre enc Tryz.prog Tryz.f6 [] false w args ∧ laidMetH Tryz.prog laidL w) ∧ sizedMet enc Tryz.prog Tryz.f6 (OpenSpec.ofChange Rows.takeoverStepsSpec) false w args)
      (Rows.takeoverStepsSpec.post enc Tryz.prog Tryz.f6 false true false false) := by
  refine returnsInHanded_of_change_and (C := Tryz.checked) (X := fun w _ => laidMetH Tryz.prog laidL w) (fun _ _ _ hh h => h.of_heap hh) own started (by kernel_rfl) Tryz.func6
    (ChangeSpec.witness_shaped (enc := enc) (C := Tryz.checked) (os := os) (X := fun w _ => laidMetH Tryz.prog laidL w) false (World.doorLaid Tryz.prog 400 os) #[.slice none 0 0] 8 rfl (World.shaped_of_RefB (by kernel_rfl) (by kernel_rfl)) (by kernel_rfl) (by kernel_rfl) (by kernel_rfl) (door_met os _)) ?_
  intro W base args ds gs before hval hW hcnd hsz hL _
  refine law_contract (P := Tryz.prog) (ts := [22]) (bt := 4) (G := GG) laidOut (by rw [Tryz.params6]) (by kernel_rfl) Tryz.underlying4 (by kernel_rfl) rfl ?_ takeoverSteps_all hval hW hsz (gok hL)
  intro ds h
  match ds, h with
  | [_], _ => rfl
theorem takeoverSteps_over : Rows.takeoverStepsRow.holds Tryz.pinned (OpenSpec.ofChange Rows.takeoverStepsSpec) :=
  OpenClaim.holds_of_wide 6 Tryz.f6 rfl rfl rfl rfl rfl rfl rfl ⟨rfl, rfl, rfl, rfl, rfl⟩ rfl rfl rfl rfl rfl (by kernel_rfl) Tryz.func6 (by kernel_rfl)
    (of_decide_eq_true (by kernel_rfl)) (by unfold Func.isWrapper; first | (rw [if_pos (by decide +kernel)]; kernel_rfl) | (rw [if_neg (by decide +kernel)]; exact ⟨rfl, rfl⟩))
    (fun os started H enc _ => takeoverSteps_lifted os started H enc)
theorem takeoverSteps_plain : ∀ t ∈ [22], Tryz.prog.wantsStandIn t = false := by
  intro t ht
  simp only [List.mem_cons, List.not_mem_nil, or_false] at ht
  rcases ht with rfl <;> kernel_rfl
theorem takeoverSteps_proved : Rows.TakeoverStepsCardSaid :=
  Claim7.holds_tied_plain_at .later [] [.data] true (true, "b01a978d79b23bb570124d2eddeea5731d9cb684bc1d25a1536c8487172713c4") false
    takeoverSteps_over (fun _ h => by cases h) (by kernel_rfl) (fun _ h => by cases h) takeoverSteps_row_tie rfl ⟨rfl, rfl⟩ (by kernel_rfl) rfl
    (fun f fn hf hfn => by
      obtain rfl : f = 6 := Option.some.inj ((show Tryz.prog.funcNamed Rows.takeoverStepsRow.func = some 6 by kernel_rfl).symm.trans hf) |>.symm
      obtain rfl : fn = Tryz.f6 := (Option.some.inj (Tryz.func6.symm.trans hfn)).symm
      exact ⟨by kernel_rfl, fun j t ht => takeoverSteps_plain t (by
        rw [Tryz.params6] at ht
        exact List.mem_of_getElem? (by simpa using ht))⟩)
    (by kernel_rfl)
#print axioms takeoverSteps_proved
end Go.Proofs.YtegbenagmciegaaGreatDoor
