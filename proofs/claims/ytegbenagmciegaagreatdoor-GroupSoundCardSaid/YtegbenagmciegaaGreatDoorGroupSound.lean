/- The law GroupSound: the walk through its code and the claim. -/
import Derived.Test.YtegbenagmciegaaGreatDoorLawS
namespace Go.Proofs.YtegbenagmciegaaGreatDoor
open Go Go.Sx Go.ChangeShapes Go.WideShapes Go.ChangeAt Go.WideMaps Go.WideElems Go.RowKit
set_option linter.unusedVariables false
set_option linter.unusedSimpArgs false
set_option maxRecDepth 100000
set_option maxHeartbeats 8000000 in
theorem groupSound_law (l : List Int) (hl : ∀ x ∈ l, -9223372036854775808 ≤ x ∧ x < 9223372036854775808) : Sx.Spec Tryz.prog GG 9 [.d (encL encI 1 l)] [] (.d (.bool true)) [] := by
  refine spec_intro (E := EE) (fn := Tryz.f9) eok (by kernel_rfl) (by kernel_rfl) Tryz.call9 (by kernel_rfl) (by kernel_rfl) ?_
  conv => whnf
  repeat' first
    | (refine call_some (new_ex 2000 hl) (fun _ => by first | exact .inl rfl | exact .inr ⟨rfl, rfl⟩) ?_; rintro ⟨tl, ta⟩ hT; (conv => whnf))
    | (refine call_some_if (proper_ex _) (fun _ => by first | exact .inl rfl | exact .inr ⟨rfl, rfl⟩) (need_intro ?_ ?_); rintro ⟨k, t, k2, t2, b⟩ ⟨⟨h1, h2, h4⟩, h3⟩; (conv => whnf))
    | (refine call_some_if (group_ex _) (fun _ => by first | exact .inl rfl | exact .inr ⟨rfl, rfl⟩) (need_intro ?_ ?_); rintro ⟨⟨c, n⟩, b⟩ ⟨⟨hn, hv, hsm, hr, hse, hsv, hp⟩, h5⟩; (conv => whnf))
    | (refine bc_true (by assumption) ?_; (conv => whnf))
    | (refine bc_false (by assumption) ?_; (conv => whnf))
    | (refine need_intro ?_ ?_; (conv => whnf))
    | (refine wk_refl ?_; (conv => whnf))
    | (refine draw_intro (by kernel_rfl) ?_; (conv => whnf))
    | (refine ord_intro (by kernel_rfl) ?_; (conv => whnf))
  all_goals try simp only at *
  all_goals try first
    | assumption
    | exact ⟨by assumption, by assumption⟩
  have hI0 : SndR (k, t, k2, t2) ⟨1, true, memG c n⟩ := by
    have := dur_new (n := n) ⟨hn, hv⟩ hsm
    exact ⟨this.snd, by rw [this.rng, hr]⟩
  refine loop_auto [2, 3, 4] [] (fun x : Nat × GrpT × Nat => [(5, .d (.int .i64 x.1))]) (fun x => [(4, .box (grpL x.2.1)), (2000, tapeB tl x.2.2)])
    (fun x => x.1 ≤ 40 ∧ SndR (k, t, k2, t2) x.2.1 ∧ TapeOk tl x.2.2) (fun x => 40 - x.1) (0, ⟨1, true, memG c n⟩, b) ?_ (fun x hx => ?_) ⟨by simp, hI0, h5⟩
  · conv => whnf
    repeat' first
      | (refine bc_true (by assumption) ?_; (conv => whnf))
      | (refine bc_false (by assumption) ?_; (conv => whnf))
      | (refine bc_intro (fun _ => ?_) (fun _ => ?_) <;> (conv => whnf))
      | (refine need_intro ?_ ?_; (conv => whnf))
      | (refine wk_refl ?_; (conv => whnf))
      | (refine draw_intro (by kernel_rfl) ?_; (conv => whnf))
      | (refine ord_intro (by kernel_rfl) ?_; (conv => whnf))
    all_goals first | exact trivial | exact DLe.refl _ | trace_state
  · obtain ⟨i, g, b⟩ := x
    obtain ⟨hi, hI, hb⟩ := hx
    simp only at hi hI hb
    have hsi : IntKind.i64.wrap ((i : Int) + 1) = ((i + 1 : Nat) : Int) := wrap_succ (n := 100) (by omega) (by omega)
    have hln := hI.1.b.len
    conv => whnf
    repeat' first
      | (refine call_some_if (left_ex _) (fun _ => by first | exact .inl rfl | exact .inr ⟨rfl, rfl⟩) (need_intro ?_ ?_); rintro ⟨v, b⟩ h6; (conv => whnf))
      | (refine call_intro (checkp_spec g hI.1) ?_ (by first | exact .inl rfl | exact .inr ⟨rfl, rfl⟩); (conv => whnf))
      | (refine call_some_if (step_ex _ (k, t, k2, t2) g) (fun _ => by first | exact .inl rfl | exact .inr ⟨rfl, rfl⟩) (need_intro ?_ ?_); rintro ⟨⟨g2, e⟩, b⟩ ⟨hI2, h6⟩; (conv => whnf))
      | (refine call_some_if (member_ex _ g) (fun _ => by first | exact .inl rfl | exact .inr ⟨rfl, rfl⟩) (need_intro ?_ ?_); rintro ⟨id, b⟩ h6; (conv => whnf))
      | (refine call_some_if (key_ex _) (fun _ => by first | exact .inl rfl | exact .inr ⟨rfl, rfl⟩) (need_intro ?_ ?_); rintro ⟨q, b⟩ ⟨q7, h6⟩; (conv => whnf))
      | (refine call_intro (looks_spec g _ _ hI.1) ?_ (by first | exact .inl rfl | exact .inr ⟨rfl, rfl⟩); (conv => whnf))
      | (refine call_intro (awake25_spec) ?_ (by first | exact .inl rfl | exact .inr ⟨rfl, rfl⟩); (conv => whnf))
      | (refine NextVC.mk (i + 1, (fun _ => g2) (show (e == 0) = true by assumption), b) ?_ ?_ ?_; (conv => whnf))
      | (refine NextVC.mk (i + 1, g, b) ?_ ?_ ?_; (conv => whnf))
      | (refine bc_true (by assumption) ?_; (conv => whnf))
      | (refine bc_false (by assumption) ?_; (conv => whnf))
      | (refine bc_intro (fun _ => ?_) (fun _ => ?_) <;> (conv => whnf))
      | (refine need_intro ?_ ?_; (conv => whnf))
      | (refine wk_refl ?_; (conv => whnf))
      | (refine draw_intro (by kernel_rfl) ?_; (conv => whnf))
      | (refine ord_intro (by kernel_rfl) ?_; (conv => whnf))
    all_goals try simp only at *
    all_goals first
      | exact trivial
      | assumption
      | omega
      | exact DLe.refl _
      | exact DLe.of_eq (by rw [hsi])
      | exact ⟨LeS.refl _, trivial⟩
      | exact ⟨by assumption, hI, h4⟩
      | exact ⟨by assumption, by omega⟩
      | exact ⟨by simp only [decide_eq_true_eq] at *; omega, hI2 (by simp_all), by assumption⟩
      | exact ⟨by simp only [decide_eq_true_eq] at *; omega, hI, by assumption⟩
      | (simp only [decide_eq_true_eq] at *; omega)
      | (exfalso; simp at *; done)
      | trace_state
theorem groupSound_all (dss : List (List D)) (h : All2 (wfT Tryz.prog reachBytes 12) [22] dss) : Sx.Spec Tryz.prog GG 9 (svs Tryz.prog [22] dss) [] (.d (.bool true)) [] := by
  obtain ⟨x, rfl, hx⟩ := inv1 h
  obtain ⟨l, h1, h2, h3⟩ := ints_arg hx
  obtain ⟨_, _, rfl, _⟩ := hx
  exact (groupSound_law l h1).arg h2
theorem groupSound_lifted (os : Os) (started : os.Started) (H : Type) (enc : TypeId × Value → H) :
    ReturnsInHanded {} Tryz.checked os 9 .any (fun w args => (Rows.groupSoundSpec.pre enc Tryz.prog Tryz.f9 [] false w args ∧ laidMetH Tryz.prog laidL w) ∧ sizedMet enc Tryz.prog Tryz.f9 (OpenSpec.ofChange Rows.groupSoundSpec) false w args)
      (Rows.groupSoundSpec.post enc Tryz.prog Tryz.f9 false true false false) := by
  refine returnsInHanded_of_change_and (C := Tryz.checked) (X := fun w _ => laidMetH Tryz.prog laidL w) (fun _ _ _ hh h => h.of_heap hh) own started (by kernel_rfl) Tryz.func9
    (ChangeSpec.witness_shaped (enc := enc) (C := Tryz.checked) (os := os) (X := fun w _ => laidMetH Tryz.prog laidL w) false (World.doorLaid Tryz.prog 400 os) #[.slice none 0 0] 8 rfl (World.shaped_of_RefB (by kernel_rfl) (by kernel_rfl)) (by kernel_rfl) (by kernel_rfl) (by kernel_rfl) (door_met os _)) ?_
  intro W base args ds gs before hval hW hcnd hsz hL _
  refine law_contract (P := Tryz.prog) (ts := [22]) (bt := 4) (G := GG) laidOut (by rw [Tryz.params9]) (by kernel_rfl) Tryz.underlying4 (by kernel_rfl) rfl ?_ groupSound_all hval hW hsz (gok hL)
  intro ds h
  match ds, h with
  | [_], _ => rfl
theorem groupSound_over : Rows.groupSoundRow.holds Tryz.pinned (OpenSpec.ofChange Rows.groupSoundSpec) :=
  OpenClaim.holds_of_wide 9 Tryz.f9 rfl rfl rfl rfl rfl rfl rfl ⟨rfl, rfl, rfl, rfl, rfl⟩ rfl rfl rfl rfl rfl (by kernel_rfl) Tryz.func9 (by kernel_rfl)
    (of_decide_eq_true (by kernel_rfl)) (by unfold Func.isWrapper; first | (rw [if_pos (by decide +kernel)]; kernel_rfl) | (rw [if_neg (by decide +kernel)]; exact ⟨rfl, rfl⟩))
    (fun os started H enc _ => groupSound_lifted os started H enc)
theorem groupSound_plain : ∀ t ∈ [22], Tryz.prog.wantsStandIn t = false := by
  intro t ht
  simp only [List.mem_cons, List.not_mem_nil, or_false] at ht
  rcases ht with rfl <;> kernel_rfl
theorem groupSound_proved : Rows.GroupSoundCardSaid :=
  Claim7.holds_tied_plain_at .later [] [.data] true (true, "b01a978d79b23bb570124d2eddeea5731d9cb684bc1d25a1536c8487172713c4") false
    groupSound_over (fun _ h => by cases h) (by kernel_rfl) (fun _ h => by cases h) groupSound_row_tie rfl ⟨rfl, rfl⟩ (by kernel_rfl) rfl
    (fun f fn hf hfn => by
      obtain rfl : f = 9 := Option.some.inj ((show Tryz.prog.funcNamed Rows.groupSoundRow.func = some 9 by kernel_rfl).symm.trans hf) |>.symm
      obtain rfl : fn = Tryz.f9 := (Option.some.inj (Tryz.func9.symm.trans hfn)).symm
      exact ⟨by kernel_rfl, fun j t ht => groupSound_plain t (by
        rw [Tryz.params9] at ht
        exact List.mem_of_getElem? (by simpa using ht))⟩)
    (by kernel_rfl)
#print axioms groupSound_proved
end Go.Proofs.YtegbenagmciegaaGreatDoor
