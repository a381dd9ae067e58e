/- The law ReplicaWrites: the walk through its code and the claim. -/
import Derived.Test.YtchfacjjaahdnaaDoorLaw24
namespace Go.Proofs.YtchfacjjaahdnaaDoor
open Go Go.Sx Go.ChangeShapes Go.WideShapes Go.ChangeAt Go.WideMaps Go.WideElems Go.RowKit
set_option linter.unusedVariables false
set_option linter.unusedSimpArgs false
set_option maxRecDepth 100000
theorem noCopy_small : Small noCopy := ⟨by simp [noCopy], by simp [noCopy], by simp [noCopy, noPart], by simp [noCopy, noPart]⟩

theorem default_small : Small (default : CopyT) := ⟨by simp [default], by simp [default], by simp [default], by simp [default]⟩
theorem append_small {c : CopyT} {w : Wr} (h : CopyB 101 c) : Small (appendC c w).1 := by
  obtain ⟨h1, h2, h3, h4⟩ := CopyB.small h (by omega)
  have := h.pend
  unfold appendC
  split
  · exact noCopy_small
  · split
    · exact noCopy_small
    · split
      · exact noCopy_small
      · exact ⟨h1, by simp only [List.length_append, List.length_singleton]; omega, h3, h4⟩
theorem commit_small {c : CopyT} (h : Small c) : Small (commitC c).1 := by
  unfold commitC
  split
  · exact noCopy_small
  · split
    · exact noCopy_small
    · split
      · exact noCopy_small
      · rename_i h1 h2 h3
        obtain ⟨_, hv⟩ := commit_valid (c := c) (by simpa using h1) h2 h3
        exact small_of h hv rfl rfl
theorem settleC_small : ∀ (n : Nat) (c : CopyT), Small c → Small (settleC n c).1
  | 0, c, h => h
  | n + 1, c, h => by
    unfold settleC
    split
    · exact h
    · split
      · exact settleC_small n _ (commit_small h)
      · exact noCopy_small
theorem settle_small {c : CopyT} (h : Small c) : Small (settleF c).1 := by
  unfold settleF
  split
  · exact noCopy_small
  · exact settleC_small _ _ h
set_option maxHeartbeats 8000000 in
theorem replicaWrites_law (l : List Int) (raw : CopyT) (hl : ∀ x ∈ l, -9223372036854775808 ≤ x ∧ x < 9223372036854775808) (hraw : CopyI raw) : Sx.Spec Tryd.prog GG 8 [.d (encL encI 1 l), .agg (copyL raw)] [] (.d (.bool true)) [] := by
  refine spec_intro (E := EE) (fn := Tryd.f8) eok (by kernel_rfl) (by kernel_rfl) Tryd.call8 (by kernel_rfl) (by kernel_rfl) ?_
  conv => whnf
  repeat' first
    | (refine call_intro (small_spec raw) ?_ (by first | exact .inl rfl | exact .inr ⟨rfl, rfl⟩); (conv => whnf))
    | (refine bc_true (by assumption) ?_; (conv => whnf))
    | (refine bc_false (by assumption) ?_; (conv => whnf))
    | (refine need_intro ?_ ?_; (conv => whnf))
    | (refine wk_refl ?_; (conv => whnf))
    | (refine draw_intro (by kernel_rfl) ?_; (conv => whnf))
    | (refine ord_intro (by kernel_rfl) ?_; (conv => whnf))
  refine bc_intro (fun _ => ?_) (fun hsm => ?_)
  · conv => whnf
    conv => whnf
    repeat' first
      | (refine call_intro (awake_spec) ?_ (by first | exact .inl rfl | exact .inr ⟨rfl, rfl⟩); (conv => whnf))
      | (refine bc_true (by assumption) ?_; (conv => whnf))
      | (refine bc_false (by assumption) ?_; (conv => whnf))
      | (refine bc_intro (fun _ => ?_) (fun _ => ?_) <;> (conv => whnf))
      | (refine need_intro ?_ ?_; (conv => whnf))
      | (refine wk_refl ?_; (conv => whnf))
      | (refine draw_intro (by kernel_rfl) ?_; (conv => whnf))
      | (refine ord_intro (by kernel_rfl) ?_; (conv => whnf))
    exact ⟨LeS.refl _, trivial⟩
  conv => whnf
  have hr := small_b hraw (by simpa using hsm)
  conv => whnf
  repeat' first
    | (refine call_some (new_ex 2000 hl) (fun _ => by first | exact .inl rfl | exact .inr ⟨rfl, rfl⟩) ?_; rintro ⟨tl, ta⟩ hT; (conv => whnf))
    | (refine call_some_if (copy_ex _) (fun _ => by first | exact .inl rfl | exact .inr ⟨rfl, rfl⟩) (need_intro ?_ ?_); rintro ⟨x, b⟩ ⟨h1, h2⟩; (conv => whnf))
    | (refine call_some_if (oddCopy_ex (n := 100) _ _) (fun _ => by first | exact .inl rfl | exact .inr ⟨rfl, rfl⟩) (need_intro ?_ ?_); rintro ⟨z, b⟩ ⟨h5, h6⟩; (conv => whnf))
    | (refine bc_true (by assumption) ?_; (conv => whnf))
    | (refine bc_false (by assumption) ?_; (conv => whnf))
    | (refine need_intro ?_ ?_; (conv => whnf))
    | (refine wk_refl ?_; (conv => whnf))
    | (refine draw_intro (by kernel_rfl) ?_; (conv => whnf))
    | (refine ord_intro (by kernel_rfl) ?_; (conv => whnf))
  all_goals try first
    | assumption
    | exact ⟨by assumption, CopyB.mono (n := 10) (by omega) (by assumption), by omega, by omega⟩
  have hq := getD_allC (L := [x, z, raw]) (Q := CopyB 101) (by
    intro c hc
    simp only [List.mem_cons, List.not_mem_nil, or_false] at hc
    rcases hc with rfl | rfl | rfl
    · exact CopyB.mono (by omega) h1
    · exact CopyB.mono (by omega) h5
    · exact hr.mono (by omega)) default_b
  refine loop_auto [4, 5, 38] [] (fun s : Nat × Nat => [(37, .d (encL encCopy 30 [x, z, raw])), (39, .d (.int .i64 s.1))]) (fun s => [(2000, tapeB tl s.2)]) (fun s => s.1 ≤ 3 ∧ TapeOk tl s.2) (fun s => 3 - s.1) (0, b) ?_ (fun s hs => ?_) ⟨by omega, h6⟩
  · conv => whnf
    repeat' first
      | (refine bc_true (by assumption) ?_; (conv => whnf))
      | (refine bc_false (by assumption) ?_; (conv => whnf))
      | (refine bc_intro (fun _ => ?_) (fun _ => ?_) <;> (conv => whnf))
      | (refine need_intro ?_ ?_; (conv => whnf))
      | (refine wk_refl ?_; (conv => whnf))
      | (refine draw_intro (by kernel_rfl) ?_; (conv => whnf))
      | (refine ord_intro (by kernel_rfl) ?_; (conv => whnf))
    all_goals first | exact ⟨rfl, rfl⟩ | exact ⟨rfl, rfl, rfl⟩ | exact DLe.refl _ | exact RowLe.refl _ _ _ | exact trivial | (refine dle_lit (by kernel_rfl) rfl (.all ?_); (repeat' first | exact trivial | exact rfl | apply And.intro); done) | (refine dle_lit (by kernel_rfl) rfl (.allD ?_); (repeat' first | exact trivial | exact DLe.refl _ | exact DLe.nil | exact DLe.rows rfl row_zero | apply And.intro); done) | trace_state
  · obtain ⟨i, b⟩ := s
    obtain ⟨hi, hb⟩ := hs
    simp only at hi hb
    have hs : IntKind.i64.wrap ((i : Int) + 1) = ((i + 1 : Nat) : Int) := wrap_succ (n := 10) (by omega) (by omega)
    have hqi := hq (i : Int).toNat
    generalize hc : [x, z, raw].getD (i : Int).toNat default = c at hqi
    have hqs := CopyB.small hqi (by omega)
    subst hc
    conv => whnf
    repeat' first
      | (refine call_some_if (write_ex _) (fun _ => by first | exact .inl rfl | exact .inr ⟨rfl, rfl⟩) (need_intro ?_ ?_); rintro ⟨w, b⟩ ⟨⟨h7, h8⟩, h9⟩; (conv => whnf))
      | (refine call_intro (emptyRr_spec _ _ _ _) ?_ (by first | exact .inl rfl | exact .inr ⟨rfl, rfl⟩); (conv => whnf))
      | (refine call_some_if (bool_ex _) (fun _ => by first | exact .inl rfl | exact .inr ⟨rfl, rfl⟩) (need_intro ?_ ?_); rintro ⟨v, b⟩ h9; (conv => whnf))
      | (refine call_some_if (writeIn_ex _) (fun _ => by first | exact .inl rfl | exact .inr ⟨rfl, rfl⟩) (need_intro ?_ ?_); rintro ⟨w, b⟩ ⟨⟨h7, h8⟩, h9⟩; (conv => whnf))
      | (refine call_if (appendp_spec _ _ _ _) (by first | exact .inl rfl | exact .inr ⟨rfl, rfl⟩) (need_intro ?_ ?_); (conv => whnf))
      | (refine call_if (appendr_spec _ _ _ _) (by first | exact .inl rfl | exact .inr ⟨rfl, rfl⟩) (need_intro ?_ ?_); (conv => whnf))
      | (refine call_if (sameE_spec _ _ _ _) (by first | exact .inl rfl | exact .inr ⟨rfl, rfl⟩) (need_intro ?_ ?_); (conv => whnf))
      | (refine call_intro (awake_spec) ?_ (by first | exact .inl rfl | exact .inr ⟨rfl, rfl⟩); (conv => whnf))
      | (refine NextVC.mk (i + 1, b) ?_ ?_ ?_; (conv => whnf))
      | (refine bc_true (by assumption) ?_; (conv => whnf))
      | (refine bc_false (by assumption) ?_; (conv => whnf))
      | (refine bc_intro (fun _ => ?_) (fun _ => ?_) <;> (conv => whnf))
      | (refine need_intro ?_ ?_; (conv => whnf))
      | (refine wk_refl ?_; (conv => whnf))
      | (refine draw_intro (by kernel_rfl) ?_; (conv => whnf))
      | (refine ord_intro (by kernel_rfl) ?_; (conv => whnf))
    all_goals try simp only [Bool.not_eq_true', Bool.not_eq_false', decide_eq_true_eq, decide_eq_false_iff_not] at *
    all_goals try first
      | omega
      | assumption
      | exact ⟨LeS.refl _, trivial⟩
      | exact ⟨by omega, by omega⟩
      | exact ⟨by assumption, by assumption⟩
      | exact ⟨by assumption, by omega, by omega⟩
      | exact ⟨append_small hqi, append_small hqi⟩
      | (exfalso; simp [sameC_refl] at *; done)
    all_goals
      refine loop_auto [4, 5, 37, 38, 39, 78] [2000] (fun j : Nat => [(77, .d (encL encCopy 30 [[x, z, raw].getD (i : Int).toNat default, (appendC ([x, z, raw].getD (i : Int).toNat default) (w.1, w.2.1, w.2.2)).1])), (79, .d (.int .i64 j))]) (fun j => []) (fun j => j ≤ 2) (fun j => 2 - j) 0 ?_ (fun j hj => ?_) (by omega)
      · conv => whnf
        repeat' first
          | (refine bc_true (by assumption) ?_; (conv => whnf))
          | (refine bc_false (by assumption) ?_; (conv => whnf))
          | (refine bc_intro (fun _ => ?_) (fun _ => ?_) <;> (conv => whnf))
          | (refine need_intro ?_ ?_; (conv => whnf))
          | (refine wk_refl ?_; (conv => whnf))
          | (refine draw_intro (by kernel_rfl) ?_; (conv => whnf))
          | (refine ord_intro (by kernel_rfl) ?_; (conv => whnf))
        all_goals first | exact ⟨rfl, rfl⟩ | exact ⟨rfl, rfl, rfl⟩ | exact DLe.refl _ | exact RowLe.refl _ _ _ | exact trivial | (refine dle_lit (by kernel_rfl) rfl (.all ?_); (repeat' first | exact trivial | exact rfl | apply And.intro); done) | (refine dle_lit (by kernel_rfl) rfl (.allD ?_); (repeat' first | exact trivial | exact DLe.refl _ | exact DLe.nil | exact DLe.rows rfl row_zero | apply And.intro); done) | trace_state
      · have hs' := hs
        have hs : IntKind.i64.wrap ((j : Int) + 1) = ((j + 1 : Nat) : Int) := wrap_succ (n := 10) (by omega) (by omega)
        have hd := getD_allC (L := [[x, z, raw].getD (i : Int).toNat default, (appendC ([x, z, raw].getD (i : Int).toNat default) (w.1, w.2.1, w.2.2)).1]) (Q := Small) (by
          intro c hc
          simp only [List.mem_cons, List.not_mem_nil, or_false] at hc
          rcases hc with rfl | rfl
          · exact hqs
          · exact append_small hqi) default_small (j : Int).toNat
        conv => whnf
        repeat' first
          | (refine call_if (commitp_spec _) (by first | exact .inl rfl | exact .inr ⟨rfl, rfl⟩) (need_intro ?_ ?_); (conv => whnf))
          | (refine call_if (commitr_spec _) (by first | exact .inl rfl | exact .inr ⟨rfl, rfl⟩) (need_intro ?_ ?_); (conv => whnf))
          | (refine call_if (settlep_spec _) (by first | exact .inl rfl | exact .inr ⟨rfl, rfl⟩) (need_intro ?_ ?_); (conv => whnf))
          | (refine call_if (settler_spec _) (by first | exact .inl rfl | exact .inr ⟨rfl, rfl⟩) (need_intro ?_ ?_); (conv => whnf))
          | (refine call_if (sameE_spec _ _ _ _) (by first | exact .inl rfl | exact .inr ⟨rfl, rfl⟩) (need_intro ?_ ?_); (conv => whnf))
          | (refine NextVC.mk (i + 1, b) ?_ ?_ ?_; (conv => whnf))
          | (refine NextVC.mk (j + 1) ?_ ?_ ?_; (conv => whnf))
          | (refine bc_true (by assumption) ?_; (conv => whnf))
          | (refine bc_false (by assumption) ?_; (conv => whnf))
          | (refine bc_intro (fun _ => ?_) (fun _ => ?_) <;> (conv => whnf))
          | (refine need_intro ?_ ?_; (conv => whnf))
          | (refine wk_refl ?_; (conv => whnf))
          | (refine draw_intro (by kernel_rfl) ?_; (conv => whnf))
          | (refine ord_intro (by kernel_rfl) ?_; (conv => whnf))
        all_goals try simp only [decide_eq_true_eq, decide_eq_false_iff_not] at *
        all_goals first
          | omega
          | exact trivial
          | assumption
          | exact DLe.refl _
          | exact DLe.of_eq (by rw [hs])
          | exact DLe.of_eq (by rw [hs'])
          | exact ⟨by omega, by omega⟩
          | exact ⟨by omega, by assumption⟩
          | exact ⟨commit_small hd, commit_small hd⟩
          | exact ⟨settle_small hd, settle_small hd⟩
          | (exfalso; simp [sameC_refl] at *; done)
          | trace_state
theorem replicaWrites_all (dss : List (List D)) (h : All2 (wfT Tryd.prog reachBytes 12) [22, 34] dss) : Sx.Spec Tryd.prog GG 8 (svs Tryd.prog [22, 34] dss) [] (.d (.bool true)) [] := by
  obtain ⟨x, y, rfl, hx, hy⟩ := inv2 h
  obtain ⟨l, h1, h2, h3⟩ := ints_arg hx
  obtain ⟨raw, h4, h5⟩ := copy_wf (f := 5) (by decide) hy
  obtain ⟨_, _, rfl, _⟩ := hx
  exact (replicaWrites_law l raw h1 h4).arg (leL_app h2 (LeL.cons (LeS.agg h5) LeL.nil))
theorem replicaWrites_lifted (os : Os) (started : os.Started) (H : Type) (enc : TypeId × Value → H) :
    ReturnsInHanded {} Tryd.checked os 8 .any (fun w args => (Rows.replicaWritesSpec.pre enc Tryd.prog Tryd.f8 [] false w args ∧ laidMetH Tryd.prog laidL w) ∧ sizedMet enc Tryd.prog Tryd.f8 (OpenSpec.ofChange Rows.replicaWritesSpec) false w args)
      (Rows.replicaWritesSpec.post enc Tryd.prog Tryd.f8 false true false false) := by
  refine returnsInHanded_of_change_and (C := Tryd.checked) (X := fun w _ => laidMetH Tryd.prog laidL w) (fun _ _ _ hh h => h.of_heap hh) own started (by kernel_rfl) Tryd.func8
    (ChangeSpec.witness_shaped (enc := enc) (C := Tryd.checked) (os := os) (X := fun w _ => laidMetH Tryd.prog laidL w) false (World.doorLaid Tryd.prog 400 os) #[.slice none 0 0, .agg #[.string ⟨#[]⟩, .bool false, .string ⟨#[]⟩, .bool false, .int .i64 0, .int .i64 0, .slice none 0 0, .slice none 0 0, .int .i64 0, .int .i64 0, .int .i64 0, .int .i64 0, .int .i64 0, .string ⟨#[]⟩, .bool false, .string ⟨#[]⟩, .bool false, .slice none 0 0, .int .i64 0, .int .i64 0, .int .i64 0, .int .i64 0, .int .i64 0, .string ⟨#[]⟩, .bool false, .string ⟨#[]⟩, .bool false, .slice none 0 0, .int .i64 0, .int .i64 0]] 8 rfl (World.shaped_of_RefB (by kernel_rfl) (by kernel_rfl)) (by kernel_rfl) (by kernel_rfl) (by kernel_rfl) (door_met os _)) ?_
  intro W base args ds gs before hval hW hcnd hsz hL _
  refine law_contract (P := Tryd.prog) (ts := [22, 34]) (bt := 4) (G := GG) laidOut (by rw [Tryd.params8]) (by kernel_rfl) Tryd.underlying4 (by kernel_rfl) rfl ?_ replicaWrites_all hval hW hsz (gok hL)
  intro ds h
  match ds, h with
  | [_, _], _ => rfl
theorem replicaWrites_over : Rows.replicaWritesRow.holds Tryd.pinned (OpenSpec.ofChange Rows.replicaWritesSpec) :=
  OpenClaim.holds_of_wide 8 Tryd.f8 rfl rfl rfl rfl rfl rfl rfl ⟨rfl, rfl, rfl, rfl, rfl⟩ rfl rfl rfl rfl rfl (by kernel_rfl) Tryd.func8 (by kernel_rfl)
    (of_decide_eq_true (by kernel_rfl)) (by unfold Func.isWrapper; first | (rw [if_pos (by decide +kernel)]; kernel_rfl) | (rw [if_neg (by decide +kernel)]; exact ⟨rfl, rfl⟩))
    (fun os started H enc _ => replicaWrites_lifted os started H enc)
theorem replicaWrites_plain : ∀ t ∈ [22, 34], Tryd.prog.wantsStandIn t = false := by
  intro t ht
  simp only [List.mem_cons, List.not_mem_nil, or_false] at ht
  rcases ht with rfl | rfl <;> kernel_rfl
theorem replicaWrites_proved : Rows.ReplicaWritesCardSaid :=
  Claim7.holds_tied_plain_at .later [] [.data] true (true, "b8c9dcd8191ed71740a4ac80bc30765b96fa06e695fb428c9ca2be74d3c2a2d9") false
    replicaWrites_over (fun _ h => by cases h) (by kernel_rfl) (fun _ h => by cases h) replicaWrites_row_tie rfl ⟨rfl, rfl⟩ (by kernel_rfl) rfl
    (fun f fn hf hfn => by
      obtain rfl : f = 8 := Option.some.inj ((show Tryd.prog.funcNamed Rows.replicaWritesRow.func = some 8 by kernel_rfl).symm.trans hf) |>.symm
      obtain rfl : fn = Tryd.f8 := (Option.some.inj (Tryd.func8.symm.trans hfn)).symm
      exact ⟨by kernel_rfl, fun j t ht => replicaWrites_plain t (by
        rw [Tryd.params8] at ht
        exact List.mem_of_getElem? (by simpa using ht))⟩)
    (by kernel_rfl)
#print axioms replicaWrites_proved

