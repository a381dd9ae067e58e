/- The law ReplicaAttaches: the walk through its code and the claim. -/
import Derived.Test.YtchfacjjaahdnaaDoorLaw24
namespace Go.Proofs.YtchfacjjaahdnaaDoor
open Go Go.Sx Go.ChangeShapes Go.WideShapes Go.ChangeAt Go.WideMaps Go.WideElems Go.RowKit
set_option linter.unusedVariables false
set_option linter.unusedSimpArgs false
set_option maxRecDepth 100000

theorem attach_small {c : CopyT} (h : Small c) (hn : c.rows.length + c.inn.rows.length ≤ 1000000) : Small (attachC c).1 := by
  have h0 : Small noCopy := ⟨by simp [noCopy], by simp [noCopy], by simp [noCopy, noPart], by simp [noCopy, noPart]⟩
  obtain ⟨h1, h2, h3, h4⟩ := h
  unfold attachC
  split
  · unfold joinC
    repeat' split
    all_goals refine ⟨?_, ?_, ?_, ?_⟩
    all_goals first
      | exact h2
      | exact h3
      | (simp [noCopy, noPart]; done)
      | (simp only [List.length_append]; omega)
  · exact h0
theorem reattach_small {c : CopyT} (h : Small c) (hn : c.rows.length + c.out.rows.length ≤ 1000000) : Small (reattachC c).1 := by
  have h0 : Small noCopy := ⟨by simp [noCopy], by simp [noCopy], by simp [noCopy, noPart], by simp [noCopy, noPart]⟩
  obtain ⟨h1, h2, h3, h4⟩ := h
  unfold reattachC
  split
  · unfold joinC
    repeat' split
    all_goals refine ⟨?_, ?_, ?_, ?_⟩
    all_goals first
      | exact h2
      | exact h4
      | (simp [noCopy, noPart]; done)
      | (simp only [List.length_append]; omega)
  · exact h0
theorem subR_key {c : CopyT} {n : Nat} (hc : CopyB n c) (i : Nat) : ((subR ([], false, [], true) c.rng).getD i default).1.length ≤ 200000000000000 := by
  rcases Nat.lt_or_ge i (subR ([], false, [], true) c.rng).length with hi | hi
  · exact sub_keys (by simp) (by simp) hc.hk (getD_mem hi)
  · have e : (subR ([], false, [], true) c.rng).getD i default = default := by simp [List.getD, hi]
    rw [e]; simp [default]
set_option maxHeartbeats 8000000 in
theorem beside0 {l : List Int} {a : Nat} (c : CopyT) : (TapeOk l a ∧ CopyB 10 c) → ∃ x : CopyT × Nat, (CopyB 20 x.1 ∧ TapeOk l x.2) ∧ Sx.Spec Tryd.prog GG 38 [.ptr 1000 0, .agg (copyL c)] [(1000, tapeB l a)] (.agg (copyL x.1)) [(1000, tapeB l x.2)] := by
  rintro ⟨h, hc⟩
  have hlk : ∀ i, _ := fun i => subR_key hc i
  have hsl : (subR ([], false, [], true) (c.lk, c.lt, c.hk, c.ht)).length ≤ 2 := subR_len
  refine spec_some (E := EE) (fn := Tryd.f38) _ _ _ false eok (by kernel_rfl) (by kernel_rfl) Tryd.call38 (by kernel_rfl) (fun _ => by kernel_rfl) (fun _ => by kernel_rfl) ?_
  conv => whnf
  repeat' first
    | (refine call_intro (all_spec) ?_ (by first | exact .inl rfl | exact .inr ⟨rfl, rfl⟩); (conv => whnf))
    | (refine call_intro (subtract_spec _ _ _ _ _ _ _ _) ?_ (by first | exact .inl rfl | exact .inr ⟨rfl, rfl⟩); (conv => whnf))
    | (refine bc_true (by assumption) ?_; (conv => whnf))
    | (refine bc_false (by assumption) ?_; (conv => whnf))
    | (refine need_intro ?_ ?_; (conv => whnf))
    | (refine wk_refl ?_; (conv => whnf))
    | (refine draw_intro (by kernel_rfl) ?_; (conv => whnf))
    | (refine ord_intro (by kernel_rfl) ?_; (conv => whnf))
  conv => whnf
  repeat' first
    | (refine call_some_if (bool_ex _) (fun _ => by first | exact .inl rfl | exact .inr ⟨rfl, rfl⟩) (need_intro ?_ ?_); rintro ⟨v, b⟩ h1; (conv => whnf))
    | (refine call_some_if (next_ex _) (fun _ => by first | exact .inl rfl | exact .inr ⟨rfl, rfl⟩) (need_intro ?_ ?_); rintro ⟨v, b⟩ ⟨⟨h1, h2⟩, h3⟩; (conv => whnf))
    | (refine call_some_if (part_ex _) (fun _ => by first | exact .inl rfl | exact .inr ⟨rfl, rfl⟩) (need_intro ?_ ?_); rintro ⟨p, b⟩ ⟨hp, h3⟩; (conv => whnf))
    | (refine call_some_if (writeIn_ex _) (fun _ => by first | exact .inl rfl | exact .inr ⟨rfl, rfl⟩) (need_intro ?_ ?_); rintro ⟨w, b⟩ ⟨⟨h1, h2⟩, h3⟩; (conv => whnf))
    | (refine call_intro (emptyRr_spec _ _ _ _) ?_ (by first | exact .inl rfl | exact .inr ⟨rfl, rfl⟩); (conv => whnf))
    | (refine bc_true (by assumption) ?_; (conv => whnf))
    | (refine bc_false (by assumption) ?_; (conv => whnf))
    | (refine bc_intro (fun _ => ?_) (fun _ => ?_) <;> (conv => whnf))
    | (refine need_intro ?_ ?_; (conv => whnf))
    | (refine wk_refl ?_; (conv => whnf))
    | (refine draw_intro (by kernel_rfl) ?_; (conv => whnf))
    | (refine ord_intro (by kernel_rfl) ?_; (conv => whnf))
  all_goals try simp only [cellsWr, bytesWr, true_and, and_true, Bool.not_eq_true', Bool.not_eq_false', decide_eq_true_eq, decide_eq_false_iff_not] at *
  all_goals try first
    | omega
    | assumption
    | exact ⟨by omega, by omega⟩
    | exact ⟨by assumption, by omega, by omega⟩
    | exact ⟨by assumption, by assumption⟩
    | (refine Nat.le_trans (Nat.add_le_add_right (hlk _) _) ?_; simp; done)
    | (rename_i hz _; have hz' := of_decide_eq_false hz; omega)
    | (simp only [beq_eq_false_iff_ne, ne_eq] at *; omega)
  all_goals try
    (apply Exists.intro (w := (CopyT.mk _ _ _ _ _ _ _ _ (PartT.mk _ _ _ _ _ _ _ _ _ _) (PartT.mk _ _ _ _ _ _ _ _ _ _) _ _, _))
     refine And.intro ?cb ⟨LeS.agg ?le, LeL.refl _, trivial⟩
     case le =>
       dsimp only [copyL]
       repeat' first
         | exact LeL.nil
         | refine LeL.cons ?_ ?_
       all_goals first
         | exact les_own rfl
         | exact les_row (ys := [_]) rfl (.all (by repeat' first | exact trivial | exact rfl | apply And.intro))
         | exact les_nil rfl
         | exact LeS.refl _
     case cb =>
       refine ⟨⟨Nat.le_trans hc.rows (by omega), ?_, ?_, ?_, hc.took, hc.src, hc.se, hc.sv, hc.lk, hc.hk⟩, by assumption⟩
       all_goals first
         | exact noPart_b
         | (simp only [List.length_nil, List.length_singleton]; omega)
         | (refine PartB.mono (n := 3) (by omega) ?_; assumption)
         | trace_state
     done)
  all_goals trace_state
theorem beside_ex (m : Nat) {l : List Int} {a : Nat} (c : CopyT) : (TapeOk l a ∧ CopyB 10 c) → ∃ x : CopyT × Nat, (CopyB 20 x.1 ∧ TapeOk l x.2) ∧ Sx.Spec Tryd.prog GG 38 [.ptr m 0, .agg (copyL c)] [(m, tapeB l a)] (.agg (copyL x.1)) [(m, tapeB l x.2)] := fun h => by
  obtain ⟨x, hx, hs⟩ := beside0 c h
  exact ⟨x, hx, hs.at m⟩
set_option maxHeartbeats 8000000 in
theorem replicaAttaches_law (l : List Int) (raw : CopyT) (hl : ∀ x ∈ l, -9223372036854775808 ≤ x ∧ x < 9223372036854775808) (hraw : CopyI raw) : Sx.Spec Tryd.prog GG 6 [.d (encL encI 1 l), .agg (copyL raw)] [] (.d (.bool true)) [] := by
  refine spec_intro (E := EE) (fn := Tryd.f6) eok (by kernel_rfl) (by kernel_rfl) Tryd.call6 (by kernel_rfl) (by kernel_rfl) ?_
  conv => whnf
  repeat' first
    | (refine call_intro (small_spec raw) ?_ (by first | exact .inl rfl | exact .inr ⟨rfl, rfl⟩); (conv => whnf))
    | (refine bc_true (by assumption) ?_; (conv => whnf))
    | (refine bc_false (by assumption) ?_; (conv => whnf))
    | (refine need_intro ?_ ?_; (conv => whnf))
    | (refine wk_refl ?_; (conv => whnf))
    | (refine draw_intro (by kernel_rfl) ?_; (conv => whnf))
    | (refine ord_intro (by kernel_rfl) ?_; (conv => whnf))
  refine bc_intro (fun _ => ?_) (fun hsm => ?_)
  · conv => whnf
    conv => whnf
    repeat' first
      | (refine call_intro (awake_spec) ?_ (by first | exact .inl rfl | exact .inr ⟨rfl, rfl⟩); (conv => whnf))
      | (refine bc_true (by assumption) ?_; (conv => whnf))
      | (refine bc_false (by assumption) ?_; (conv => whnf))
      | (refine bc_intro (fun _ => ?_) (fun _ => ?_) <;> (conv => whnf))
      | (refine need_intro ?_ ?_; (conv => whnf))
      | (refine wk_refl ?_; (conv => whnf))
      | (refine draw_intro (by kernel_rfl) ?_; (conv => whnf))
      | (refine ord_intro (by kernel_rfl) ?_; (conv => whnf))
    exact ⟨LeS.refl _, trivial⟩
  conv => whnf
  have hr := small_b hraw (by simpa using hsm)
  conv => whnf
  repeat' first
    | (refine call_some (new_ex 2000 hl) (fun _ => by first | exact .inl rfl | exact .inr ⟨rfl, rfl⟩) ?_; rintro ⟨tl, ta⟩ hT; (conv => whnf))
    | (refine call_some_if (copy_ex _) (fun _ => by first | exact .inl rfl | exact .inr ⟨rfl, rfl⟩) (need_intro ?_ ?_); rintro ⟨x, b⟩ ⟨h1, h2⟩; (conv => whnf))
    | (refine call_some_if (beside_ex _ _) (fun _ => by first | exact .inl rfl | exact .inr ⟨rfl, rfl⟩) (need_intro ?_ ?_); rintro ⟨x, b⟩ ⟨h1, h2⟩; (conv => whnf))
    | (refine call_some_if (oddCopy_ex _ _ (n := 100)) (fun _ => by first | exact .inl rfl | exact .inr ⟨rfl, rfl⟩) (need_intro ?_ ?_); rintro ⟨z, b⟩ ⟨h5, h6⟩; (conv => whnf))
    | (refine bc_true (by assumption) ?_; (conv => whnf))
    | (refine bc_false (by assumption) ?_; (conv => whnf))
    | (refine need_intro ?_ ?_; (conv => whnf))
    | (refine wk_refl ?_; (conv => whnf))
    | (refine draw_intro (by kernel_rfl) ?_; (conv => whnf))
    | (refine ord_intro (by kernel_rfl) ?_; (conv => whnf))
  all_goals try first
    | assumption
    | exact ⟨by assumption, by assumption⟩
    | exact ⟨by assumption, CopyB.mono (n := 20) (by omega) (by assumption), by omega, by omega⟩
  rename_i x0 b0 p0 q0 x1 b1 p1 q1 x2 b2 p2 q2 x3 b3 p3 q3 b4
  have hq := getD_allC (L := [x1, x3, x, z, raw]) (Q := CopyB 200) (by
    intro c hc
    simp only [List.mem_cons, List.not_mem_nil, or_false] at hc
    rcases hc with rfl | rfl | rfl | rfl | rfl
    · exact CopyB.mono (by omega) p1
    · exact CopyB.mono (by omega) p3
    · exact CopyB.mono (by omega) h1
    · exact CopyB.mono (by omega) h5
    · exact hr.mono (by omega)) default_b
  refine loop_auto [4, 39] [] (fun j : Nat => [(38, .d (encL encCopy 30 [x1, x3, x, z, raw])), (40, .d (.int .i64 j))]) (fun j => []) (fun j => j ≤ 5) (fun j => 5 - j) 0 ?_ (fun j hj => ?_) (by omega)
  · conv => whnf
    repeat' first
      | (refine bc_true (by assumption) ?_; (conv => whnf))
      | (refine bc_false (by assumption) ?_; (conv => whnf))
      | (refine bc_intro (fun _ => ?_) (fun _ => ?_) <;> (conv => whnf))
      | (refine need_intro ?_ ?_; (conv => whnf))
      | (refine wk_refl ?_; (conv => whnf))
      | (refine draw_intro (by kernel_rfl) ?_; (conv => whnf))
      | (refine ord_intro (by kernel_rfl) ?_; (conv => whnf))
    all_goals first | exact ⟨rfl, rfl⟩ | exact ⟨rfl, rfl, rfl⟩ | exact DLe.refl _ | exact RowLe.refl _ _ _ | exact trivial | (refine dle_lit (by kernel_rfl) rfl (.all ?_); (repeat' first | exact trivial | exact rfl | apply And.intro); done) | (refine dle_lit (by kernel_rfl) rfl (.allD ?_); (repeat' first | exact trivial | exact DLe.refl _ | exact DLe.nil | exact DLe.rows rfl row_zero | apply And.intro); done) | trace_state
  · have hs : IntKind.i64.wrap ((j : Int) + 1) = ((j + 1 : Nat) : Int) := wrap_succ (n := 10) (by omega) (by omega)
    have hqj := hq (j : Int).toNat
    have hqs := CopyB.small hqj (by omega)
    have hq1 := hqj.rows
    have hq2 := hqj.out.rows
    have hq3 := hqj.inn.rows
    conv => whnf
    repeat' first
      | (refine call_if (attachp_spec _) (by first | exact .inl rfl | exact .inr ⟨rfl, rfl⟩) (need_intro ?_ ?_); (conv => whnf))
      | (refine call_if (attachr_spec _) (by first | exact .inl rfl | exact .inr ⟨rfl, rfl⟩) (need_intro ?_ ?_); (conv => whnf))
      | (refine call_if (reattachp_spec _) (by first | exact .inl rfl | exact .inr ⟨rfl, rfl⟩) (need_intro ?_ ?_); (conv => whnf))
      | (refine call_if (reattachr_spec _) (by first | exact .inl rfl | exact .inr ⟨rfl, rfl⟩) (need_intro ?_ ?_); (conv => whnf))
      | (refine call_if (sameE_spec _ _ _ _) (by first | exact .inl rfl | exact .inr ⟨rfl, rfl⟩) (need_intro ?_ ?_); (conv => whnf))
      | (refine call_intro (awake_spec) ?_ (by first | exact .inl rfl | exact .inr ⟨rfl, rfl⟩); (conv => whnf))
      | (refine NextVC.mk (j + 1) ?_ ?_ ?_; (conv => whnf))
      | (refine bc_true (by assumption) ?_; (conv => whnf))
      | (refine bc_false (by assumption) ?_; (conv => whnf))
      | (refine bc_intro (fun _ => ?_) (fun _ => ?_) <;> (conv => whnf))
      | (refine need_intro ?_ ?_; (conv => whnf))
      | (refine wk_refl ?_; (conv => whnf))
      | (refine draw_intro (by kernel_rfl) ?_; (conv => whnf))
      | (refine ord_intro (by kernel_rfl) ?_; (conv => whnf))
    all_goals try simp only [decide_eq_true_eq, decide_eq_false_iff_not] at *
    all_goals first
      | omega
      | exact trivial
      | assumption
      | exact DLe.refl _
      | exact DLe.of_eq (by rw [hs])
      | exact ⟨LeS.refl _, trivial⟩
      | exact ⟨by omega, by omega⟩
      | exact ⟨attach_small hqs (by omega), attach_small hqs (by omega)⟩
      | exact ⟨reattach_small hqs (by omega), reattach_small hqs (by omega)⟩
      | (exfalso; simp [sameC_refl] at *; done)
      | trace_state
theorem replicaAttaches_all (dss : List (List D)) (h : All2 (wfT Tryd.prog reachBytes 12) [22, 34] dss) : Sx.Spec Tryd.prog GG 6 (svs Tryd.prog [22, 34] dss) [] (.d (.bool true)) [] := by
  obtain ⟨x, y, rfl, hx, hy⟩ := inv2 h
  obtain ⟨l, h1, h2, h3⟩ := ints_arg hx
  obtain ⟨raw, h4, h5⟩ := copy_wf (f := 5) (by decide) hy
  obtain ⟨_, _, rfl, _⟩ := hx
  exact (replicaAttaches_law l raw h1 h4).arg (leL_app h2 (LeL.cons (LeS.agg h5) LeL.nil))
theorem replicaAttaches_lifted (os : Os) (started : os.Started) (H : Type) (enc : TypeId × Value → H) :
    ReturnsInHanded {} Tryd.checked os 6 .any (fun w args => (Rows.replicaAttachesSpec.pre enc Tryd.prog Tryd.f6 [] false w args ∧ laidMetH Tryd.prog laidL w) ∧ sizedMet enc Tryd.prog Tryd.f6 (OpenSpec.ofChange Rows.replicaAttachesSpec) false w args)
      (Rows.replicaAttachesSpec.post enc Tryd.prog Tryd.f6 false true false false) := by
  refine returnsInHanded_of_change_and (C := Tryd.checked) (X := fun w _ => laidMetH Tryd.prog laidL w) (fun _ _ _ hh h => h.of_heap hh) own started (by kernel_rfl) Tryd.func6
    (ChangeSpec.witness_shaped (enc := enc) (C := Tryd.checked) (os := os) (X := fun w _ => laidMetH Tryd.prog laidL w) false (World.doorLaid Tryd.prog 400 os) #[.slice none 0 0, .agg #[.string ⟨#[]⟩, .bool false, .string ⟨#[]⟩, .bool false, .int .i64 0, .int .i64 0, .slice none 0 0, .slice none 0 0, .int .i64 0, .int .i64 0, .int .i64 0, .int .i64 0, .int .i64 0, .string ⟨#[]⟩, .bool false, .string ⟨#[]⟩, .bool false, .slice none 0 0, .int .i64 0, .int .i64 0, .int .i64 0, .int .i64 0, .int .i64 0, .string ⟨#[]⟩, .bool false, .string ⟨#[]⟩, .bool false, .slice none 0 0, .int .i64 0, .int .i64 0]] 8 rfl (World.shaped_of_RefB (by kernel_rfl) (by kernel_rfl)) (by kernel_rfl) (by kernel_rfl) (by kernel_rfl) (door_met os _)) ?_
  intro W base args ds gs before hval hW hcnd hsz hL _
  refine law_contract (P := Tryd.prog) (ts := [22, 34]) (bt := 4) (G := GG) laidOut (by rw [Tryd.params6]) (by kernel_rfl) Tryd.underlying4 (by kernel_rfl) rfl ?_ replicaAttaches_all hval hW hsz (gok hL)
  intro ds h
  match ds, h with
  | [_, _], _ => rfl
theorem replicaAttaches_over : Rows.replicaAttachesRow.holds Tryd.pinned (OpenSpec.ofChange Rows.replicaAttachesSpec) :=
  OpenClaim.holds_of_wide 6 Tryd.f6 rfl rfl rfl rfl rfl rfl rfl ⟨rfl, rfl, rfl, rfl, rfl⟩ rfl rfl rfl rfl rfl (by kernel_rfl) Tryd.func6 (by kernel_rfl)
    (of_decide_eq_true (by kernel_rfl)) (by unfold Func.isWrapper; first | (rw [if_pos (by decide +kernel)]; kernel_rfl) | (rw [if_neg (by decide +kernel)]; exact ⟨rfl, rfl⟩))
    (fun os started H enc _ => replicaAttaches_lifted os started H enc)
theorem replicaAttaches_plain : ∀ t ∈ [22, 34], Tryd.prog.wantsStandIn t = false := by
  intro t ht
  simp only [List.mem_cons, List.not_mem_nil, or_false] at ht
  rcases ht with rfl | rfl <;> kernel_rfl
theorem replicaAttaches_proved : Rows.ReplicaAttachesCardSaid :=
  Claim7.holds_tied_plain_at .later [] [.data] true (true, "b8c9dcd8191ed71740a4ac80bc30765b96fa06e695fb428c9ca2be74d3c2a2d9") false
    replicaAttaches_over (fun _ h => by cases h) (by kernel_rfl) (fun _ h => by cases h) replicaAttaches_row_tie rfl ⟨rfl, rfl⟩ (by kernel_rfl) rfl
    (fun f fn hf hfn => by
      obtain rfl : f = 6 := Option.some.inj ((show Tryd.prog.funcNamed Rows.replicaAttachesRow.func = some 6 by kernel_rfl).symm.trans hf) |>.symm
      obtain rfl : fn = Tryd.f6 := (Option.some.inj (Tryd.func6.symm.trans hfn)).symm
      exact ⟨by kernel_rfl, fun j t ht => replicaAttaches_plain t (by
        rw [Tryd.params6] at ht
        exact List.mem_of_getElem? (by simpa using ht))⟩)
    (by kernel_rfl)
#print axioms replicaAttaches_proved

