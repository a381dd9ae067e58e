/- The law ReplicaNew: the walk through its code and the claim. -/
import Derived.Test.YtchfacjjaahdnaaDoorLaw24
namespace Go.Proofs.YtchfacjjaahdnaaDoor
open Go Go.Sx Go.ChangeShapes Go.WideShapes Go.ChangeAt Go.WideMaps Go.WideElems Go.RowKit
set_option linter.unusedVariables false
set_option linter.unusedSimpArgs false
set_option maxRecDepth 100000

theorem noCopy_small : Small noCopy := ⟨by simp [noCopy], by simp [noCopy], by simp [noCopy, noPart], by simp [noCopy, noPart]⟩
theorem new_small {r : Rng} {e v : Int} {rows : List Row} (h : rows.length ≤ 1000000) : Small (newC r e v rows).1 := by
  unfold newC
  split
  · exact noCopy_small
  · split
    · exact noCopy_small
    · exact ⟨h, by simp [noCopy], by simp [noCopy, noPart], by simp [noCopy, noPart]⟩
theorem default_small : Small (default : CopyT) := ⟨by simp [default], by simp [default], by simp [default], by simp [default]⟩
set_option maxHeartbeats 8000000 in
theorem replicaNew_law (l : List Int) (raw : CopyT) (key : List UInt8) (hl : ∀ x ∈ l, -9223372036854775808 ≤ x ∧ x < 9223372036854775808) (hraw : CopyI raw) : Sx.Spec Tryd.prog GG 5 [.d (encL encI 1 l), .agg (copyL raw), .d (.str key)] [] (.d (.bool true)) [] := by
  refine spec_intro (E := EE) (fn := Tryd.f5) eok (by kernel_rfl) (by kernel_rfl) Tryd.call5 (by kernel_rfl) (by kernel_rfl) ?_
  conv => whnf
  repeat' first
    | (refine call_intro (small_spec raw) ?_ (by first | exact .inl rfl | exact .inr ⟨rfl, rfl⟩); (conv => whnf))
    | (refine bc_true (by assumption) ?_; (conv => whnf))
    | (refine bc_false (by assumption) ?_; (conv => whnf))
    | (refine need_intro ?_ ?_; (conv => whnf))
    | (refine wk_refl ?_; (conv => whnf))
    | (refine draw_intro (by kernel_rfl) ?_; (conv => whnf))
    | (refine ord_intro (by kernel_rfl) ?_; (conv => whnf))
  refine bc_intro (fun _ => ?_) (fun hsm => ?_)
  · conv => whnf
    conv => whnf
    repeat' first
      | (refine call_intro (awake_spec) ?_ (by first | exact .inl rfl | exact .inr ⟨rfl, rfl⟩); (conv => whnf))
      | (refine bc_true (by assumption) ?_; (conv => whnf))
      | (refine bc_false (by assumption) ?_; (conv => whnf))
      | (refine bc_intro (fun _ => ?_) (fun _ => ?_) <;> (conv => whnf))
      | (refine need_intro ?_ ?_; (conv => whnf))
      | (refine wk_refl ?_; (conv => whnf))
      | (refine draw_intro (by kernel_rfl) ?_; (conv => whnf))
      | (refine ord_intro (by kernel_rfl) ?_; (conv => whnf))
    exact ⟨LeS.refl _, trivial⟩
  conv => whnf
  have hr := small_b hraw (by simpa using hsm)
  have hrs := CopyB.small hr (by omega)
  have hrr := hr.rows
  conv => whnf
  repeat' first
    | (refine call_some (new_ex 2000 hl) (fun _ => by first | exact .inl rfl | exact .inr ⟨rfl, rfl⟩) ?_; rintro ⟨tl, ta⟩ hT; (conv => whnf))
    | (refine call_some_if (range_ex _) (fun _ => by first | exact .inl rfl | exact .inr ⟨rfl, rfl⟩) (need_intro ?_ ?_); rintro ⟨k, t, k2, t2, b⟩ ⟨h1, h2, h3⟩; (conv => whnf))
    | (refine call_some_if (rowsIn_ex _) (fun _ => by first | exact .inl rfl | exact .inr ⟨rfl, rfl⟩) (need_intro ?_ ?_); rintro ⟨rows, b⟩ ⟨hq, h4⟩; (conv => whnf))
    | (refine call_some_if (bool_ex _) (fun _ => by first | exact .inl rfl | exact .inr ⟨rfl, rfl⟩) (need_intro ?_ ?_); rintro ⟨v, b⟩ h5; (conv => whnf))
    | (refine bc_true (by assumption) ?_; (conv => whnf))
    | (refine bc_false (by assumption) ?_; (conv => whnf))
    | (refine need_intro ?_ ?_; (conv => whnf))
    | (refine wk_refl ?_; (conv => whnf))
    | (refine draw_intro (by kernel_rfl) ?_; (conv => whnf))
    | (refine ord_intro (by kernel_rfl) ?_; (conv => whnf))
  all_goals try first
    | assumption
    | exact ⟨by assumption, by omega, by omega⟩
  have hq1 : (rows.length : Int) ≤ 4 := hq.len
  refine join_auto [2, 4, 6, 7, 8] [4, 8] (fun x : List Row × Nat => [(9, .d (encL encRow 2 x.1))]) (fun x => [(2000, tapeB tl x.2)]) (fun x => x.1.length ≤ 5 ∧ TapeOk tl x.2) (fun _ => ?_) (fun _ => ?_) ?_
  · conv => whnf
    repeat' first
      | (refine call_some_if (oddRows_ex _) (fun _ => by first | exact .inl rfl | exact .inr ⟨rfl, rfl⟩) (need_intro ?_ ?_); rintro ⟨y, b⟩ ⟨h6, h7⟩; (conv => whnf))
      | (refine JoinVC.mk (y, b) ?_ ?_; (conv => whnf))
      | (refine bc_true (by assumption) ?_; (conv => whnf))
      | (refine bc_false (by assumption) ?_; (conv => whnf))
      | (refine need_intro ?_ ?_; (conv => whnf))
      | (refine wk_refl ?_; (conv => whnf))
      | (refine draw_intro (by kernel_rfl) ?_; (conv => whnf))
      | (refine ord_intro (by kernel_rfl) ?_; (conv => whnf))
    all_goals first
      | exact trivial
      | exact DLe.refl _
      | exact ⟨by assumption, by omega⟩
      | exact ⟨by assumption, by simp only; omega⟩
      | (refine ⟨?_, by assumption⟩; simp only at h6 ⊢; omega)
      | trace_state
  · conv => whnf
    repeat' first
      | (refine JoinVC.mk (rows, b) ?_ ?_; (conv => whnf))
      | (refine bc_true (by assumption) ?_; (conv => whnf))
      | (refine bc_false (by assumption) ?_; (conv => whnf))
      | (refine need_intro ?_ ?_; (conv => whnf))
      | (refine wk_refl ?_; (conv => whnf))
      | (refine draw_intro (by kernel_rfl) ?_; (conv => whnf))
      | (refine ord_intro (by kernel_rfl) ?_; (conv => whnf))
    all_goals first
      | exact trivial
      | exact DLe.refl _
      | exact ⟨by simp only; omega, by assumption⟩
      | trace_state
  rintro ⟨rows, b⟩ ⟨hrw, hb⟩
  simp only at hrw hb
  conv => whnf
  repeat' first
    | (refine call_some_if (oddStamp_ex _) (fun _ => by first | exact .inl rfl | exact .inr ⟨rfl, rfl⟩) (need_intro ?_ ?_); rintro ⟨e, v, b⟩ ⟨⟨h1, h2⟩, h3⟩; (conv => whnf))
    | (refine call_if (newp_spec _ _ _ _ _ _ _) (by first | exact .inl rfl | exact .inr ⟨rfl, rfl⟩) (need_intro ?_ ?_); (conv => whnf))
    | (refine call_if (newr_spec _ _ _ _ _ _ _) (by first | exact .inl rfl | exact .inr ⟨rfl, rfl⟩) (need_intro ?_ ?_); (conv => whnf))
    | (refine call_if (sameE_spec _ _ _ _) (by first | exact .inl rfl | exact .inr ⟨rfl, rfl⟩) (need_intro ?_ ?_); (conv => whnf))
    | (refine call_some_if (copy_ex _) (fun _ => by first | exact .inl rfl | exact .inr ⟨rfl, rfl⟩) (need_intro ?_ ?_); rintro ⟨x, b⟩ ⟨g1, g2⟩; (conv => whnf))
    | (refine bc_true (by assumption) ?_; (conv => whnf))
    | (refine bc_false (by assumption) ?_; (conv => whnf))
    | (refine bc_intro (fun _ => ?_) (fun _ => ?_) <;> (conv => whnf))
    | (refine need_intro ?_ ?_; (conv => whnf))
    | (refine wk_refl ?_; (conv => whnf))
    | (refine draw_intro (by kernel_rfl) ?_; (conv => whnf))
    | (refine ord_intro (by kernel_rfl) ?_; (conv => whnf))
  all_goals try first
    | omega
    | assumption
    | (simp only; omega)
    | exact ⟨new_small (by simp only; omega), new_small (by simp only; omega)⟩
    | exact ⟨new_small (by omega), new_small (by omega)⟩
    | (exfalso; simp [sameC_refl] at *; done)
  have hql := getD_allC (L := [x, (newC (k, t, k2, t2) e v rows).1, raw]) (Q := Small) (by
    intro c hc
    simp only [List.mem_cons, List.not_mem_nil, or_false] at hc
    rcases hc with rfl | rfl | rfl
    · exact CopyB.small g1 (by omega)
    · exact new_small (by omega)
    · exact hrs) default_small
  refine loop_auto [2, 6, 7, 100] [] (fun s : Nat × Nat => [(99, .d (encL encCopy 30 [x, (newC (k, t, k2, t2) e v rows).1, raw])), (101, .d (.int .i64 s.1))]) (fun s => [(2000, tapeB tl s.2)]) (fun s => s.1 ≤ 3 ∧ TapeOk tl s.2) (fun s => 3 - s.1) (0, b) ?_ (fun s hs => ?_) ⟨by omega, g2⟩
  · conv => whnf
    repeat' first
      | (refine bc_true (by assumption) ?_; (conv => whnf))
      | (refine bc_false (by assumption) ?_; (conv => whnf))
      | (refine bc_intro (fun _ => ?_) (fun _ => ?_) <;> (conv => whnf))
      | (refine need_intro ?_ ?_; (conv => whnf))
      | (refine wk_refl ?_; (conv => whnf))
      | (refine draw_intro (by kernel_rfl) ?_; (conv => whnf))
      | (refine ord_intro (by kernel_rfl) ?_; (conv => whnf))
    all_goals first | exact ⟨rfl, rfl⟩ | exact ⟨rfl, rfl, rfl⟩ | exact DLe.refl _ | exact RowLe.refl _ _ _ | exact trivial | (refine dle_lit (by kernel_rfl) rfl (.all ?_); (repeat' first | exact trivial | exact rfl | apply And.intro); done) | (refine dle_lit (by kernel_rfl) rfl (.allD ?_); (repeat' first | exact trivial | exact DLe.refl _ | exact DLe.nil | exact DLe.rows rfl row_zero | apply And.intro); done) | trace_state
  · obtain ⟨i, b⟩ := s
    obtain ⟨hi, hb⟩ := hs
    simp only at hi hb
    have hs : IntKind.i64.wrap ((i : Int) + 1) = ((i + 1 : Nat) : Int) := wrap_succ (n := 10) (by omega) (by omega)
    have hqi := hql (i : Int).toNat
    conv => whnf
    repeat' first
      | (refine call_some_if (key_ex _) (fun _ => by first | exact .inl rfl | exact .inr ⟨rfl, rfl⟩) (need_intro ?_ ?_); rintro ⟨k1, c⟩ ⟨g3, g4⟩; (conv => whnf))
      | (refine call_some_if (oddKey_ex _) (fun _ => by first | exact .inl rfl | exact .inr ⟨rfl, rfl⟩) (need_intro ?_ ?_); rintro ⟨k2, c⟩ ⟨g5, g6⟩; (conv => whnf))
      | (refine call_intro (awake_spec) ?_ (by first | exact .inl rfl | exact .inr ⟨rfl, rfl⟩); (conv => whnf))
      | (refine bc_true (by assumption) ?_; (conv => whnf))
      | (refine bc_false (by assumption) ?_; (conv => whnf))
      | (refine bc_intro (fun _ => ?_) (fun _ => ?_) <;> (conv => whnf))
      | (refine need_intro ?_ ?_; (conv => whnf))
      | (refine wk_refl ?_; (conv => whnf))
      | (refine draw_intro (by kernel_rfl) ?_; (conv => whnf))
      | (refine ord_intro (by kernel_rfl) ?_; (conv => whnf))
    all_goals try simp only [decide_eq_true_eq, decide_eq_false_iff_not] at *
    all_goals try first
      | omega
      | assumption
      | exact ⟨LeS.refl _, trivial⟩
      | exact ⟨by omega, by omega⟩
    have hs' := hs
    refine loop_auto [2, 6, 7, 20, 99, 100, 101, 111] [2000, 20] (fun j : Nat => [(110, .d (encL encS 1 [key, k1, k2])), (112, .d (.int .i64 j))]) (fun j => []) (fun j => j ≤ 3) (fun j => 3 - j) 0 ?_ (fun j hj => ?_) (by omega)
    · conv => whnf
      repeat' first
        | (refine bc_true (by assumption) ?_; (conv => whnf))
        | (refine bc_false (by assumption) ?_; (conv => whnf))
        | (refine bc_intro (fun _ => ?_) (fun _ => ?_) <;> (conv => whnf))
        | (refine need_intro ?_ ?_; (conv => whnf))
        | (refine wk_refl ?_; (conv => whnf))
        | (refine draw_intro (by kernel_rfl) ?_; (conv => whnf))
        | (refine ord_intro (by kernel_rfl) ?_; (conv => whnf))
      all_goals first | exact ⟨rfl, rfl⟩ | exact ⟨rfl, rfl, rfl⟩ | exact DLe.refl _ | exact RowLe.refl _ _ _ | exact trivial | (refine dle_lit (by kernel_rfl) rfl (.all ?_); (repeat' first | exact trivial | exact rfl | apply And.intro); done) | (refine dle_lit (by kernel_rfl) rfl (.allD ?_); (repeat' first | exact trivial | exact DLe.refl _ | exact DLe.nil | exact DLe.rows rfl row_zero | apply And.intro); done) | trace_state
    · have hs : IntKind.i64.wrap ((j : Int) + 1) = ((j + 1 : Nat) : Int) := wrap_succ (n := 10) (by omega) (by omega)
      conv => whnf
      repeat' first
        | (refine call_if (getCp_spec _ _) (by first | exact .inl rfl | exact .inr ⟨rfl, rfl⟩) (need_intro ?_ ?_); (conv => whnf))
        | (refine call_if (getCr_spec _ _) (by first | exact .inl rfl | exact .inr ⟨rfl, rfl⟩) (need_intro ?_ ?_); (conv => whnf))
        | (refine NextVC.mk (i + 1, c) ?_ ?_ ?_; (conv => whnf))
        | (refine NextVC.mk (j + 1) ?_ ?_ ?_; (conv => whnf))
        | (refine bc_true (by assumption) ?_; (conv => whnf))
        | (refine bc_false (by assumption) ?_; (conv => whnf))
        | (refine bc_intro (fun _ => ?_) (fun _ => ?_) <;> (conv => whnf))
        | (refine need_intro ?_ ?_; (conv => whnf))
        | (refine wk_refl ?_; (conv => whnf))
        | (refine draw_intro (by kernel_rfl) ?_; (conv => whnf))
        | (refine ord_intro (by kernel_rfl) ?_; (conv => whnf))
      all_goals try simp only [decide_eq_true_eq, decide_eq_false_iff_not] at *
      all_goals first
        | omega
        | exact trivial
        | exact DLe.refl _
        | exact DLe.of_eq (by rw [hs])
        | exact DLe.of_eq (by rw [hs'])
        | exact hqi.1
        | exact ⟨by omega, by omega⟩
        | exact ⟨by omega, by assumption⟩
        | (exfalso; simp at *; done)
        | trace_state
theorem replicaNew_all (dss : List (List D)) (h : All2 (wfT Tryd.prog reachBytes 12) [22, 34, 9] dss) : Sx.Spec Tryd.prog GG 5 (svs Tryd.prog [22, 34, 9] dss) [] (.d (.bool true)) [] := by
  obtain ⟨x, y, z, rfl, hx, hy, hz⟩ := inv3 h
  obtain ⟨l, h1, h2, h3⟩ := ints_arg hx
  obtain ⟨raw, h4, h5⟩ := copy_wf (f := 5) (by decide) hy
  obtain ⟨_, _, rfl, _⟩ := hx
  obtain ⟨k, rfl, _⟩ := hz
  exact (replicaNew_law l raw k h1 h4).arg (leL_app h2 (LeL.cons (LeS.agg h5) (LeL.refl _)))
theorem replicaNew_lifted (os : Os) (started : os.Started) (H : Type) (enc : TypeId × Value → H) :
    ReturnsInHanded {} Tryd.checked os 5 .any (fun w args => (Rows.replicaNewSpec.pre enc Tryd.prog Tryd.f5 [] false w args ∧ laidMetH Tryd.prog laidL w) ∧ sizedMet enc Tryd.prog Tryd.f5 (OpenSpec.ofChange Rows.replicaNewSpec) false w args)
      (Rows.replicaNewSpec.post enc Tryd.prog Tryd.f5 false true false false) := by
  refine returnsInHanded_of_change_and (C := Tryd.checked) (X := fun w _ => laidMetH Tryd.prog laidL w) (fun _ _ _ hh h => h.of_heap hh) own started (by kernel_rfl) Tryd.func5
    (ChangeSpec.witness_shaped (enc := enc) (C := Tryd.checked) (os := os) (X := fun w _ => laidMetH Tryd.prog laidL w) false (World.doorLaid Tryd.prog 400 os) #[.slice none 0 0, .agg #[.string ⟨#[]⟩, .bool false, .string ⟨#[]⟩, .bool false, .int .i64 0, .int .i64 0, .slice none 0 0, .slice none 0 0, .int .i64 0, .int .i64 0, .int .i64 0, .int .i64 0, .int .i64 0, .string ⟨#[]⟩, .bool false, .string ⟨#[]⟩, .bool false, .slice none 0 0, .int .i64 0, .int .i64 0, .int .i64 0, .int .i64 0, .int .i64 0, .string ⟨#[]⟩, .bool false, .string ⟨#[]⟩, .bool false, .slice none 0 0, .int .i64 0, .int .i64 0], .string ⟨#[]⟩] 8 rfl (World.shaped_of_RefB (by kernel_rfl) (by kernel_rfl)) (by kernel_rfl) (by kernel_rfl) (by kernel_rfl) (door_met os _)) ?_
  intro W base args ds gs before hval hW hcnd hsz hL _
  refine law_contract (P := Tryd.prog) (ts := [22, 34, 9]) (bt := 4) (G := GG) laidOut (by rw [Tryd.params5]) (by kernel_rfl) Tryd.underlying4 (by kernel_rfl) rfl ?_ replicaNew_all hval hW hsz (gok hL)
  intro ds h
  match ds, h with
  | [_, _, _], _ => rfl
theorem replicaNew_over : Rows.replicaNewRow.holds Tryd.pinned (OpenSpec.ofChange Rows.replicaNewSpec) :=
  OpenClaim.holds_of_wide 5 Tryd.f5 rfl rfl rfl rfl rfl rfl rfl ⟨rfl, rfl, rfl, rfl, rfl⟩ rfl rfl rfl rfl rfl (by kernel_rfl) Tryd.func5 (by kernel_rfl)
    (of_decide_eq_true (by kernel_rfl)) (by unfold Func.isWrapper; first | (rw [if_pos (by decide +kernel)]; kernel_rfl) | (rw [if_neg (by decide +kernel)]; exact ⟨rfl, rfl⟩))
    (fun os started H enc _ => replicaNew_lifted os started H enc)
theorem replicaNew_plain : ∀ t ∈ [22, 34, 9], Tryd.prog.wantsStandIn t = false := by
  intro t ht
  simp only [List.mem_cons, List.not_mem_nil, or_false] at ht
  rcases ht with rfl | rfl | rfl <;> kernel_rfl
theorem replicaNew_proved : Rows.ReplicaNewCardSaid :=
  Claim7.holds_tied_plain_at .later [] [.data] true (true, "b8c9dcd8191ed71740a4ac80bc30765b96fa06e695fb428c9ca2be74d3c2a2d9") false
    replicaNew_over (fun _ h => by cases h) (by kernel_rfl) (fun _ h => by cases h) replicaNew_row_tie rfl ⟨rfl, rfl⟩ (by kernel_rfl) rfl
    (fun f fn hf hfn => by
      obtain rfl : f = 5 := Option.some.inj ((show Tryd.prog.funcNamed Rows.replicaNewRow.func = some 5 by kernel_rfl).symm.trans hf) |>.symm
      obtain rfl : fn = Tryd.f5 := (Option.some.inj (Tryd.func5.symm.trans hfn)).symm
      exact ⟨by kernel_rfl, fun j t ht => replicaNew_plain t (by
        rw [Tryd.params5] at ht
        exact List.mem_of_getElem? (by simpa using ht))⟩)
    (by kernel_rfl)
#print axioms replicaNew_proved

