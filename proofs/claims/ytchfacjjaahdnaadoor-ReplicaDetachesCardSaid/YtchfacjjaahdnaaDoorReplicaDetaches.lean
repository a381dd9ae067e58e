/- The law ReplicaDetaches: the walk through its code and the claim. -/
import Derived.Test.YtchfacjjaahdnaaDoorLaw24
namespace Go.Proofs.YtchfacjjaahdnaaDoor
open Go Go.Sx Go.ChangeShapes Go.WideShapes Go.ChangeAt Go.WideMaps Go.WideElems Go.RowKit
set_option linter.unusedVariables false
set_option linter.unusedSimpArgs false
set_option maxRecDepth 100000

abbrev freeC (x : CopyT) : CopyT := { x with pend := [], out := noPart, inn := noPart, took := 0, src := 0 }
theorem free_b {x : CopyT} {n : Nat} (h : CopyB n x) : CopyB n (freeC x) := ⟨h.rows, by simp, noPart_b, noPart_b, i64_zero, i64_zero, h.se, h.sv, h.lk, h.hk⟩
theorem oddFree_ex (m : Nat) {l : List Int} {a : Nat} (x : CopyT) : (TapeOk l a ∧ CopyB 70 x) → ∃ y : CopyT × Nat, (CopyB 71 y.1 ∧ TapeOk l y.2) ∧ Sx.Spec Tryd.prog GG 16 [.ptr m 0, .agg
    [.d (.str x.lk), .d (.bool x.lt), .d (.str x.hk), .d (.bool x.ht), .d (.int .i64 x.se), .d (.int .i64 x.sv), .d (encL encRow 2 x.rows), .d (.val (.slice none 0 0)),
     .d (.int .i64 0), .d (.int .i64 0), .d (.int .i64 0), .d (.int .i64 0), .d (.int .i64 0), .d (.str []), .d (.bool false), .d (.str []), .d (.bool false), .d (.val (.slice none 0 0)),
     .d (.int .i64 0), .d (.int .i64 0), .d (.int .i64 0), .d (.int .i64 0), .d (.int .i64 0), .d (.str []), .d (.bool false), .d (.str []), .d (.bool false), .d (.val (.slice none 0 0)),
     .d (.int .i64 0), .d (.int .i64 0)]] [(m, tapeB l a)] (.agg (copyL y.1)) [(m, tapeB l y.2)] := by
  rintro ⟨h1, h2⟩
  obtain ⟨y, hy, hs⟩ := oddCopy_ex m (n := 70) (freeC x) ⟨h1, free_b h2, by omega, by omega⟩
  refine ⟨y, hy, hs.arg (LeL.cons (LeS.refl _) (LeL.cons (LeS.agg ?_) LeL.nil))⟩
  repeat' first
    | exact LeL.nil
    | refine LeL.cons ?_ ?_
  all_goals first
    | exact LeS.refl _
    | exact les_nil rfl
theorem slice_lenR {rows : List Row} {r : Rng} : (sliceR rows r).length ≤ rows.length := slice_len
theorem detach_small {c : CopyT} {bk : List UInt8} {bt : Bool} {side ser frm to_ : Int} (h : Small c) : Small (detachC c bk bt side ser frm to_).1 := by
  have h0 : Small noCopy := ⟨by simp [noCopy], by simp [noCopy], by simp [noCopy, noPart], by simp [noCopy, noPart]⟩
  obtain ⟨h1, h2, h3, h4⟩ := h
  unfold detachC
  split
  · exact h0
  · split
    · exact h0
    · split
      · exact h0
      · exact ⟨Nat.le_trans slice_lenR h1, h2, Nat.le_trans slice_lenR h1, h4⟩
set_option maxHeartbeats 8000000 in
theorem replicaDetaches_law (l : List Int) (raw : CopyT) (serial : Int) (hl : ∀ x ∈ l, -9223372036854775808 ≤ x ∧ x < 9223372036854775808) (hraw : CopyI raw) (hser : I64 serial) : Sx.Spec Tryd.prog GG 4 [.d (encL encI 1 l), .agg (copyL raw), .d (.int .i64 serial)] [] (.d (.bool true)) [] := by
  refine spec_intro (E := EE) (fn := Tryd.f4) eok (by kernel_rfl) (by kernel_rfl) Tryd.call4 (by kernel_rfl) (by kernel_rfl) ?_
  conv => whnf
  repeat' first
    | (refine call_intro (small_spec raw) ?_ (by first | exact .inl rfl | exact .inr ⟨rfl, rfl⟩); (conv => whnf))
    | (refine bc_true (by assumption) ?_; (conv => whnf))
    | (refine bc_false (by assumption) ?_; (conv => whnf))
    | (refine need_intro ?_ ?_; (conv => whnf))
    | (refine wk_refl ?_; (conv => whnf))
    | (refine draw_intro (by kernel_rfl) ?_; (conv => whnf))
    | (refine ord_intro (by kernel_rfl) ?_; (conv => whnf))
  refine bc_intro (fun _ => ?_) (fun hsm => ?_)
  · conv => whnf
    conv => whnf
    repeat' first
      | (refine call_intro (awake_spec) ?_ (by first | exact .inl rfl | exact .inr ⟨rfl, rfl⟩); (conv => whnf))
      | (refine bc_true (by assumption) ?_; (conv => whnf))
      | (refine bc_false (by assumption) ?_; (conv => whnf))
      | (refine bc_intro (fun _ => ?_) (fun _ => ?_) <;> (conv => whnf))
      | (refine need_intro ?_ ?_; (conv => whnf))
      | (refine wk_refl ?_; (conv => whnf))
      | (refine draw_intro (by kernel_rfl) ?_; (conv => whnf))
      | (refine ord_intro (by kernel_rfl) ?_; (conv => whnf))
    exact ⟨LeS.refl _, trivial⟩
  conv => whnf
  have hr := small_b hraw (by simpa using hsm)
  conv => whnf
  repeat' first
    | (refine call_some (new_ex 2000 hl) (fun _ => by first | exact .inl rfl | exact .inr ⟨rfl, rfl⟩) ?_; rintro ⟨tl, ta⟩ hT; (conv => whnf))
    | (refine call_some_if (copy_ex _) (fun _ => by first | exact .inl rfl | exact .inr ⟨rfl, rfl⟩) (need_intro ?_ ?_); rintro ⟨x, b⟩ ⟨h1, h2⟩; (conv => whnf))
    | (refine call_some_if (oddFree_ex _ x) (fun _ => by first | exact .inl rfl | exact .inr ⟨rfl, rfl⟩) (need_intro ?_ ?_); rintro ⟨y, b⟩ ⟨h3, h4⟩; (conv => whnf))
    | (refine bc_true (by assumption) ?_; (conv => whnf))
    | (refine bc_false (by assumption) ?_; (conv => whnf))
    | (refine need_intro ?_ ?_; (conv => whnf))
    | (refine wk_refl ?_; (conv => whnf))
    | (refine draw_intro (by kernel_rfl) ?_; (conv => whnf))
    | (refine ord_intro (by kernel_rfl) ?_; (conv => whnf))
  all_goals try first
    | assumption
    | exact ⟨by assumption, CopyB.mono (by omega) h1⟩
  have hq := getD_allC (L := [freeC x, freeC x, x, y, raw]) (Q := CopyB 200) (by
    intro c hc
    simp only [List.mem_cons, List.not_mem_nil, or_false] at hc
    rcases hc with rfl | rfl | rfl | rfl | rfl
    · exact free_b (CopyB.mono (by omega) h1)
    · exact free_b (CopyB.mono (by omega) h1)
    · exact CopyB.mono (by omega) h1
    · exact CopyB.mono (by omega) h3
    · exact CopyB.mono (by omega) hr) default_b
  refine loop_auto [6, 7, 2, 45] [] (fun j : Nat × Nat => [(44, .d (encL encCopy 30 [freeC x, freeC x, x, y, raw])), (46, .d (.int .i64 j.1))]) (fun j => [(2000, tapeB tl j.2)]) (fun j => j.1 ≤ 5 ∧ TapeOk tl j.2) (fun j => 5 - j.1) (0, b) ?_ (fun j hj => ?_) ⟨by omega, h4⟩
  · conv => whnf
    repeat' first
      | (refine bc_true (by assumption) ?_; (conv => whnf))
      | (refine bc_false (by assumption) ?_; (conv => whnf))
      | (refine bc_intro (fun _ => ?_) (fun _ => ?_) <;> (conv => whnf))
      | (refine need_intro ?_ ?_; (conv => whnf))
      | (refine wk_refl ?_; (conv => whnf))
      | (refine draw_intro (by kernel_rfl) ?_; (conv => whnf))
      | (refine ord_intro (by kernel_rfl) ?_; (conv => whnf))
    all_goals first | exact ⟨rfl, rfl⟩ | exact ⟨rfl, rfl, rfl⟩ | exact DLe.refl _ | exact RowLe.refl _ _ _ | exact trivial | (refine dle_lit (by kernel_rfl) rfl (.all ?_); (repeat' first | exact trivial | exact rfl | apply And.intro); done) | (refine dle_lit (by kernel_rfl) rfl (.allD ?_); (repeat' first | exact trivial | exact DLe.refl _ | exact DLe.nil | exact DLe.rows rfl row_zero | apply And.intro); done) | trace_state
  · obtain ⟨j, b⟩ := j
    obtain ⟨hj, hb⟩ := hj
    simp only at hj hb
    have hs : IntKind.i64.wrap ((j : Int) + 1) = ((j + 1 : Nat) : Int) := wrap_succ (n := 10) (by omega) (by omega)
    have hqj := hq (j : Int).toNat
    have hqs := CopyB.small hqj (by omega)
    have hlk := hqj.lk
    conv => whnf
    repeat' first
      | (refine call_some_if (bound_ex _) (fun _ => by first | exact .inl rfl | exact .inr ⟨rfl, rfl⟩) (need_intro ?_ ?_); rintro ⟨k, t, b⟩ ⟨h5, h6⟩; (conv => whnf))
      | (refine call_some_if (next_ex _) (fun _ => by first | exact .inl rfl | exact .inr ⟨rfl, rfl⟩) (need_intro ?_ ?_); rintro ⟨v, b⟩ ⟨⟨h7, h8⟩, h9⟩; (conv => whnf))
      | (refine call_some_if (pickQ_ex _ I64) (fun _ => by first | exact .inl rfl | exact .inr ⟨rfl, rfl⟩) (need_intro ?_ ?_); rintro ⟨v, b⟩ ⟨h10, h11⟩; (conv => whnf))
      | (refine call_if (detachp_spec _ _ _ _ _ _ _) (by first | exact .inl rfl | exact .inr ⟨rfl, rfl⟩) (need_intro ?_ ?_); (conv => whnf))
      | (refine call_if (detachr_spec _ _ _ _ _ _ _) (by first | exact .inl rfl | exact .inr ⟨rfl, rfl⟩) (need_intro ?_ ?_); (conv => whnf))
      | (refine call_if (sameE_spec _ _ _ _) (by first | exact .inl rfl | exact .inr ⟨rfl, rfl⟩) (need_intro ?_ ?_); (conv => whnf))
      | (refine call_intro (awake_spec) ?_ (by first | exact .inl rfl | exact .inr ⟨rfl, rfl⟩); (conv => whnf))
      | (refine NextVC.mk (j + 1, b) ?_ ?_ ?_; (conv => whnf))
      | (refine bc_true (by assumption) ?_; (conv => whnf))
      | (refine bc_false (by assumption) ?_; (conv => whnf))
      | (refine bc_intro (fun _ => ?_) (fun _ => ?_) <;> (conv => whnf))
      | (refine need_intro ?_ ?_; (conv => whnf))
      | (refine wk_refl ?_; (conv => whnf))
      | (refine draw_intro (by kernel_rfl) ?_; (conv => whnf))
      | (refine ord_intro (by kernel_rfl) ?_; (conv => whnf))
    all_goals try simp only [decide_eq_true_eq, decide_eq_false_iff_not] at *
    all_goals try first
      | (refine ⟨by assumption, ⟨by omega, by omega⟩, ?_⟩
         repeat' first
           | exact trivial
           | (refine ⟨_, rfl, ?_⟩
              first
                | assumption
                | (unfold I64; omega)
                | omega
                | (refine ⟨?_, ?_⟩ <;> omega))
           | apply And.intro
         done)
    all_goals first
      | omega
      | exact trivial
      | assumption
      | exact DLe.refl _
      | exact DLe.of_eq (by rw [hs])
      | exact ⟨LeS.refl _, trivial⟩
      | exact ⟨by omega, by omega⟩
      | exact ⟨by omega, by assumption⟩
      | exact ⟨by assumption, by omega, by omega⟩
      | exact ⟨detach_small hqs, detach_small hqs⟩
      | (exfalso; simp [sameC_refl] at *; done)
      | (simp only [List.length_cons, List.length_nil]; omega)
      | trace_state
theorem replicaDetaches_all (dss : List (List D)) (h : All2 (wfT Tryd.prog reachBytes 12) [22, 34, 3] dss) : Sx.Spec Tryd.prog GG 4 (svs Tryd.prog [22, 34, 3] dss) [] (.d (.bool true)) [] := by
  obtain ⟨x, y, z, rfl, hx, hy, hz⟩ := inv3 h
  obtain ⟨l, h1, h2, h3⟩ := ints_arg hx
  obtain ⟨raw, h4, h5⟩ := copy_wf (f := 5) (by decide) hy
  obtain ⟨_, _, rfl, _⟩ := hx
  obtain ⟨n, rfl, hn⟩ := hz
  exact (replicaDetaches_law l raw n h1 h4 (wf_i64 hn)).arg (leL_app h2 (LeL.cons (LeS.agg h5) (LeL.refl _)))
theorem replicaDetaches_lifted (os : Os) (started : os.Started) (H : Type) (enc : TypeId × Value → H) :
    ReturnsInHanded {} Tryd.checked os 4 .any (fun w args => (Rows.replicaDetachesSpec.pre enc Tryd.prog Tryd.f4 [] false w args ∧ laidMetH Tryd.prog laidL w) ∧ sizedMet enc Tryd.prog Tryd.f4 (OpenSpec.ofChange Rows.replicaDetachesSpec) false w args)
      (Rows.replicaDetachesSpec.post enc Tryd.prog Tryd.f4 false true false false) := by
  refine returnsInHanded_of_change_and (C := Tryd.checked) (X := fun w _ => laidMetH Tryd.prog laidL w) (fun _ _ _ hh h => h.of_heap hh) own started (by kernel_rfl) Tryd.func4
    (ChangeSpec.witness_shaped (enc := enc) (C := Tryd.checked) (os := os) (X := fun w _ => laidMetH Tryd.prog laidL w) false (World.doorLaid Tryd.prog 400 os) #[.slice none 0 0, .agg #[.string ⟨#[]⟩, .bool false, .string ⟨#[]⟩, .bool false, .int .i64 0, .int .i64 0, .slice none 0 0, .slice none 0 0, .int .i64 0, .int .i64 0, .int .i64 0, .int .i64 0, .int .i64 0, .string ⟨#[]⟩, .bool false, .string ⟨#[]⟩, .bool false, .slice none 0 0, .int .i64 0, .int .i64 0, .int .i64 0, .int .i64 0, .int .i64 0, .string ⟨#[]⟩, .bool false, .string ⟨#[]⟩, .bool false, .slice none 0 0, .int .i64 0, .int .i64 0], .int .i64 0] 8 rfl (World.shaped_of_RefB (by kernel_rfl) (by kernel_rfl)) (by kernel_rfl) (by kernel_rfl) (by kernel_rfl) (door_met os _)) ?_
  intro W base args ds gs before hval hW hcnd hsz hL _
  refine law_contract (P := Tryd.prog) (ts := [22, 34, 3]) (bt := 4) (G := GG) laidOut (by rw [Tryd.params4]) (by kernel_rfl) Tryd.underlying4 (by kernel_rfl) rfl ?_ replicaDetaches_all hval hW hsz (gok hL)
  intro ds h
  match ds, h with
  | [_, _, _], _ => rfl
theorem replicaDetaches_over : Rows.replicaDetachesRow.holds Tryd.pinned (OpenSpec.ofChange Rows.replicaDetachesSpec) :=
  OpenClaim.holds_of_wide 4 Tryd.f4 rfl rfl rfl rfl rfl rfl rfl ⟨rfl, rfl, rfl, rfl, rfl⟩ rfl rfl rfl rfl rfl (by kernel_rfl) Tryd.func4 (by kernel_rfl)
    (of_decide_eq_true (by kernel_rfl)) (by unfold Func.isWrapper; first | (rw [if_pos (by decide +kernel)]; kernel_rfl) | (rw [if_neg (by decide +kernel)]; exact ⟨rfl, rfl⟩))
    (fun os started H enc _ => replicaDetaches_lifted os started H enc)
theorem replicaDetaches_plain : ∀ t ∈ [22, 34, 3], Tryd.prog.wantsStandIn t = false := by
  intro t ht
  simp only [List.mem_cons, List.not_mem_nil, or_false] at ht
  rcases ht with rfl | rfl | rfl <;> kernel_rfl
theorem replicaDetaches_proved : Rows.ReplicaDetachesCardSaid :=
  Claim7.holds_tied_plain_at .later [] [.data] true (true, "b8c9dcd8191ed71740a4ac80bc30765b96fa06e695fb428c9ca2be74d3c2a2d9") false
    replicaDetaches_over (fun _ h => by cases h) (by kernel_rfl) (fun _ h => by cases h) replicaDetaches_row_tie rfl ⟨rfl, rfl⟩ (by kernel_rfl) rfl
    (fun f fn hf hfn => by
      obtain rfl : f = 4 := Option.some.inj ((show Tryd.prog.funcNamed Rows.replicaDetachesRow.func = some 4 by kernel_rfl).symm.trans hf) |>.symm
      obtain rfl : fn = Tryd.f4 := (Option.some.inj (Tryd.func4.symm.trans hfn)).symm
      exact ⟨by kernel_rfl, fun j t ht => replicaDetaches_plain t (by
        rw [Tryd.params4] at ht
        exact List.mem_of_getElem? (by simpa using ht))⟩)
    (by kernel_rfl)
#print axioms replicaDetaches_proved

