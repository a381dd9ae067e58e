/- The law CollectSteps: the walk through its code and the claim. -/
import Derived.Test.YtcllahjpinbiaaaDoorColM
namespace Go.Proofs.YtcllahjpinbiaaaDoor
open Go Go.Sx Go.ChangeShapes Go.WideShapes Go.ChangeAt Go.WideMaps Go.WideElems Go.RowKit
set_option linter.unusedVariables false
set_option linter.unusedSimpArgs false
set_option maxRecDepth 100000
def encSwp (c : SwpT) : List D := [encL encMrk 2 c.marks, .int .i64 c.ser, .int .i64 c.pos]
instance : Inhabited SwpT := ⟨⟨[], 0, 0⟩⟩
theorem swp_lit {a b c : SwpT} {g : Nat → Nat → D} (h0 : ∀ j, j < 3 → DLe (g 0 j) ((encSwp a).getD j default)) (h1 : ∀ j, j < 3 → DLe (g 1 j) ((encSwp b).getD j default)) (h2 : ∀ j, j < 3 → DLe (g 2 j) ((encSwp c).getD j default)) : RowLe 3 3 g (cellOf encSwp [a, b, c]) :=
  ⟨fun i j hi hj => by
    match i, hi with
    | 0, _ => exact h0 j hj
    | 1, _ => exact h1 j hj
    | 2, _ => exact h2 j hj⟩
theorem swp_pick {a b c : SwpT} {i : Nat} (ha : MrkB a.marks) (hb : MrkB b.marks) (hc : MrkB c.marks) : MrkB ([a, b, c].getD i default).marks := by
  match i with
  | 0 => exact ha
  | 1 => exact hb
  | 2 => exact hc
  | i + 3 => exact ⟨by simp [List.getD, default], by simp [List.getD, default]⟩
set_option maxHeartbeats 16000000 in
theorem collectSteps_law (l : List Int) (raw : List StoT) (c : SwpT) (ser : Int) (hl : ∀ x ∈ l, -9223372036854775808 ≤ x ∧ x < 9223372036854775808) (hraw : raw.length ≤ 9223372036854775807) (hmk : c.marks.length ≤ 9223372036854775807 ∧ ∀ m ∈ c.marks, m.nodes.length ≤ 9223372036854775807) :
    Sx.Spec Tryd.prog GG 5 [.d (encL encI 1 l), .d (encL encSto 33 raw), .agg (swpL c), .d (.int .i64 ser)] [] (.d (.bool true)) [] := by
  refine spec_intro (E := EE) (fn := Tryd.f5) eok (by kernel_rfl) (by kernel_rfl) Tryd.call5 (by kernel_rfl) (by kernel_rfl) ?_
  conv => whnf
  repeat' first
    | (refine call_if (small34_spec raw) (by first | exact .inl rfl | exact .inr ⟨rfl, rfl⟩) (need_intro ?_ ?_); (conv => whnf))
    | (refine call_intro (awake34_spec) ?_ (by first | exact .inl rfl | exact .inr ⟨rfl, rfl⟩); (conv => whnf))
    | (refine bc_true (by assumption) ?_; (conv => whnf))
    | (refine bc_false (by assumption) ?_; (conv => whnf))
    | (refine bc_intro (fun _ => ?_) (fun _ => ?_) <;> (conv => whnf))
    | (refine need_intro ?_ ?_; (conv => whnf))
    | (refine wk_refl ?_; (conv => whnf))
    | (refine draw_intro (by kernel_rfl) ?_; (conv => whnf))
    | (refine ord_intro (by kernel_rfl) ?_; (conv => whnf))
  all_goals try first
    | exact hraw
    | exact ⟨LeS.refl _, trivial⟩
  all_goals try simp only [Bool.not_eq_true', Bool.not_eq_false', decide_eq_true_eq, decide_eq_false_iff_not] at *
  have hs1 : smallS raw = true := by assumption
  have hrb := (smallS_b hs1).mono (m := 1000000) (by omega)
  have hml : c.marks.length ≤ 20 := by omega
  refine loop_auto [0, 1, 3, 6, 8, 37, 38] [6] (fun i : Nat => [(39, .d (.int .i64 i))]) (fun i => []) (fun i => i ≤ c.marks.length ∧ ∀ j, j < i → (c.marks.getD j default).nodes.length ≤ 20) (fun i => c.marks.length - i) 0 ?_ (fun i hi => ?_) ⟨by omega, fun j hj => absurd hj (by omega)⟩
  · conv => whnf
    repeat' first
      | (refine bc_true (by assumption) ?_; (conv => whnf))
      | (refine bc_false (by assumption) ?_; (conv => whnf))
      | (refine bc_intro (fun _ => ?_) (fun _ => ?_) <;> (conv => whnf))
      | (refine need_intro ?_ ?_; (conv => whnf))
      | (refine wk_refl ?_; (conv => whnf))
      | (refine draw_intro (by kernel_rfl) ?_; (conv => whnf))
      | (refine ord_intro (by kernel_rfl) ?_; (conv => whnf))
    all_goals first | exact trivial | exact DLe.refl _ | exact DLe.nil | exact RowLe.refl _ _ _ | exact ⟨rfl, rfl⟩ | exact ⟨rfl, rfl, rfl⟩ | trace_state
  obtain ⟨hi, hnd⟩ := hi
  have hi : i ≤ c.marks.length := hi
  have hs : IntKind.i64.wrap ((i : Int) + 1) = ((i + 1 : Nat) : Int) := wrap_succ (n := 2000000) (by omega) (by omega)
  conv => whnf
  repeat' first
    | (refine call_intro (awake34_spec) ?_ (by first | exact .inl rfl | exact .inr ⟨rfl, rfl⟩); (conv => whnf))
    | (refine NextVC.mk (i + 1) ?_ ?_ ?_; (conv => whnf))
    | (refine bc_true (by assumption) ?_; (conv => whnf))
    | (refine bc_false (by assumption) ?_; (conv => whnf))
    | (refine bc_intro (fun _ => ?_) (fun _ => ?_) <;> (conv => whnf))
    | (refine need_intro ?_ ?_; (conv => whnf))
    | (refine wk_refl ?_; (conv => whnf))
    | (refine draw_intro (by kernel_rfl) ?_; (conv => whnf))
    | (refine ord_intro (by kernel_rfl) ?_; (conv => whnf))
  all_goals try simp only [decide_eq_true_eq, decide_eq_false_iff_not, Int.toNat_natCast] at *
  all_goals try first
    | exact trivial
    | omega
    | exact DLe.refl _
    | exact DLe.of_eq (by rw [hs])
    | exact ⟨by omega, by omega⟩
    | exact ⟨LeS.refl _, trivial⟩
    | (refine ⟨by omega, fun j hj => ?_⟩
       by_cases e : j = i
       · subst e; omega
       · exact hnd j (by omega))
  have hmb : MrkB c.marks := ⟨by omega, fun m hm => by
    obtain ⟨j, hj, rfl⟩ := List.getElem_of_mem hm
    have := hnd j (by omega)
    simp [List.getD, hj] at this
    omega⟩
  conv => whnf
  repeat' first
    | (refine call_some (new_ex 2000 hl) (fun _ => by first | exact .inl rfl | exact .inr ⟨rfl, rfl⟩) ?_; rintro ⟨tl, ta⟩ hT; (conv => whnf))
    | (refine call_some_if (net_ex 2000 4000 (by decide)) (fun _ => by first | exact .inl rfl | exact .inr ⟨rfl, rfl⟩) (need_intro ?_ ?_); rintro ⟨gs, b⟩ ⟨⟨hq, hn1, hn2⟩, h6⟩; (conv => whnf))
    | (refine bc_true (by assumption) ?_; (conv => whnf))
    | (refine bc_false (by assumption) ?_; (conv => whnf))
    | (refine need_intro ?_ ?_; (conv => whnf))
    | (refine wk_refl ?_; (conv => whnf))
    | (refine draw_intro (by kernel_rfl) ?_; (conv => whnf))
    | (refine ord_intro (by kernel_rfl) ?_; (conv => whnf))
  all_goals try first
    | assumption
    | exact ⟨hT, by omega, by omega⟩
  have hgl : gs.length ≤ 200 := hq.le
  have hNb := netq_b hq
  have hMb := marks_b hNb
  conv => whnf
  repeat' first
    | (refine call_if (beginp_at gs ser) (by first | exact .inl rfl | exact .inr ⟨rfl, rfl⟩) (need_intro ?_ ?_); (conv => whnf))
    | (refine call_if (beginr_at gs ser) (by first | exact .inl rfl | exact .inr ⟨rfl, rfl⟩) (need_intro ?_ ?_); (conv => whnf))
    | (refine call_if (sameK_refl (marksS gs)) (by first | exact .inl rfl | exact .inr ⟨rfl, rfl⟩) (need_intro ?_ ?_); (conv => whnf))
    | (refine bc_true (by assumption) ?_; (conv => whnf))
    | (refine bc_false (by assumption) ?_; (conv => whnf))
    | (refine bc_intro (fun _ => ?_) (fun _ => ?_) <;> (conv => whnf))
    | (refine need_intro ?_ ?_; (conv => whnf))
    | (refine wk_refl ?_; (conv => whnf))
    | (refine draw_intro (by kernel_rfl) ?_; (conv => whnf))
    | (refine ord_intro (by kernel_rfl) ?_; (conv => whnf))
  all_goals try first
    | exact ⟨⟨rfl, row_zero⟩, hNb⟩
    | exact ⟨⟨rfl, RowLe.refl _ _ _⟩, hNb⟩
    | exact hMb
    | (exfalso; simp [beginS] at *; done)
  conv => whnf
  repeat' first
    | (refine call_some_if (next_ex (a := b) _) (fun _ => by first | exact .inl rfl | exact .inr ⟨rfl, rfl⟩) (need_intro ?_ ?_); rintro ⟨v, b1⟩ ⟨⟨v1, v2⟩, v3⟩; (conv => whnf))
    | (refine call_some_if (next_ex _) (fun _ => by first | exact .inl rfl | exact .inr ⟨rfl, rfl⟩) (need_intro ?_ ?_); rintro ⟨w, b2⟩ ⟨⟨w1, w2⟩, w3⟩; (conv => whnf))
    | (refine bc_true (by assumption) ?_; (conv => whnf))
    | (refine bc_false (by assumption) ?_; (conv => whnf))
    | (refine need_intro ?_ ?_; (conv => whnf))
    | (refine wk_refl ?_; (conv => whnf))
    | (refine draw_intro (by kernel_rfl) ?_; (conv => whnf))
    | (refine ord_intro (by kernel_rfl) ?_; (conv => whnf))
  all_goals try first
    | exact ⟨by assumption, by omega, by omega⟩
  refine loop_auto [1, 3, 8, 11, 92] [] (fun x : (Nat × Unit × Unit) × Nat => [(91, .d (encL encSwp 3 [c, ⟨marksS gs, v, IntKind.i64.wrap (w - 1)⟩, ⟨marksS gs, 5, 0⟩])), (93, .d (.int .i64 x.1.1))]) (fun x => [(2000, tapeB tl x.2)]) (fun x => x.1.1 ≤ 3 ∧ TapeOk tl x.2) (fun x => 3 - x.1.1) ((0, (), ()), b2) ?_ (fun x hx => ?_) ⟨by simp, w3⟩
  · conv => whnf
    repeat' first
      | (refine bc_true (by assumption) ?_; (conv => whnf))
      | (refine bc_false (by assumption) ?_; (conv => whnf))
      | (refine bc_intro (fun _ => ?_) (fun _ => ?_) <;> (conv => whnf))
      | (refine need_intro ?_ ?_; (conv => whnf))
      | (refine wk_refl ?_; (conv => whnf))
      | (refine draw_intro (by kernel_rfl) ?_; (conv => whnf))
      | (refine ord_intro (by kernel_rfl) ?_; (conv => whnf))
    all_goals first
      | exact trivial
      | exact DLe.refl _
      | (refine dle_lit (by kernel_rfl) rfl (swp_lit (jlt3 (DLe.refl _) (DLe.refl _) (DLe.refl _)) (jlt3 (DLe.refl _) (DLe.refl _) (DLe.refl _)) (jlt3 (DLe.refl _) (DLe.refl _) (DLe.refl _))); done)
      | trace_state
  obtain ⟨⟨ia, ua⟩, ba⟩ := x
  obtain ⟨hia, hba⟩ := hx
  simp only at hia hba
  have hsa : IntKind.i64.wrap ((ia : Int) + 1) = ((ia + 1 : Nat) : Int) := wrap_succ (n := 100) (by omega) (by omega)
  have hX : MrkB ([c, ⟨marksS gs, v, IntKind.i64.wrap (w - 1)⟩, ⟨marksS gs, 5, 0⟩].getD (ia : Int).toNat default).marks := swp_pick hmb hMb hMb
  conv => whnf
  repeat' first
    | (refine call_some_if (storeL_ex _) (fun _ => by first | exact .inl rfl | exact .inr ⟨rfl, rfl⟩) (need_intro ?_ ?_); rintro ⟨y0, b3⟩ ⟨hy0, h6⟩; (conv => whnf))
    | (refine call_intro (awake34_spec) ?_ (by first | exact .inl rfl | exact .inr ⟨rfl, rfl⟩); (conv => whnf))
    | (refine bc_true (by assumption) ?_; (conv => whnf))
    | (refine bc_false (by assumption) ?_; (conv => whnf))
    | (refine bc_intro (fun _ => ?_) (fun _ => ?_) <;> (conv => whnf))
    | (refine need_intro ?_ ?_; (conv => whnf))
    | (refine wk_refl ?_; (conv => whnf))
    | (refine draw_intro (by kernel_rfl) ?_; (conv => whnf))
    | (refine ord_intro (by kernel_rfl) ?_; (conv => whnf))
  all_goals try exact ⟨LeS.refl _, trivial⟩
  all_goals try simp only [decide_eq_true_eq, decide_eq_false_iff_not] at *
  all_goals try first
    | assumption
    | exact ⟨by omega, by omega⟩
  have hy0b := hy0.b.mono (m := 1000000) (by omega)
  refine loop_auto [1, 3, 8, 11, 16, 91, 92, 93, 101] [2000] (fun x : (Nat × Unit) × SwpT => [(100, .d (encL encLS 1 [raw, y0])), (102, .d (.int .i64 x.1.1))]) (fun x => [(16, .box (swpL x.2))]) (fun x => x.1.1 ≤ 2 ∧ MrkB x.2.marks) (fun x => 2 - x.1.1) ((0, ()), [c, ⟨marksS gs, v, IntKind.i64.wrap (w - 1)⟩, ⟨marksS gs, 5, 0⟩].getD (ia : Int).toNat default) ?_ (fun x hx => ?_) ⟨by simp, hX⟩
  · conv => whnf
    repeat' first
      | (refine bc_true (by assumption) ?_; (conv => whnf))
      | (refine bc_false (by assumption) ?_; (conv => whnf))
      | (refine bc_intro (fun _ => ?_) (fun _ => ?_) <;> (conv => whnf))
      | (refine need_intro ?_ ?_; (conv => whnf))
      | (refine wk_refl ?_; (conv => whnf))
      | (refine draw_intro (by kernel_rfl) ?_; (conv => whnf))
      | (refine ord_intro (by kernel_rfl) ?_; (conv => whnf))
    all_goals first
      | exact trivial
      | exact DLe.refl _
      | (refine dle_lit (by kernel_rfl) rfl (lists2_lit (DLe.refl _) (DLe.refl _)); done)
      | trace_state
  obtain ⟨⟨ib, ub⟩, cb⟩ := x
  obtain ⟨hib, hcb⟩ := hx
  simp only at hib hcb
  have hsb : IntKind.i64.wrap ((ib : Int) + 1) = ((ib + 1 : Nat) : Int) := wrap_succ (n := 100) (by omega) (by omega)
  have hY : StoB 1000000 ([raw, y0].getD (ib : Int).toNat default) := stob_pick hrb hy0b
  conv => whnf
  repeat' first
    | (refine NextVC.mk ((ia + 1, (), ()), b3) ?_ ?_ ?_; (conv => whnf))
    | (refine bc_true (by assumption) ?_; (conv => whnf))
    | (refine bc_false (by assumption) ?_; (conv => whnf))
    | (refine bc_intro (fun _ => ?_) (fun _ => ?_) <;> (conv => whnf))
    | (refine need_intro ?_ ?_; (conv => whnf))
    | (refine wk_refl ?_; (conv => whnf))
    | (refine draw_intro (by kernel_rfl) ?_; (conv => whnf))
    | (refine ord_intro (by kernel_rfl) ?_; (conv => whnf))
  all_goals try simp only [decide_eq_true_eq, decide_eq_false_iff_not] at *
  all_goals try first
    | exact trivial
    | assumption
    | omega
    | exact DLe.refl _
    | exact DLe.of_eq (by rw [hsa])
    | exact ⟨by omega, by omega⟩
    | exact ⟨by omega, by assumption⟩
  refine loop_auto [1, 3, 8, 11, 16, 91, 92, 93, 100, 101, 102] [2000] (fun x : Nat × SwpT × List StoT => [(19, .d (.int .i64 x.1)), (18, .d (encL encSto 33 x.2.2))]) (fun x => [(16, .box (swpL x.2.1))]) (fun x => x.1 ≤ 10 ∧ MrkB x.2.1.marks ∧ StoB 1000000 x.2.2) (fun x => 10 - x.1) (0, cb, [raw, y0].getD (ib : Int).toNat default) ?_ (fun x hx => ?_) ⟨by simp, hcb, hY⟩
  · conv => whnf
    repeat' first
      | (refine bc_true (by assumption) ?_; (conv => whnf))
      | (refine bc_false (by assumption) ?_; (conv => whnf))
      | (refine bc_intro (fun _ => ?_) (fun _ => ?_) <;> (conv => whnf))
      | (refine need_intro ?_ ?_; (conv => whnf))
      | (refine wk_refl ?_; (conv => whnf))
      | (refine draw_intro (by kernel_rfl) ?_; (conv => whnf))
      | (refine ord_intro (by kernel_rfl) ?_; (conv => whnf))
    all_goals first | exact trivial | exact DLe.refl _ | exact DLe.nil | exact RowLe.refl _ _ _ | exact ⟨rfl, rfl⟩ | exact ⟨rfl, rfl, rfl⟩ | trace_state
  obtain ⟨k, cc, lc⟩ := x
  obtain ⟨hk, hcc, hlc⟩ := hx
  simp only at hk hcc hlc
  have hsk : IntKind.i64.wrap ((k : Int) + 1) = ((k + 1 : Nat) : Int) := wrap_succ (n := 100) (by omega) (by omega)
  have hcm : MrkB (stepS cc lc).1.1.marks := by rw [step_keep.1]; exact hcc
  have hls := stob_step (c := cc) hlc
  conv => whnf
  repeat' first
    | (refine call_if (stepp_spec cc lc) (by first | exact .inl rfl | exact .inr ⟨rfl, rfl⟩) (need_intro ?_ ?_); (conv => whnf))
    | (refine call_if (stepr_spec cc lc) (by first | exact .inl rfl | exact .inr ⟨rfl, rfl⟩) (need_intro ?_ ?_); (conv => whnf))
    | (refine call_if (sameK_refl (stepS cc lc).1.1.marks) (by first | exact .inl rfl | exact .inr ⟨rfl, rfl⟩) (need_intro ?_ ?_); (conv => whnf))
    | (refine call_if (sameS_refl (stepS cc lc).1.2) (by first | exact .inl rfl | exact .inr ⟨rfl, rfl⟩) (need_intro ?_ ?_); (conv => whnf))
    | (refine NextVC.mk ((ib + 1, ()), cc) ?_ ?_ ?_; (conv => whnf))
    | (refine NextVC.mk (k + 1, (stepS cc lc).1.1, (stepS cc lc).1.2) ?_ ?_ ?_; (conv => whnf))
    | (refine bc_true (by assumption) ?_; (conv => whnf))
    | (refine bc_false (by assumption) ?_; (conv => whnf))
    | (refine bc_intro (fun _ => ?_) (fun _ => ?_) <;> (conv => whnf))
    | (refine need_intro ?_ ?_; (conv => whnf))
    | (refine wk_refl ?_; (conv => whnf))
    | (refine draw_intro (by kernel_rfl) ?_; (conv => whnf))
    | (refine ord_intro (by kernel_rfl) ?_; (conv => whnf))
  all_goals try simp only [decide_eq_true_eq, decide_eq_false_iff_not] at *
  all_goals first
    | exact trivial
    | assumption
    | omega
    | exact DLe.refl _
    | exact DLe.of_eq (by rw [hsb])
    | exact DLe.of_eq (by rw [hsk])
    | exact ⟨by omega, by omega⟩
    | exact ⟨by omega, by assumption⟩
    | exact ⟨hlc, hcc⟩
    | exact ⟨by omega, hcm, hls⟩
    | (exfalso; simp at *; done)
    | trace_state
theorem swp_wf {R f : Nat} {ds : List D} (h : wfT Tryd.prog R (f + 5) 68 ds) : ∃ c : SwpT, (c.marks.length ≤ 9223372036854775807 ∧ ∀ m ∈ c.marks, m.nodes.length ≤ 9223372036854775807) ∧ LeL (ds.map .d) (swpL c) := by
  obtain ⟨a1, r1, rfl, hm, a2, r2, rfl, ⟨s, rfl, w1⟩, a3, r3, rfl, ⟨p, rfl, w2⟩, rfl⟩ := h
  obtain ⟨ms, hms, hl⟩ := mrks_wf hm
  refine ⟨⟨ms, s, p⟩, hms, ?_⟩
  simp only [List.map_append, List.map_cons, List.map_nil, List.append_assoc, List.cons_append, List.nil_append, List.append_nil]
  exact leL_app hl (LeL.refl _)
theorem collectSteps_all (dss : List (List D)) (h : All2 (wfT Tryd.prog reachBytes 12) [22, 23, 68, 3] dss) : Sx.Spec Tryd.prog GG 5 (svs Tryd.prog [22, 23, 68, 3] dss) [] (.d (.bool true)) [] := by
  obtain ⟨x, y, z, w, rfl, hx, hy, hz, hw⟩ := inv4 h
  obtain ⟨l, h1, h2, h3⟩ := ints_arg hx
  obtain ⟨raw, hraw, g1⟩ := stos_wf (f := 3) hy
  obtain ⟨c, hc, g2⟩ := swp_wf (f := 7) hz
  obtain ⟨ser, rfl, _⟩ := hw
  obtain ⟨_, _, rfl, _⟩ := hx
  obtain ⟨_, _, rfl, _⟩ := hy
  exact (collectSteps_law l raw c ser h1 hraw hc).arg (leL_app h2 (leL_app g1 (LeL.cons (LeS.agg g2) (LeL.refl _))))
theorem collectSteps_lifted (os : Os) (started : os.Started) (H : Type) (enc : TypeId × Value → H) :
    ReturnsInHanded {} Tryd.checked os 5 .any (fun w args => (Rows.collectStepsSpec.pre enc Tryd.prog Tryd.f5 [] false w args ∧ laidMetH Tryd.prog laidL w) ∧ sizedMet enc Tryd.prog Tryd.f5 (OpenSpec.ofChange Rows.collectStepsSpec) false w args)
      (Rows.collectStepsSpec.post enc Tryd.prog Tryd.f5 false true false false) := by
  refine returnsInHanded_of_change_and (C := Tryd.checked) (X := fun w _ => laidMetH Tryd.prog laidL w) (fun _ _ _ hh h => h.of_heap hh) own started (by kernel_rfl) Tryd.func5
    (ChangeSpec.witness_shaped (enc := enc) (C := Tryd.checked) (os := os) (X := fun w _ => laidMetH Tryd.prog laidL w) false (World.doorLaid Tryd.prog 400 os) #[.slice none 0 0, .slice none 0 0, .agg #[.slice none 0 0, .int .i64 0, .int .i64 0], .int .i64 0] 8 rfl (World.shaped_of_RefB (by kernel_rfl) (by kernel_rfl)) (by kernel_rfl) (by kernel_rfl) (by kernel_rfl) (door_met os _)) ?_
  intro W base args ds gs before hval hW hcnd hsz hL _
  refine law_contract (P := Tryd.prog) (ts := [22, 23, 68, 3]) (bt := 4) (G := GG) laidOut (by rw [Tryd.params5]) (by kernel_rfl) Tryd.underlying4 (by kernel_rfl) rfl ?_ collectSteps_all hval hW hsz (gok hL)
  intro ds h
  match ds, h with
  | [_, _, _, _], _ => rfl
theorem collectSteps_over : Rows.collectStepsRow.holds Tryd.pinned (OpenSpec.ofChange Rows.collectStepsSpec) :=
  OpenClaim.holds_of_wide 5 Tryd.f5 rfl rfl rfl rfl rfl rfl rfl ⟨rfl, rfl, rfl, rfl, rfl⟩ rfl rfl rfl rfl rfl (by kernel_rfl) Tryd.func5 (by kernel_rfl)
    (of_decide_eq_true (by kernel_rfl)) (by unfold Func.isWrapper; first | (rw [if_pos (by decide +kernel)]; kernel_rfl) | (rw [if_neg (by decide +kernel)]; exact ⟨rfl, rfl⟩))
    (fun os started H enc _ => collectSteps_lifted os started H enc)
theorem collectSteps_plain : ∀ t ∈ [22, 23, 68, 3], Tryd.prog.wantsStandIn t = false := by
  intro t ht
  simp only [List.mem_cons, List.not_mem_nil, or_false] at ht
  rcases ht with rfl | rfl | rfl | rfl <;> kernel_rfl
theorem collectSteps_proved : Rows.CollectStepsCardSaid :=
  Claim7.holds_tied_plain_at .later [] [.data] true (true, "66906a84d04c3a2d89c646eecd6f16b75eda7d321f445f2ddb9410a71b637972") false
    collectSteps_over (fun _ h => by cases h) (by kernel_rfl) (fun _ h => by cases h) collectSteps_row_tie rfl ⟨rfl, rfl⟩ (by kernel_rfl) rfl
    (fun f fn hf hfn => by
      obtain rfl : f = 5 := Option.some.inj ((show Tryd.prog.funcNamed Rows.collectStepsRow.func = some 5 by kernel_rfl).symm.trans hf) |>.symm
      obtain rfl : fn = Tryd.f5 := (Option.some.inj (Tryd.func5.symm.trans hfn)).symm
      exact ⟨by kernel_rfl, fun j t ht => collectSteps_plain t (by
        rw [Tryd.params5] at ht
        exact List.mem_of_getElem? (by simpa using ht))⟩)
    (by kernel_rfl)
#print axioms collectSteps_proved
end Go.Proofs.YtcllahjpinbiaaaDoor
