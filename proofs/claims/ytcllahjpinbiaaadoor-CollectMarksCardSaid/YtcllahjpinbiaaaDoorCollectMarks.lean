/- The law CollectMarks: the walk through its code and the claim. -/
import Derived.Test.YtcllahjpinbiaaaDoorColM
namespace Go.Proofs.YtcllahjpinbiaaaDoor
open Go Go.Sx Go.ChangeShapes Go.WideShapes Go.ChangeAt Go.WideMaps Go.WideElems Go.RowKit
set_option linter.unusedVariables false
set_option linter.unusedSimpArgs false
set_option maxRecDepth 100000
set_option maxHeartbeats 16000000 in
theorem collectMarks_law (l : List Int) (raw : List StoT) (marks : List MrkT) (ser : Int) (hl : ∀ x ∈ l, -9223372036854775808 ≤ x ∧ x < 9223372036854775808) (hraw : raw.length ≤ 9223372036854775807) (hmk : marks.length ≤ 9223372036854775807 ∧ ∀ m ∈ marks, m.nodes.length ≤ 9223372036854775807) :
    Sx.Spec Tryd.prog GG 3 [.d (encL encI 1 l), .d (encL encSto 33 raw), .d (encL encMrk 2 marks), .d (.int .i64 ser)] [] (.d (.bool true)) [] := by
  refine spec_intro (E := EE) (fn := Tryd.f3) eok (by kernel_rfl) (by kernel_rfl) Tryd.call3 (by kernel_rfl) (by kernel_rfl) ?_
  conv => whnf
  repeat' first
    | (refine call_if (small34_spec raw) (by first | exact .inl rfl | exact .inr ⟨rfl, rfl⟩) (need_intro ?_ ?_); (conv => whnf))
    | (refine call_intro (awake34_spec) ?_ (by first | exact .inl rfl | exact .inr ⟨rfl, rfl⟩); (conv => whnf))
    | (refine bc_true (by assumption) ?_; (conv => whnf))
    | (refine bc_false (by assumption) ?_; (conv => whnf))
    | (refine bc_intro (fun _ => ?_) (fun _ => ?_) <;> (conv => whnf))
    | (refine need_intro ?_ ?_; (conv => whnf))
    | (refine wk_refl ?_; (conv => whnf))
    | (refine draw_intro (by kernel_rfl) ?_; (conv => whnf))
    | (refine ord_intro (by kernel_rfl) ?_; (conv => whnf))
  all_goals try first
    | exact hraw
    | exact ⟨LeS.refl _, trivial⟩
  all_goals try simp only [Bool.not_eq_true', Bool.not_eq_false', decide_eq_true_eq, decide_eq_false_iff_not] at *
  have hs1 : smallS raw = true := by assumption
  have hrb := (smallS_b hs1).mono (m := 999000) (by omega)
  have hml : marks.length ≤ 20 := by omega
  refine loop_auto [0, 1, 2, 3, 8, 32, 33] [] (fun i : Nat => [(34, .d (.int .i64 i))]) (fun i => []) (fun i => i ≤ marks.length ∧ ∀ j, j < i → (marks.getD j default).nodes.length ≤ 20) (fun i => marks.length - i) 0 ?_ (fun i hi => ?_) ⟨by omega, fun j hj => absurd hj (by omega)⟩
  · conv => whnf
    repeat' first
      | (refine bc_true (by assumption) ?_; (conv => whnf))
      | (refine bc_false (by assumption) ?_; (conv => whnf))
      | (refine bc_intro (fun _ => ?_) (fun _ => ?_) <;> (conv => whnf))
      | (refine need_intro ?_ ?_; (conv => whnf))
      | (refine wk_refl ?_; (conv => whnf))
      | (refine draw_intro (by kernel_rfl) ?_; (conv => whnf))
      | (refine ord_intro (by kernel_rfl) ?_; (conv => whnf))
    all_goals first | exact trivial | exact DLe.refl _ | exact DLe.nil | exact RowLe.refl _ _ _ | exact ⟨rfl, rfl⟩ | exact ⟨rfl, rfl, rfl⟩ | trace_state
  obtain ⟨hi, hnd⟩ := hi
  have hi : i ≤ marks.length := hi
  have hml : marks.length ≤ 20 := hml
  have hs : IntKind.i64.wrap ((i : Int) + 1) = ((i + 1 : Nat) : Int) := wrap_succ (n := 2000000) (by omega) (by omega)
  conv => whnf
  repeat' first
    | (refine call_intro (awake34_spec) ?_ (by first | exact .inl rfl | exact .inr ⟨rfl, rfl⟩); (conv => whnf))
    | (refine NextVC.mk (i + 1) ?_ ?_ ?_; (conv => whnf))
    | (refine bc_true (by assumption) ?_; (conv => whnf))
    | (refine bc_false (by assumption) ?_; (conv => whnf))
    | (refine bc_intro (fun _ => ?_) (fun _ => ?_) <;> (conv => whnf))
    | (refine need_intro ?_ ?_; (conv => whnf))
    | (refine wk_refl ?_; (conv => whnf))
    | (refine draw_intro (by kernel_rfl) ?_; (conv => whnf))
    | (refine ord_intro (by kernel_rfl) ?_; (conv => whnf))
  all_goals try simp only [decide_eq_true_eq, decide_eq_false_iff_not, Int.toNat_natCast] at *
  all_goals try first
    | exact trivial
    | omega
    | exact DLe.refl _
    | exact DLe.of_eq (by rw [hs])
    | exact ⟨by omega, by omega⟩
    | exact ⟨LeS.refl _, trivial⟩
    | (refine ⟨by omega, fun j hj => ?_⟩
       by_cases e : j = i
       · subst e; omega
       · exact hnd j (by omega))
  have hmb : MrkB marks := ⟨by omega, fun m hm => by
    obtain ⟨j, hj, rfl⟩ := List.getElem_of_mem hm
    have := hnd j (by omega)
    simp [List.getD, hj] at this
    omega⟩
  conv => whnf
  repeat' first
    | (refine call_some (new_ex 2000 hl) (fun _ => by first | exact .inl rfl | exact .inr ⟨rfl, rfl⟩) ?_; rintro ⟨tl, ta⟩ hT; (conv => whnf))
    | (refine call_some_if (net_ex 2000 4000 (by decide)) (fun _ => by first | exact .inl rfl | exact .inr ⟨rfl, rfl⟩) (need_intro ?_ ?_); rintro ⟨gs0, b⟩ ⟨⟨hq, hn1, hn2⟩, h6⟩; (conv => whnf))
    | (refine bc_true (by assumption) ?_; (conv => whnf))
    | (refine bc_false (by assumption) ?_; (conv => whnf))
    | (refine need_intro ?_ ?_; (conv => whnf))
    | (refine wk_refl ?_; (conv => whnf))
    | (refine draw_intro (by kernel_rfl) ?_; (conv => whnf))
    | (refine ord_intro (by kernel_rfl) ?_; (conv => whnf))
  all_goals try first
    | assumption
    | exact ⟨hT, by omega, by omega⟩
  have hgl : gs0.length ≤ 200 := hq.le
  refine loop_auto [1, 2, 3, 8, 11, 12, 49] [] (fun x : Nat × List GrpT × Nat => [(50, .d (.int .i64 x.1))]) (fun x => [(4000, .row 36 3 gs0.length (cellOf encGrp x.2.1)), (2000, tapeB tl x.2.2)]) (fun x => (x.1 ≤ gs0.length ∧ OddN gs0.length x.1 x.2.1) ∧ TapeOk tl x.2.2) (fun x => gs0.length - x.1) (0, gs0, b) ?_ (fun x hx => ?_) ⟨⟨by simp, oddn_zero hq⟩, h6⟩
  · conv => whnf
    repeat' first
      | (refine bc_true (by assumption) ?_; (conv => whnf))
      | (refine bc_false (by assumption) ?_; (conv => whnf))
      | (refine bc_intro (fun _ => ?_) (fun _ => ?_) <;> (conv => whnf))
      | (refine need_intro ?_ ?_; (conv => whnf))
      | (refine wk_refl ?_; (conv => whnf))
      | (refine draw_intro (by kernel_rfl) ?_; (conv => whnf))
      | (refine ord_intro (by kernel_rfl) ?_; (conv => whnf))
    all_goals first | exact trivial | exact DLe.refl _ | exact DLe.nil | exact RowLe.refl _ _ _ | exact ⟨rfl, rfl⟩ | exact ⟨rfl, rfl, rfl⟩ | trace_state
  obtain ⟨i, gs, b⟩ := x
  obtain ⟨⟨hi, ho⟩, hb⟩ := hx
  simp only at hi ho hb
  have hlen := ho.len
  have hs : IntKind.i64.wrap ((i : Int) + 1) = ((i + 1 : Nat) : Int) := wrap_succ (n := 2000000) (by omega) (by omega)
  conv => whnf
  repeat' first
    | (refine call_some_if (bool_ex _) (fun _ => by first | exact .inl rfl | exact .inr ⟨rfl, rfl⟩) (need_intro ?_ ?_); rintro ⟨v, b⟩ h1; (conv => whnf))
    | (refine call_some_if (oddGroup_ex (n := 1100) _ (gs.getD (0 + i) default)) (fun _ => by first | exact .inl rfl | exact .inr ⟨rfl, rfl⟩) (need_intro ?_ ?_); rintro ⟨g, b⟩ ⟨hg, h6⟩; (conv => whnf))
    | (refine NextVC.mk (i + 1, gs.set i ((fun _ => g) (show OddB 1101 g by assumption)), b) ?_ ?_ ?_; (conv => whnf))
    | (refine NextVC.mk (i + 1, gs, b) ?_ ?_ ?_; (conv => whnf))
    | (refine bc_true (by assumption) ?_; (conv => whnf))
    | (refine bc_false (by assumption) ?_; (conv => whnf))
    | (refine bc_intro (fun _ => ?_) (fun _ => ?_) <;> (conv => whnf))
    | (refine need_intro ?_ ?_; (conv => whnf))
    | (refine wk_refl ?_; (conv => whnf))
    | (refine draw_intro (by kernel_rfl) ?_; (conv => whnf))
    | (refine ord_intro (by kernel_rfl) ?_; (conv => whnf))
  all_goals try simp only [cellsGrp, bytesGrp, true_and, and_true, decide_eq_true_eq, decide_eq_false_iff_not, Int.toNat_natCast] at *
  all_goals try first
    | exact trivial
    | assumption
    | omega
    | exact DLe.refl _
    | exact RowLe.refl _ _ _
    | exact DLe.of_eq (by rw [hs])
    | exact ⟨by omega, by omega⟩
    | exact ⟨by assumption, by omega, by omega⟩
    | exact ⟨⟨by omega, oddn_set ho hg⟩, by assumption⟩
    | exact ⟨⟨by omega, oddn_same ho⟩, by assumption⟩
    | exact ⟨by assumption, by rw [Nat.zero_add]; exact ho.rest i (Nat.le_refl _) (by omega), by omega, by omega⟩
    | exact row_setGr rfl rfl rfl (by omega)
  have hNb := oddn_b ho (by omega)
  have hMb := marks_b hNb
  conv => whnf
  repeat' first
    | (refine call_if (marksp_at gs) (by first | exact .inl rfl | exact .inr ⟨rfl, rfl⟩) (need_intro ?_ ?_); (conv => whnf))
    | (refine call_if (marksr_at gs) (by first | exact .inl rfl | exact .inr ⟨rfl, rfl⟩) (need_intro ?_ ?_); (conv => whnf))
    | (refine call_if (sameK_refl (marksS gs)) (by first | exact .inl rfl | exact .inr ⟨rfl, rfl⟩) (need_intro ?_ ?_); (conv => whnf))
    | (refine bc_true (by assumption) ?_; (conv => whnf))
    | (refine bc_false (by assumption) ?_; (conv => whnf))
    | (refine need_intro ?_ ?_; (conv => whnf))
    | (refine wk_refl ?_; (conv => whnf))
    | (refine draw_intro (by kernel_rfl) ?_; (conv => whnf))
    | (refine ord_intro (by kernel_rfl) ?_; (conv => whnf))
  all_goals try first
    | exact ⟨⟨by omega, row_zero⟩, hNb⟩
    | exact ⟨⟨by omega, RowLe.refl _ _ _⟩, hNb⟩
    | exact hMb
  refine loop_auto [1, 2, 3, 8, 11, 75] [] (fun x : (Nat × Unit × Unit) × Nat => [(74, .d (encL encLM 1 [marksS gs, marks])), (76, .d (.int .i64 x.1.1))]) (fun x => [(2000, tapeB tl x.2)]) (fun x => x.1.1 ≤ 2 ∧ TapeOk tl x.2) (fun x => 2 - x.1.1) ((0, (), ()), b) ?_ (fun x hx => ?_) ⟨by simp, hb⟩
  · conv => whnf
    repeat' first
      | (refine bc_true (by assumption) ?_; (conv => whnf))
      | (refine bc_false (by assumption) ?_; (conv => whnf))
      | (refine bc_intro (fun _ => ?_) (fun _ => ?_) <;> (conv => whnf))
      | (refine need_intro ?_ ?_; (conv => whnf))
      | (refine wk_refl ?_; (conv => whnf))
      | (refine draw_intro (by kernel_rfl) ?_; (conv => whnf))
      | (refine ord_intro (by kernel_rfl) ?_; (conv => whnf))
    all_goals first
      | exact trivial
      | exact DLe.refl _
      | (refine dle_lit (by kernel_rfl) rfl (marks2_lit (DLe.refl _) (DLe.refl _)); done)
      | trace_state
  obtain ⟨⟨ia, ua⟩, ba⟩ := x
  obtain ⟨hia, hba⟩ := hx
  simp only at hia hba
  have hsa : IntKind.i64.wrap ((ia : Int) + 1) = ((ia + 1 : Nat) : Int) := wrap_succ (n := 100) (by omega) (by omega)
  have hX : MrkB ([marksS gs, marks].getD (ia : Int).toNat default) := mrk_pick hMb hmb
  conv => whnf
  repeat' first
    | (refine call_some_if (storeL_ex _) (fun _ => by first | exact .inl rfl | exact .inr ⟨rfl, rfl⟩) (need_intro ?_ ?_); rintro ⟨y0, b1⟩ ⟨hy0, h6⟩; (conv => whnf))
    | (refine call_intro (awake34_spec) ?_ (by first | exact .inl rfl | exact .inr ⟨rfl, rfl⟩); (conv => whnf))
    | (refine bc_true (by assumption) ?_; (conv => whnf))
    | (refine bc_false (by assumption) ?_; (conv => whnf))
    | (refine bc_intro (fun _ => ?_) (fun _ => ?_) <;> (conv => whnf))
    | (refine need_intro ?_ ?_; (conv => whnf))
    | (refine wk_refl ?_; (conv => whnf))
    | (refine draw_intro (by kernel_rfl) ?_; (conv => whnf))
    | (refine ord_intro (by kernel_rfl) ?_; (conv => whnf))
  all_goals try exact ⟨LeS.refl _, trivial⟩
  all_goals try simp only [decide_eq_true_eq, decide_eq_false_iff_not] at *
  all_goals try first
    | assumption
    | exact ⟨by omega, by omega⟩
  have hy0b := hy0.b.mono (m := 999000) (by omega)
  refine loop_auto [1, 2, 3, 8, 11, 16, 74, 75, 76, 84] [] (fun x : (Nat × Unit) × Nat => [(83, .d (encL encLS 1 [y0, raw])), (85, .d (.int .i64 x.1.1))]) (fun x => [(2000, tapeB tl x.2)]) (fun x => x.1.1 ≤ 2 ∧ TapeOk tl x.2) (fun x => 2 - x.1.1) ((0, ()), b1) ?_ (fun x hx => ?_) ⟨by simp, h6⟩
  · conv => whnf
    repeat' first
      | (refine bc_true (by assumption) ?_; (conv => whnf))
      | (refine bc_false (by assumption) ?_; (conv => whnf))
      | (refine bc_intro (fun _ => ?_) (fun _ => ?_) <;> (conv => whnf))
      | (refine need_intro ?_ ?_; (conv => whnf))
      | (refine wk_refl ?_; (conv => whnf))
      | (refine draw_intro (by kernel_rfl) ?_; (conv => whnf))
      | (refine ord_intro (by kernel_rfl) ?_; (conv => whnf))
    all_goals first
      | exact trivial
      | exact DLe.refl _
      | (refine dle_lit (by kernel_rfl) rfl (lists2_lit (DLe.refl _) (DLe.refl _)); done)
      | trace_state
  obtain ⟨⟨ib, ub⟩, bb⟩ := x
  obtain ⟨hib, hbb⟩ := hx
  simp only at hib hbb
  have hsb : IntKind.i64.wrap ((ib : Int) + 1) = ((ib + 1 : Nat) : Int) := wrap_succ (n := 100) (by omega) (by omega)
  have hY : StoB 999000 ([y0, raw].getD (ib : Int).toNat default) := stob_pick hy0b hrb
  have hYl := hY.len
  conv => whnf
  repeat' first
    | (refine call_some_if (next_ex _) (fun _ => by first | exact .inl rfl | exact .inr ⟨rfl, rfl⟩) (need_intro ?_ ?_); rintro ⟨w, b2⟩ ⟨⟨z1, z2⟩, z3⟩; (conv => whnf))
    | (refine NextVC.mk ((ia + 1, (), ()), bb) ?_ ?_ ?_; (conv => whnf))
    | (refine bc_true (by assumption) ?_; (conv => whnf))
    | (refine bc_false (by assumption) ?_; (conv => whnf))
    | (refine bc_intro (fun _ => ?_) (fun _ => ?_) <;> (conv => whnf))
    | (refine need_intro ?_ ?_; (conv => whnf))
    | (refine wk_refl ?_; (conv => whnf))
    | (refine draw_intro (by kernel_rfl) ?_; (conv => whnf))
    | (refine ord_intro (by kernel_rfl) ?_; (conv => whnf))
  all_goals try simp only [decide_eq_true_eq, decide_eq_false_iff_not] at *
  all_goals try first
    | exact trivial
    | assumption
    | omega
    | exact DLe.refl _
    | exact DLe.of_eq (by rw [hsa])
    | exact ⟨by omega, by omega⟩
    | exact ⟨by omega, by assumption⟩
    | exact ⟨by assumption, by omega, by omega⟩
  refine loop_auto [1, 2, 3, 8, 11, 16, 18, 74, 75, 76, 83, 84, 85, 93] [2000] (fun x : Nat × Unit => [(92, .d (encL encI 1 [ser, w])), (94, .d (.int .i64 x.1))]) (fun x => []) (fun x => x.1 ≤ 2) (fun x => 2 - x.1) (0, ()) ?_ (fun x hx => ?_) (by simp)
  · conv => whnf
    repeat' first
      | (refine bc_true (by assumption) ?_; (conv => whnf))
      | (refine bc_false (by assumption) ?_; (conv => whnf))
      | (refine bc_intro (fun _ => ?_) (fun _ => ?_) <;> (conv => whnf))
      | (refine need_intro ?_ ?_; (conv => whnf))
      | (refine wk_refl ?_; (conv => whnf))
      | (refine draw_intro (by kernel_rfl) ?_; (conv => whnf))
      | (refine ord_intro (by kernel_rfl) ?_; (conv => whnf))
    all_goals first
      | exact trivial
      | exact DLe.refl _
      | (refine dle_lit (by kernel_rfl) rfl (.all ?_); (repeat' first | exact trivial | exact rfl | apply And.intro); done)
      | trace_state
  obtain ⟨ic, uc⟩ := x
  simp only at hx
  have hsc : IntKind.i64.wrap ((ic : Int) + 1) = ((ic + 1 : Nat) : Int) := wrap_succ (n := 100) (by omega) (by omega)
  have hsw : ∀ n, StoB 1000000 (sweepS ([y0, raw].getD (ib : Int).toNat default) ([marksS gs, marks].getD (ia : Int).toNat default) n) := fun n => by
    have := stob_sweep (ms := [marksS gs, marks].getD (ia : Int).toNat default) (ser := n) (i := ([y0, raw].getD (ib : Int).toNat default).length) hY
    rw [List.take_length] at this
    exact this.mono (by omega)
  conv => whnf
  repeat' first
    | (refine call_if (sweepp_spec ([y0, raw].getD (ib : Int).toNat default) ([marksS gs, marks].getD (ia : Int).toNat default) ([ser, w].getD (ic : Int).toNat default)) (by first | exact .inl rfl | exact .inr ⟨rfl, rfl⟩) (need_intro ?_ ?_); (conv => whnf))
    | (refine call_if (sweepr_spec ([y0, raw].getD (ib : Int).toNat default) ([marksS gs, marks].getD (ia : Int).toNat default) ([ser, w].getD (ic : Int).toNat default)) (by first | exact .inl rfl | exact .inr ⟨rfl, rfl⟩) (need_intro ?_ ?_); (conv => whnf))
    | (refine call_if (sameS_refl (sweepS ([y0, raw].getD (ib : Int).toNat default) ([marksS gs, marks].getD (ia : Int).toNat default) ([ser, w].getD (ic : Int).toNat default))) (by first | exact .inl rfl | exact .inr ⟨rfl, rfl⟩) (need_intro ?_ ?_); (conv => whnf))
    | (refine NextVC.mk ((ib + 1, ()), b2) ?_ ?_ ?_; (conv => whnf))
    | (refine bc_true (by assumption) ?_; (conv => whnf))
    | (refine bc_false (by assumption) ?_; (conv => whnf))
    | (refine bc_intro (fun _ => ?_) (fun _ => ?_) <;> (conv => whnf))
    | (refine need_intro ?_ ?_; (conv => whnf))
    | (refine wk_refl ?_; (conv => whnf))
    | (refine draw_intro (by kernel_rfl) ?_; (conv => whnf))
    | (refine ord_intro (by kernel_rfl) ?_; (conv => whnf))
  all_goals try simp only [decide_eq_true_eq, decide_eq_false_iff_not] at *
  all_goals try first
    | exact trivial
    | assumption
    | omega
    | exact DLe.refl _
    | exact DLe.of_eq (by rw [hsb])
    | exact ⟨by omega, by omega⟩
    | exact ⟨by omega, by assumption⟩
    | exact ⟨hY, hX⟩
    | exact hsw _
    | (exfalso; simp at *; done)
  refine loop_auto [1, 2, 3, 8, 11, 16, 18, 20, 74, 75, 76, 83, 84, 85, 92, 93, 94, 108, 109] [2000] (fun x : Nat => [(110, .d (.int .i64 x))]) (fun x => []) (fun x => x ≤ ([y0, raw].getD (ib : Int).toNat default).length) (fun x => ([y0, raw].getD (ib : Int).toNat default).length - x) 0 ?_ (fun d hd => ?_) (by omega)
  · conv => whnf
    repeat' first
      | (refine bc_true (by assumption) ?_; (conv => whnf))
      | (refine bc_false (by assumption) ?_; (conv => whnf))
      | (refine bc_intro (fun _ => ?_) (fun _ => ?_) <;> (conv => whnf))
      | (refine need_intro ?_ ?_; (conv => whnf))
      | (refine wk_refl ?_; (conv => whnf))
      | (refine draw_intro (by kernel_rfl) ?_; (conv => whnf))
      | (refine ord_intro (by kernel_rfl) ?_; (conv => whnf))
    all_goals first | exact trivial | exact DLe.refl _ | exact DLe.nil | exact RowLe.refl _ _ _ | exact ⟨rfl, rfl⟩ | exact ⟨rfl, rfl, rfl⟩ | trace_state
  have hsd : IntKind.i64.wrap ((d : Int) + 1) = ((d + 1 : Nat) : Int) := wrap_succ (n := 2000000) (by omega) (by omega)
  conv => whnf
  repeat' first
    | (refine call_if (deadp_spec ([marksS gs, marks].getD (ia : Int).toNat default) ([ser, w].getD (ic : Int).toNat default) (([y0, raw].getD (ib : Int).toNat default).getD (d : Int).toNat default)) (by first | exact .inl rfl | exact .inr ⟨rfl, rfl⟩) (need_intro ?_ ?_); (conv => whnf))
    | (refine call_if (deadr_spec ([marksS gs, marks].getD (ia : Int).toNat default) ([ser, w].getD (ic : Int).toNat default) (([y0, raw].getD (ib : Int).toNat default).getD (d : Int).toNat default)) (by first | exact .inl rfl | exact .inr ⟨rfl, rfl⟩) (need_intro ?_ ?_); (conv => whnf))
    | (refine NextVC.mk (ic + 1, ()) ?_ ?_ ?_; (conv => whnf))
    | (refine NextVC.mk (d + 1) ?_ ?_ ?_; (conv => whnf))
    | (refine bc_true (by assumption) ?_; (conv => whnf))
    | (refine bc_false (by assumption) ?_; (conv => whnf))
    | (refine bc_intro (fun _ => ?_) (fun _ => ?_) <;> (conv => whnf))
    | (refine need_intro ?_ ?_; (conv => whnf))
    | (refine wk_refl ?_; (conv => whnf))
    | (refine draw_intro (by kernel_rfl) ?_; (conv => whnf))
    | (refine ord_intro (by kernel_rfl) ?_; (conv => whnf))
  all_goals try simp only [decide_eq_true_eq, decide_eq_false_iff_not] at *
  all_goals first
    | exact trivial
    | assumption
    | omega
    | exact DLe.refl _
    | exact DLe.of_eq (by rw [hsc])
    | exact DLe.of_eq (by rw [hsd])
    | exact ⟨by omega, by omega⟩
    | exact ⟨by omega, by assumption⟩
    | exact hX
    | (exfalso; simp at *; done)
    | trace_state
theorem collectMarks_all (dss : List (List D)) (h : All2 (wfT Tryd.prog reachBytes 12) [22, 23, 24, 3] dss) : Sx.Spec Tryd.prog GG 3 (svs Tryd.prog [22, 23, 24, 3] dss) [] (.d (.bool true)) [] := by
  obtain ⟨x, y, z, w, rfl, hx, hy, hz, hw⟩ := inv4 h
  obtain ⟨l, h1, h2, h3⟩ := ints_arg hx
  obtain ⟨raw, hraw, g1⟩ := stos_wf (f := 3) hy
  obtain ⟨ms, hms, g2⟩ := mrks_wf (f := 8) hz
  obtain ⟨ser, rfl, _⟩ := hw
  obtain ⟨_, _, rfl, _⟩ := hx
  obtain ⟨_, _, rfl, _⟩ := hy
  obtain ⟨_, _, rfl, _⟩ := hz
  exact (collectMarks_law l raw ms ser h1 hraw hms).arg (leL_app h2 (leL_app g1 (leL_app g2 (LeL.refl _))))
theorem collectMarks_lifted (os : Os) (started : os.Started) (H : Type) (enc : TypeId × Value → H) :
    ReturnsInHanded {} Tryd.checked os 3 .any (fun w args => (Rows.collectMarksSpec.pre enc Tryd.prog Tryd.f3 [] false w args ∧ laidMetH Tryd.prog laidL w) ∧ sizedMet enc Tryd.prog Tryd.f3 (OpenSpec.ofChange Rows.collectMarksSpec) false w args)
      (Rows.collectMarksSpec.post enc Tryd.prog Tryd.f3 false true false false) := by
  refine returnsInHanded_of_change_and (C := Tryd.checked) (X := fun w _ => laidMetH Tryd.prog laidL w) (fun _ _ _ hh h => h.of_heap hh) own started (by kernel_rfl) Tryd.func3
    (ChangeSpec.witness_shaped (enc := enc) (C := Tryd.checked) (os := os) (X := fun w _ => laidMetH Tryd.prog laidL w) false (World.doorLaid Tryd.prog 400 os) #[.slice none 0 0, .slice none 0 0, .slice none 0 0, .int .i64 0] 8 rfl (World.shaped_of_RefB (by kernel_rfl) (by kernel_rfl)) (by kernel_rfl) (by kernel_rfl) (by kernel_rfl) (door_met os _)) ?_
  intro W base args ds gs before hval hW hcnd hsz hL _
  refine law_contract (P := Tryd.prog) (ts := [22, 23, 24, 3]) (bt := 4) (G := GG) laidOut (by rw [Tryd.params3]) (by kernel_rfl) Tryd.underlying4 (by kernel_rfl) rfl ?_ collectMarks_all hval hW hsz (gok hL)
  intro ds h
  match ds, h with
  | [_, _, _, _], _ => rfl
theorem collectMarks_over : Rows.collectMarksRow.holds Tryd.pinned (OpenSpec.ofChange Rows.collectMarksSpec) :=
  OpenClaim.holds_of_wide 3 Tryd.f3 rfl rfl rfl rfl rfl rfl rfl ⟨rfl, rfl, rfl, rfl, rfl⟩ rfl rfl rfl rfl rfl (by kernel_rfl) Tryd.func3 (by kernel_rfl)
    (of_decide_eq_true (by kernel_rfl)) (by unfold Func.isWrapper; first | (rw [if_pos (by decide +kernel)]; kernel_rfl) | (rw [if_neg (by decide +kernel)]; exact ⟨rfl, rfl⟩))
    (fun os started H enc _ => collectMarks_lifted os started H enc)
theorem collectMarks_plain : ∀ t ∈ [22, 23, 24, 3], Tryd.prog.wantsStandIn t = false := by
  intro t ht
  simp only [List.mem_cons, List.not_mem_nil, or_false] at ht
  rcases ht with rfl | rfl | rfl | rfl <;> kernel_rfl
theorem collectMarks_proved : Rows.CollectMarksCardSaid :=
  Claim7.holds_tied_plain_at .later [] [.data] true (true, "66906a84d04c3a2d89c646eecd6f16b75eda7d321f445f2ddb9410a71b637972") false
    collectMarks_over (fun _ h => by cases h) (by kernel_rfl) (fun _ h => by cases h) collectMarks_row_tie rfl ⟨rfl, rfl⟩ (by kernel_rfl) rfl
    (fun f fn hf hfn => by
      obtain rfl : f = 3 := Option.some.inj ((show Tryd.prog.funcNamed Rows.collectMarksRow.func = some 3 by kernel_rfl).symm.trans hf) |>.symm
      obtain rfl : fn = Tryd.f3 := (Option.some.inj (Tryd.func3.symm.trans hfn)).symm
      exact ⟨by kernel_rfl, fun j t ht => collectMarks_plain t (by
        rw [Tryd.params3] at ht
        exact List.mem_of_getElem? (by simpa using ht))⟩)
    (by kernel_rfl)
#print axioms collectMarks_proved
end Go.Proofs.YtcllahjpinbiaaaDoor
