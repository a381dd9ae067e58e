/- Contracts of functions that the law reaches: YtohenbaodklohaaDoorCol3. Written for this claim. -/
import Derived.Test.YtohenbaodklohaaDoorCol2
namespace Go.Proofs.YtohenbaodklohaaDoor
open Go Go.Sx Go.ChangeShapes Go.WideShapes Go.ChangeAt Go.RowKit
set_option linter.unusedVariables false
set_option linter.unusedSimpArgs false
set_option maxRecDepth 100000
/-! marks, sweeps, steps -/
structure NetB (gs : List GrpT) : Prop where
  len : gs.length ≤ 1000
  all : ∀ g ∈ gs, GrpB 1000 g
theorem net_at {gs : List GrpT} (h : NetB gs) (i : Nat) : GrpB 1000 (gs.getD i default) := by
  rcases Nat.lt_or_ge i gs.length with hi | hi
  · exact h.all _ (getD_mem hi)
  · have e : gs.getD i default = default := by simp [List.getD, hi]
    rw [e]; exact ⟨by simp [default], by simp [default]⟩
theorem marks_len {gs : List GrpT} : (marksS gs).length = gs.length := by simp [marksS]
theorem marks_take {gs : List GrpT} {i : Nat} (h : i < gs.length) : marksS (gs.take (i + 1)) = marksS (gs.take i) ++ [⟨(gs.getD i default).num, liveL (gs.getD i default).mem⟩] := by
  rw [take_succ' h, marksS, List.map_append]; rfl
theorem marksp_spec (gs : List GrpT) : NetB gs → Sx.Spec Tryd.prog GG 33 [.d (encL encGrp 3 gs)] [] (.d (encL encMrk 2 (marksS gs))) [] := by
  intro h
  have hl := h.len
  refine spec_intro (E := EE) (fn := Tryd.f33) eok (by kernel_rfl) (by kernel_rfl) Tryd.call33 (by kernel_rfl) (by kernel_rfl) ?_
  conv => whnf
  repeat' first
    | (refine bc_true (by assumption) ?_; (conv => whnf))
    | (refine bc_false (by assumption) ?_; (conv => whnf))
    | (refine need_intro ?_ ?_; (conv => whnf))
    | (refine wk_refl ?_; (conv => whnf))
    | (refine draw_intro (by kernel_rfl) ?_; (conv => whnf))
    | (refine ord_intro (by kernel_rfl) ?_; (conv => whnf))
  refine loop_auto [2, 6, 7] [] (fun i : Nat => [(8, .d (.int .i64 i)), (3, .osl 500 2 0 (marksS (gs.take i)).length)]) (fun i => [(500, .row 114 2 (marksS (gs.take i)).length (cellOf encMrk (marksS (gs.take i))))]) (fun i => i ≤ gs.length) (fun i => gs.length - i) 0 ?_ (fun i hi => ?_) (by omega)
  · conv => whnf
    repeat' first
      | (refine bc_true (by assumption) ?_; (conv => whnf))
      | (refine bc_false (by assumption) ?_; (conv => whnf))
      | (refine bc_intro (fun _ => ?_) (fun _ => ?_) <;> (conv => whnf))
      | (refine need_intro ?_ ?_; (conv => whnf))
      | (refine wk_refl ?_; (conv => whnf))
      | (refine draw_intro (by kernel_rfl) ?_; (conv => whnf))
      | (refine ord_intro (by kernel_rfl) ?_; (conv => whnf))
    all_goals first | exact trivial | exact DLe.refl _ | exact DLe.nil | exact RowLe.refl _ _ _ | exact ⟨rfl, rfl⟩ | exact ⟨rfl, rfl, rfl⟩ | trace_state
  · have hs : IntKind.i64.wrap ((i : Int) + 1) = ((i + 1 : Nat) : Int) := wrap_succ (n := 2000000) (by omega) (by omega)
    have hg := (net_at h i).len
    have hml : (marksS (gs.take i)).length ≤ 1000 := by rw [marks_len, List.length_take]; omega
    have hy := fun h => marks_take (gs := gs) (i := i) h
    conv => whnf
    repeat' first
      | (refine call_if (livep_spec0 (gs.getD i default)) (by first | exact .inl rfl | exact .inr ⟨rfl, rfl⟩) (need_intro ?_ ?_); (conv => whnf))
      | (refine NextVC.mk (i + 1) ?_ ?_ ?_; (conv => whnf))
      | (refine bc_true (by assumption) ?_; (conv => whnf))
      | (refine bc_false (by assumption) ?_; (conv => whnf))
      | (refine bc_intro (fun _ => ?_) (fun _ => ?_) <;> (conv => whnf))
      | (refine need_intro ?_ ?_; (conv => whnf))
      | (refine wk_refl ?_; (conv => whnf))
      | (refine draw_intro (by kernel_rfl) ?_; (conv => whnf))
      | (refine ord_intro (by kernel_rfl) ?_; (conv => whnf))
    all_goals try simp only [cellsSto, bytesSto, cellsMrk, bytesMrk, cellsIntG, bytesIntG, true_and, and_true, decide_eq_true_eq, decide_eq_false_iff_not, beq_iff_eq, bne_iff_ne, beq_eq_false_iff_ne, bne_eq_false_iff_eq, ne_eq, Decidable.not_not, Bool.not_eq_true', Bool.not_eq_false', Int.toNat_natCast] at *
    all_goals first
      | exact trivial
      | omega
      | exact DLe.refl _
      | exact DLe.of_eq (by rw [hs])
      | exact ⟨by omega, by omega⟩
      | exact ⟨trivial, by omega, by omega⟩
      | (rw [hy (by omega), List.length_append, List.length_singleton]; done)
      | exact ⟨trivial, cellsMrk, by rw [hy (by omega), List.length_append, List.length_singleton]⟩
      | exact ⟨cellsMrk, trivial, by rw [hy (by omega), List.length_append, List.length_singleton]⟩
      | exact ⟨trivial, trivial, by rw [hy (by omega), List.length_append, List.length_singleton]⟩
      | (rw [hy (by omega), List.length_append, List.length_singleton]
         exact row_snoc rfl (RowLe.refl _ _ _) (jlt2 (DLe.of_eq rfl) (DLe.of_eq rfl)))
      | (have e : i = gs.length := by omega
         subst e
         refine ⟨?_, trivial⟩
         rw [List.take_length]
         exact les_own rfl)
      | trace_state
theorem marksp_at (gs : List GrpT) {n : Nat} {gf : Nat → Nat → D} : ((n = gs.length ∧ RowLe n 3 gf (cellOf encGrp gs)) ∧ NetB gs) → Sx.Spec Tryd.prog GG 33 [.d (.list n 3 gf)] [] (.d (encL encMrk 2 (marksS gs))) [] := fun ⟨⟨e, hr⟩, h⟩ => by
  subst e
  exact (marksp_spec gs h).arg (LeL.cons (LeS.d (DLe.rows rfl hr)) LeL.nil)
theorem marks_b {gs : List GrpT} (h : NetB gs) : MrkB (marksS gs) := by
  refine ⟨by rw [marks_len]; have := h.len; omega, fun m hm => ?_⟩
  simp only [marksS, List.mem_map] at hm
  obtain ⟨g, hg, rfl⟩ := hm
  have := (h.all g hg).len
  simp only [liveL, List.length_map]
  exact Nat.le_trans (List.length_filter_le _ _) (by omega)
theorem beginp_at (gs : List GrpT) (ser : Int) {n : Nat} {gf : Nat → Nat → D} : ((n = gs.length ∧ RowLe n 3 gf (cellOf encGrp gs)) ∧ NetB gs) → Sx.Spec Tryd.prog GG 7 [.d (.list n 3 gf), .d (.int .i64 ser)] [] (.agg (swpL (beginS gs ser))) [] := by
  intro h
  refine spec_intro (E := EE) (fn := Tryd.f7) eok (by kernel_rfl) (by kernel_rfl) Tryd.call7 (by kernel_rfl) (by kernel_rfl) ?_
  conv => whnf
  repeat' first
    | (refine call_if (marksp_at gs) (by first | exact .inl rfl | exact .inr ⟨rfl, rfl⟩) (need_intro ?_ ?_); (conv => whnf))
    | (refine bc_true (by assumption) ?_; (conv => whnf))
    | (refine bc_false (by assumption) ?_; (conv => whnf))
    | (refine bc_intro (fun _ => ?_) (fun _ => ?_) <;> (conv => whnf))
    | (refine need_intro ?_ ?_; (conv => whnf))
    | (refine wk_refl ?_; (conv => whnf))
    | (refine draw_intro (by kernel_rfl) ?_; (conv => whnf))
    | (refine ord_intro (by kernel_rfl) ?_; (conv => whnf))
  all_goals first
    | exact h
    | exact ⟨LeS.refl _, trivial⟩
    | trace_state
theorem sweep_take {l : List StoT} {ms : List MrkT} {ser : Int} {i : Nat} (h : i < l.length) : sweepS (l.take (i + 1)) ms ser = sweepS (l.take i) ms ser ++ (if deadS ms ser (l.getD i default) then [] else [l.getD i default]) := by
  rw [take_succ' h, sweepS, List.filter_append]
  congr 1
  simp only [List.filter_cons, List.filter_nil]
  cases deadS ms ser (l.getD i default) <;> rfl
theorem stob_sweep {N : Nat} {l : List StoT} {ms : List MrkT} {ser : Int} {i : Nat} (h : StoB N l) : StoB N (sweepS (l.take i) ms ser) :=
  ⟨by have := h.len; have := List.length_filter_le (fun x => !(deadS ms ser x)) (l.take i); simp only [List.length_take] at this; simp only [sweepS]; omega, fun x hx => h.small x (by
    simp only [sweepS, List.mem_filter] at hx
    exact List.mem_of_mem_take hx.1)⟩
theorem cloneI0 (xs : List Int) : xs.length ≤ 1000000 → Sx.Spec Tryd.prog GG 71 [.d (encL encI 1 xs)] [] (.d (encL encI 1 xs)) [] := by
  intro hl
  refine spec_intro (E := EE) (fn := Tryd.f71) eok (by kernel_rfl) (by kernel_rfl) Tryd.call71 (by kernel_rfl) (by kernel_rfl) ?_
  conv => whnf
  repeat' first
    | (refine bc_true (by assumption) ?_; (conv => whnf))
    | (refine bc_false (by assumption) ?_; (conv => whnf))
    | (refine bc_intro (fun _ => ?_) (fun _ => ?_) <;> (conv => whnf))
    | (refine need_intro ?_ ?_; (conv => whnf))
    | (refine wk_refl ?_; (conv => whnf))
    | (refine draw_intro (by kernel_rfl) ?_; (conv => whnf))
    | (refine ord_intro (by kernel_rfl) ?_; (conv => whnf))
  all_goals try simp only [cellsSto, bytesSto, cellsMrk, bytesMrk, cellsIntG, bytesIntG, true_and, and_true, decide_eq_true_eq, decide_eq_false_iff_not, beq_iff_eq, bne_iff_ne, beq_eq_false_iff_ne, bne_eq_false_iff_eq, ne_eq, Decidable.not_not, Bool.not_eq_true', Bool.not_eq_false', Int.toNat_natCast] at *
  all_goals first
    | exact trivial
    | omega
    | exact DLe.refl _
    | exact ⟨by omega, by omega⟩
    | exact ⟨les_own rfl, trivial⟩
    | trace_state
theorem cloneK_at (xs : List MrkT) : xs.length ≤ 1000000 → Sx.Spec Tryd.prog GG 70 [.d (encL encMrk 2 xs)] [] (.osl 1000 2 0 xs.length) [(1000, .row 114 2 xs.length (cellOf encMrk xs))] := by
  intro hl
  refine spec_intro (E := EE) (fn := Tryd.f70) eok (by kernel_rfl) (by kernel_rfl) Tryd.call70 (by kernel_rfl) (by kernel_rfl) ?_
  conv => whnf
  repeat' first
    | (refine bc_true (by assumption) ?_; (conv => whnf))
    | (refine bc_false (by assumption) ?_; (conv => whnf))
    | (refine bc_intro (fun _ => ?_) (fun _ => ?_) <;> (conv => whnf))
    | (refine need_intro ?_ ?_; (conv => whnf))
    | (refine wk_refl ?_; (conv => whnf))
    | (refine draw_intro (by kernel_rfl) ?_; (conv => whnf))
    | (refine ord_intro (by kernel_rfl) ?_; (conv => whnf))
  all_goals try simp only [cellsSto, bytesSto, cellsMrk, bytesMrk, cellsIntG, bytesIntG, true_and, and_true, decide_eq_true_eq, decide_eq_false_iff_not, beq_iff_eq, bne_iff_ne, beq_eq_false_iff_ne, bne_eq_false_iff_eq, ne_eq, Decidable.not_not, Bool.not_eq_true', Bool.not_eq_false', Int.toNat_natCast] at *
  all_goals first
    | exact trivial
    | omega
    | exact DLe.refl _
    | exact RowLe.refl _ _ _
    | exact ⟨by omega, by omega⟩
    | trace_state
theorem row_sameK {xs : List MrkT} {p n : Nat} : RowLe n 2 (fun i' j' => if i' = p then if j' < 0 + 1 then cellOf encMrk xs i' j' else if j' < 0 + 1 + [encL encI 1 (xs.getD p default).nodes].length then [encL encI 1 (xs.getD p default).nodes].getD (j' - (0 + 1)) default else cellOf encMrk xs i' j' else cellOf encMrk xs i' j')
    (cellOf encMrk xs) := by
  refine .of_eq fun i' j' _ hj => ?_
  by_cases hi : i' = p
  · subst hi
    simp only [if_pos, List.length_singleton]
    match j', hj with
    | 0, _ => rfl
    | 1, _ => rfl
  · simp only [if_neg hi]
theorem kmarks_spec (ms : List MrkT) : MrkB ms → Sx.Spec Tryd.prog GG 47 [.d (encL encMrk 2 ms)] [] (.d (encL encMrk 2 ms)) [] := by
  intro h
  have hl := h.len
  have hm := fun i => mrk_at h i
  refine spec_intro (E := EE) (fn := Tryd.f47) eok (by kernel_rfl) (by kernel_rfl) Tryd.call47 (by kernel_rfl) (by kernel_rfl) ?_
  conv => whnf
  repeat' first
    | (refine call_if (cloneK_at ms) (by first | exact .inl rfl | exact .inr ⟨rfl, rfl⟩) (need_intro ?_ ?_); (conv => whnf))
    | (refine bc_true (by assumption) ?_; (conv => whnf))
    | (refine bc_false (by assumption) ?_; (conv => whnf))
    | (refine need_intro ?_ ?_; (conv => whnf))
    | (refine wk_refl ?_; (conv => whnf))
    | (refine draw_intro (by kernel_rfl) ?_; (conv => whnf))
    | (refine ord_intro (by kernel_rfl) ?_; (conv => whnf))
  all_goals try first | omega
  refine loop_auto [0, 2, 6, 7] [] (fun i : Nat => [(8, .d (.int .i64 i))]) (fun i => [(1000, .row 114 2 ms.length (cellOf encMrk ms))]) (fun i => i ≤ ms.length) (fun i => ms.length - i) 0 ?_ (fun i hi => ?_) (by omega)
  · conv => whnf
    repeat' first
      | (refine bc_true (by assumption) ?_; (conv => whnf))
      | (refine bc_false (by assumption) ?_; (conv => whnf))
      | (refine bc_intro (fun _ => ?_) (fun _ => ?_) <;> (conv => whnf))
      | (refine need_intro ?_ ?_; (conv => whnf))
      | (refine wk_refl ?_; (conv => whnf))
      | (refine draw_intro (by kernel_rfl) ?_; (conv => whnf))
      | (refine ord_intro (by kernel_rfl) ?_; (conv => whnf))
    all_goals first | exact trivial | exact DLe.refl _ | exact DLe.nil | exact RowLe.refl _ _ _ | exact ⟨rfl, rfl⟩ | exact ⟨rfl, rfl, rfl⟩ | trace_state
  · have hs : IntKind.i64.wrap ((i : Int) + 1) = ((i + 1 : Nat) : Int) := wrap_succ (n := 2000000) (by omega) (by omega)
    conv => whnf
    repeat' first
      | (refine call_if (cloneI0 (ms.getD (0 + i) default).nodes) (by first | exact .inl rfl | exact .inr ⟨rfl, rfl⟩) (need_intro ?_ ?_); (conv => whnf))
      | (refine NextVC.mk (i + 1) ?_ ?_ ?_; (conv => whnf))
      | (refine bc_true (by assumption) ?_; (conv => whnf))
      | (refine bc_false (by assumption) ?_; (conv => whnf))
      | (refine bc_intro (fun _ => ?_) (fun _ => ?_) <;> (conv => whnf))
      | (refine need_intro ?_ ?_; (conv => whnf))
      | (refine wk_refl ?_; (conv => whnf))
      | (refine draw_intro (by kernel_rfl) ?_; (conv => whnf))
      | (refine ord_intro (by kernel_rfl) ?_; (conv => whnf))
    all_goals try simp only [cellsSto, bytesSto, cellsMrk, bytesMrk, cellsIntG, bytesIntG, true_and, and_true, decide_eq_true_eq, decide_eq_false_iff_not, beq_iff_eq, bne_iff_ne, beq_eq_false_iff_ne, bne_eq_false_iff_eq, ne_eq, Decidable.not_not, Bool.not_eq_true', Bool.not_eq_false', Int.toNat_natCast] at *
    all_goals first
      | exact trivial
      | omega
      | exact DLe.refl _
      | exact RowLe.refl _ _ _
      | exact hm _
      | exact DLe.of_eq (by rw [hs])
      | exact ⟨by omega, by omega⟩
      | exact ⟨rfl, rfl⟩
      | exact ⟨rfl, rfl, rfl⟩
      | exact ⟨trivial, trivial, trivial⟩
      | (have hz : 0 + i = i := Nat.zero_add i
         have := row_sameK (xs := ms) (p := i) (n := ms.length)
         simp only [hz] at this ⊢
         exact this)
      | exact ⟨les_own rfl, trivial⟩
      | trace_state
end Go.Proofs.YtohenbaodklohaaDoor
