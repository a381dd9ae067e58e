/- Contracts of functions that the law reaches: YtegbenagmciegaaGreatDoorTakAnyL. Written for this claim. -/
import Derived.Test.YtegbenagmciegaaGreatDoorLawT3
import Derived.Test.YtegbenagmciegaaGreatDoorLawT5
namespace Go.Proofs.YtegbenagmciegaaGreatDoor
open Go Go.Sx Go.ChangeShapes Go.WideShapes Go.ChangeAt Go.WideMaps Go.WideElems Go.RowKit
set_option linter.unusedVariables false
set_option linter.unusedSimpArgs false
set_option maxRecDepth 100000
theorem oddGroup_ex (m : Nat) {l : List Int} {a : Nat} {n : Nat} (g : GrpT) : (TapeOk l a ∧ OddB n g ∧ 70 ≤ n ∧ n ≤ 1900) → ∃ x : GrpT × Nat, (OddB (n + 1) x.1 ∧ TapeOk l x.2) ∧ Sx.Spec Tryz.prog GG 47 [.ptr m 0, .agg (grpL g)] [(m, tapeB l a)] (.agg (grpL x.1)) [(m, tapeB l x.2)] := fun h => by
  obtain ⟨x, hx, hs⟩ := oddGroup0 g h
  exact ⟨x, hx, hs.at m⟩
theorem row_twoS {e1 v1 e2 v2 : Int} {z : Nat → Nat → D} : RowLe 2 2 (tabF z [(0, [.int .i64 e1, .int .i64 v1]), (1, [.int .i64 e2, .int .i64 v2])]) (cellOf encStp [(e1, v1), (e2, v2)]) :=
  .of_eq fun i j hi hj => by
    match i, hi with
    | 0, _ => exact jlt2 (p := fun j => tabF z [(0, [.int .i64 e1, .int .i64 v1]), (1, [.int .i64 e2, .int .i64 v2])] 0 j = cellOf encStp [(e1, v1), (e2, v2)] 0 j) rfl rfl j hj
    | 1, _ => exact jlt2 (p := fun j => tabF z [(0, [.int .i64 e1, .int .i64 v1]), (1, [.int .i64 e2, .int .i64 v2])] 1 j = cellOf encStp [(e1, v1), (e2, v2)] 1 j) rfl rfl j hj
theorem agree_two (g : GrpT) (c : CopyT) {n : Nat} {gf : Nat → Nat → D} (h : (∃ l : List (Int × Int), n = l.length ∧ RowLe n 2 gf (cellOf encStp l) ∧ l.length ≤ 1000000) ∧ GrpB 1000 g ∧ Small c) : Sx.Spec Tryz.prog GG 44 [.agg (grpL g), .agg (copyL c), .d (.list n 2 gf)] [] (.d (.bool true)) [] := by
  obtain ⟨⟨l, rfl, hr, hl⟩, hb, hs⟩ := h
  exact (agree_spec g c l ⟨hb, hs, hl⟩).arg (LeL.cons (LeS.refl _) (LeL.cons (LeS.refl _) (LeL.cons (LeS.d (DLe.rows rfl hr)) LeL.nil)))
set_option maxHeartbeats 8000000 in
theorem takeoverAny_law (l : List Int) (hl : ∀ x ∈ l, -9223372036854775808 ≤ x ∧ x < 9223372036854775808) (raw : GrpT) (cc : CopyT) (s : List (Int × Int)) (hraw : (∀ m ∈ raw.mem, I64 m.copy.sv) ∧ raw.mem.length ≤ 9223372036854775807) (hcc : cc.out.rows.length ≤ 4398046511104 ∧ cc.inn.rows.length ≤ 4398046511104) : Sx.Spec Tryz.prog GG 7 [.d (encL encI 1 l), .agg (grpL raw), .agg (copyL cc), .d (encL encStp 2 s)] [] (.d (.bool true)) [] := by
  have hsm := small26_spec raw hraw.2
  have hrb := fun h => smallG_b (g := raw) h hraw.1
  refine spec_intro (E := EE) (fn := Tryz.f7) eok (by kernel_rfl) (by kernel_rfl) Tryz.call7 (by kernel_rfl) (by kernel_rfl) ?_
  conv => whnf
  repeat' first
    | (refine call_intro (hsm) ?_ (by first | exact .inl rfl | exact .inr ⟨rfl, rfl⟩); (conv => whnf))
    | (refine call_intro (awake26_spec) ?_ (by first | exact .inl rfl | exact .inr ⟨rfl, rfl⟩); (conv => whnf))
    | (refine call_some (new_ex 2000 hl) (fun _ => by first | exact .inl rfl | exact .inr ⟨rfl, rfl⟩) ?_; rintro ⟨tl, ta⟩ hT; (conv => whnf))
    | (refine call_some_if (proper_ex _) (fun _ => by first | exact .inl rfl | exact .inr ⟨rfl, rfl⟩) (need_intro ?_ ?_); rintro ⟨k, t, k2, t2, b⟩ ⟨⟨h1, h2, h4⟩, h3⟩; (conv => whnf))
    | (refine call_some_if (groupB_ex _) (fun _ => by first | exact .inl rfl | exact .inr ⟨rfl, rfl⟩) (need_intro ?_ ?_); rintro ⟨⟨c, n⟩, b⟩ ⟨⟨hn, hv, hsmc, hr, hse, hsv, hp, ho, hi⟩, h5⟩; (conv => whnf))
    | (refine call_some_if (eventB_ex _ (k, t, k2, t2) 0 ⟨1, true, memG c n⟩) (fun _ => by first | exact .inl rfl | exact .inr ⟨rfl, rfl⟩) (need_intro ?_ ?_); rintro ⟨g0, b⟩ ⟨⟨hE, hP⟩, h6⟩; (conv => whnf))
    | (refine call_some_if (oddGroup_ex (n := 1100) _ g0) (fun _ => by first | exact .inl rfl | exact .inr ⟨rfl, rfl⟩) (need_intro ?_ ?_); rintro ⟨g1, b⟩ ⟨hg1, h6⟩; (conv => whnf))
    | (refine call_some_if (copy_ex _) (fun _ => by first | exact .inl rfl | exact .inr ⟨rfl, rfl⟩) (need_intro ?_ ?_); rintro ⟨x, b⟩ ⟨hx, h6⟩; (conv => whnf))
    | (refine call_some_if (oddCopy_ex (n := 100) _ x) (fun _ => by first | exact .inl rfl | exact .inr ⟨rfl, rfl⟩) (need_intro ?_ ?_); rintro ⟨y, b⟩ ⟨hy, h6⟩; (conv => whnf))
    | (refine call_some_if (oddStamp_ex _) (fun _ => by first | exact .inl rfl | exact .inr ⟨rfl, rfl⟩) (need_intro ?_ ?_); rintro ⟨e, v, b⟩ ⟨⟨i1, i2⟩, h6⟩; (conv => whnf))
    | (refine call_if (agree_two g1 y) (by first | exact .inl rfl | exact .inr ⟨rfl, rfl⟩) (need_intro ?_ ?_); (conv => whnf))
    | (refine call_some_if (oddGroup_ex (n := 1101) _ g1) (fun _ => by first | exact .inl rfl | exact .inr ⟨rfl, rfl⟩) (need_intro ?_ ?_); rintro ⟨g2, b⟩ ⟨hg2, h6⟩; (conv => whnf))
    | (refine call_if (agree_spec g2 cc s) (by first | exact .inl rfl | exact .inr ⟨rfl, rfl⟩) (need_intro ?_ ?_); (conv => whnf))
    | (refine call_if (agree_spec raw y s) (by first | exact .inl rfl | exact .inr ⟨rfl, rfl⟩) (need_intro ?_ ?_); (conv => whnf))
    | (refine call_if (agree_nil raw cc) (by first | exact .inl rfl | exact .inr ⟨rfl, rfl⟩) (need_intro ?_ ?_); (conv => whnf))
    | (refine bc_true (by assumption) ?_; (conv => whnf))
    | (refine bc_false (by assumption) ?_; (conv => whnf))
    | (refine bc_intro (fun _ => ?_) (fun _ => ?_) <;> (conv => whnf))
    | (refine need_intro ?_ ?_; (conv => whnf))
    | (refine wk_refl ?_; (conv => whnf))
    | (refine draw_intro (by kernel_rfl) ?_; (conv => whnf))
    | (refine ord_intro (by kernel_rfl) ?_; (conv => whnf))
  all_goals try simp only [decide_eq_true_eq, decide_eq_false_iff_not, Bool.not_eq_true', Bool.not_eq_false', Bool.not_true, Bool.not_false] at *
  all_goals first
    | assumption
    | exact ⟨LeS.refl _, trivial⟩
    | exact ⟨by assumption, by assumption⟩
    | exact ⟨hrb (by assumption), by omega, by omega, hcc.1, hcc.2⟩
    | exact ⟨hrb (by assumption), copyB_small hy (by omega), by omega⟩
    | exact ⟨hg2.b (by omega), ⟨by omega, by omega, hcc.1, hcc.2⟩, by omega⟩
    | exact ⟨by assumption, hg1, by omega, by omega⟩
    | exact ⟨⟨_, rfl, row_twoS, by simp⟩, hg1.b (by omega), copyB_small hy (by omega)⟩
    | exact ⟨by assumption, hx.mono (by omega), by omega, by omega⟩
    | exact ⟨by assumption, ev_odd hE hP, by omega, by omega⟩
    | exact ⟨by assumption, ⟨(by
        have h9 := ev_new (c := c) (n := n) (by omega) (by omega) hv hsmc (by omega) (by omega)
        rw [hr] at h9
        exact h9), pm_new ⟨ho, hi⟩⟩, h4⟩
    | trace_state
theorem stamps_wf {R f : Nat} {ds : List D} (h : wfT Tryz.prog R (f + 3) 79 ds) : ∃ xs : List (Int × Int), LeL (ds.map .d) [.d (encL encStp 2 xs)] := by
  obtain ⟨len, get, rfl, hlen, _, hel⟩ := h
  have c : Tryz.prog.cellsOf 28 = 2 := by kernel_rfl
  obtain ⟨xs, h1, h2, h3⟩ := list_of (α := Int × Int) (enc := encStp) (Q := fun x => True) (k := 2) (fun _ => rfl) (len := len) (get := get) (fun i hi => by
    have := hel i hi
    rw [c] at this
    obtain ⟨a, r1, e1, ⟨k, rfl, _⟩, b, r2, rfl, ⟨v, rfl, _⟩, rfl⟩ := this
    exact ⟨(k, v), trivial, e1⟩)
  refine ⟨xs, ?_⟩
  show LeL [.d (.list len (Tryz.prog.cellsOf 28) get)] _
  rw [c]
  exact LeL.cons (LeS.d h3) LeL.nil
theorem inv4 {P : Program} {R : Nat} {a b c d : Nat} {dss : List (List D)} (h : All2 (wfT P R 12) [a, b, c, d] dss) : ∃ x y z w, dss = [x, y, z, w] ∧ wfT P R 12 a x ∧ wfT P R 12 b y ∧ wfT P R 12 c z ∧ wfT P R 12 d w := by
  cases h with
  | cons h1 h => obtain ⟨y, z, w, rfl, h2, h3, h4⟩ := inv3 h; exact ⟨_, _, _, _, rfl, h1, h2, h3, h4⟩
theorem takeoverAny_all (dss : List (List D)) (h : All2 (wfT Tryz.prog reachBytes 12) [22, 47, 34, 79] dss) : Sx.Spec Tryz.prog GG 7 (svs Tryz.prog [22, 47, 34, 79] dss) [] (.d (.bool true)) [] := by
  obtain ⟨x, y, z, w, rfl, hx, hy, hz, hw⟩ := inv4 h
  obtain ⟨l, h1, h2, h3⟩ := ints_arg hx
  obtain ⟨raw, hraw, g1⟩ := grp_wf (f := 2) hy
  obtain ⟨c, h4, h6, h5⟩ := copy_wfB (f := 5) (by decide) hz
  obtain ⟨s, k1⟩ := stamps_wf (f := 9) hw
  obtain ⟨_, _, rfl, _⟩ := hx
  obtain ⟨_, _, rfl, _⟩ := hw
  exact (takeoverAny_law l h1 raw c s hraw (h6 (by decide))).arg (leL_app h2 (LeL.cons (LeS.agg g1) (LeL.cons (LeS.agg h5) k1)))
end Go.Proofs.YtegbenagmciegaaGreatDoor
