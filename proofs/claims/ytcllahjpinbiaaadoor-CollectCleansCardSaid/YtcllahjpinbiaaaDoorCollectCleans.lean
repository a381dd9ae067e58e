/- The law CollectCleans: the walk through its code and the claim. -/
import Derived.Test.YtcllahjpinbiaaaDoorColM
namespace Go.Proofs.YtcllahjpinbiaaaDoor
open Go Go.Sx Go.ChangeShapes Go.WideShapes Go.ChangeAt Go.WideMaps Go.WideElems Go.RowKit
set_option linter.unusedVariables false
set_option linter.unusedSimpArgs false
set_option maxRecDepth 100000
/-- the groups of CollectCleans -/
structure SndN (n : Nat) (gs : List GrpT) : Prop where
  len : gs.length = n
  all : ∀ j, j < n → SndG (gs.getD j default) ∧ (gs.getD j default).num = (j : Int) + 1
theorem sndn_of {gs : List GrpT} (h : NetQ gs) : SndN gs.length gs := ⟨rfl, fun j hj => ⟨(h.all j hj).snd, (h.all j hj).num⟩⟩
theorem sndn_set {n i : Nat} {gs : List GrpT} {g : GrpT} (h : SndN n gs) (hg : SndG g) (hn : g.num = (i : Int) + 1) : SndN n (gs.set i g) := by
  refine ⟨by simpa using h.len, fun j hj => ?_⟩
  by_cases e : i = j
  · subst e; simp [List.getD, h.len, hj]; exact ⟨hg, hn⟩
  · have := h.all j hj
    simpa [List.getD, List.getElem?_set_ne e] using this
theorem sndn_mem {n : Nat} {gs : List GrpT} (h : SndN n gs) : ∀ g ∈ gs, SndG g := fun g hg => by
  obtain ⟨j, hj, rfl⟩ := List.getElem_of_mem hg
  have := (h.all j (by rw [← h.len]; exact hj)).1
  simpa [List.getD, hj] using this
theorem sndn_ids {n : Nat} {gs : List GrpT} (h : SndN n gs) : ∀ g ∈ gs, Ids g.mem := fun g hg => ids_uniq (sndn_mem h g hg).uniq
theorem sndn_nums {n : Nat} {gs : List GrpT} (h : SndN n gs) : ∀ i, i < gs.length → (gs.getD i ⟨0, false, []⟩).num = (i : Int) + 1 := fun i hi => (h.all i (by rw [← h.len]; exact hi)).2
theorem sndn_b {n d : Nat} {gs : List GrpT} (h : SndN n gs) (hn : n ≤ 1000) : NetB (gs.drop d) := ⟨by rw [List.length_drop, h.len]; omega, fun g hg => (sndn_mem h g (List.mem_of_mem_drop hg)).b⟩
theorem crash_num {g : GrpT} {id : Int} (he : (crashG g id).2 = 0) : (crashG g id).1.num = g.num := by rw [(crash_inv he).2.2]
/-- the steps so far -/
def SwQ (c0 : SwpT) (x0 : List StoT) (k : Nat) (ok : Bool) (c : SwpT) (x : List StoT) : Prop := (ok = true → SwI c0 x0 k c x) ∧ (ok = false → x = sweepS x0 c0.marks c0.ser)
theorem swq_step {c0 : SwpT} {x0 : List StoT} {k : Nat} {c : SwpT} {x : List StoT} (h : SwI c0 x0 k c x) : SwQ c0 x0 (k + 1) (stepS c x).2 (stepS c x).1.1 (stepS c x).1.2 := by
  rcases Nat.lt_or_eq_of_le h.le with hk | hk
  · obtain ⟨h1, h2⟩ := swi_step h hk
    exact ⟨fun _ => h1, fun e => by rw [h2] at e; cases e⟩
  · subst hk
    obtain ⟨h1, h2⟩ := swi_end h
    rw [h1]
    exact ⟨fun e => (by cases e), fun _ => h2⟩
theorem take_set {α : Type} {l : List α} {i : Nat} {a : α} (h : i < l.length) : (l.set i a).take (i + 1) = l.take i ++ [a] := by
  rw [List.take_add_one]
  have : (l.set i a).take i = l.take i := by
    apply List.ext_getElem?
    intro j
    simp only [List.getElem?_take]
    split
    · rw [List.getElem?_set_ne (by omega)]
    · rfl
  rw [this]
  simp [h]
theorem saveAll_snoc {x : List StoT} {ser : Int} {gs : List GrpT} {g : GrpT} : saveAll x ser (gs ++ [g]) = saveS (saveAll x ser gs) g.num ser g.mem := by
  simp [saveAll]
theorem drop_getD {α : Type} {l : List α} {d i : Nat} {x : α} : (l.drop d).getD i x = l.getD (d + i) x := by simp [List.getD]
theorem sum_le {gs : List GrpT} (h : ∀ g ∈ gs, SndG g) : sumLive gs ≤ 5 * gs.length := by
  induction gs with
  | nil => simp [sumLive]
  | cons g gs ih =>
    have h1 := ih (fun k hk => h k (List.mem_cons_of_mem _ hk))
    have h2 := (h g (by simp)).n5
    have h3 : (liveL g.mem).length ≤ g.mem.length := by simp only [liveL, List.length_map]; exact List.length_filter_le _ _
    simp only [sumLive, List.map_cons, List.sum_cons, List.length_cons] at h1 ⊢
    omega
set_option maxHeartbeats 16000000 in
theorem collectCleans_law (l : List Int) (hl : ∀ x ∈ l, -9223372036854775808 ≤ x ∧ x < 9223372036854775808) : Sx.Spec Tryd.prog GG 8 [.d (encL encI 1 l)] [] (.d (.bool true)) [] := by
  refine spec_intro (E := EE) (fn := Tryd.f8) eok (by kernel_rfl) (by kernel_rfl) Tryd.call8 (by kernel_rfl) (by kernel_rfl) ?_
  conv => whnf
  repeat' first
    | (refine call_some (new_ex 2000 hl) (fun _ => by first | exact .inl rfl | exact .inr ⟨rfl, rfl⟩) ?_; rintro ⟨tl, ta⟩ hT; (conv => whnf))
    | (refine call_some_if (net_ex 2000 4000 (by decide)) (fun _ => by first | exact .inl rfl | exact .inr ⟨rfl, rfl⟩) (need_intro ?_ ?_); rintro ⟨gs0, b⟩ ⟨⟨hq, hn1, hn2⟩, h6⟩; (conv => whnf))
    | (refine call_some_if (storeL_ex _) (fun _ => by first | exact .inl rfl | exact .inr ⟨rfl, rfl⟩) (need_intro ?_ ?_); rintro ⟨x0, b⟩ ⟨hx0, h6⟩; (conv => whnf))
    | (refine bc_true (by assumption) ?_; (conv => whnf))
    | (refine bc_false (by assumption) ?_; (conv => whnf))
    | (refine need_intro ?_ ?_; (conv => whnf))
    | (refine wk_refl ?_; (conv => whnf))
    | (refine draw_intro (by kernel_rfl) ?_; (conv => whnf))
    | (refine ord_intro (by kernel_rfl) ?_; (conv => whnf))
  all_goals try first
    | assumption
    | exact ⟨hT, by omega, by omega⟩
  have hx0 : StoQ 7 x0 := hx0
  have hgl : (gs0.length : Int) ≤ 4 := hn2
  have hn1 : 1 ≤ gs0.length := hn1
  refine loop_auto [2, 3, 4, 23, 24] [] (fun x : ((Nat × List GrpT) × List StoT) × Nat => [(25, .d (.int .i64 x.1.1.1)), (5, .d (encL encSto 33 x.1.2))]) (fun x => [(4000, .row 36 3 gs0.length (cellOf encGrp x.1.1.2)), (2000, tapeB tl x.2)])
    (fun x => ((x.1.1.1 ≤ gs0.length ∧ SndN gs0.length x.1.1.2) ∧ x.1.2 = saveAll x0 9 (x.1.1.2.take x.1.1.1) ∧ StoB (7 + 5 * x.1.1.1) x.1.2) ∧ TapeOk tl x.2) (fun x => gs0.length - x.1.1.1) (((0, gs0), x0), b) ?_ (fun x hx => ?_) ⟨⟨⟨by simp, sndn_of hq⟩, rfl, hx0.b⟩, h6⟩
  · conv => whnf
    repeat' first
      | (refine bc_true (by assumption) ?_; (conv => whnf))
      | (refine bc_false (by assumption) ?_; (conv => whnf))
      | (refine bc_intro (fun _ => ?_) (fun _ => ?_) <;> (conv => whnf))
      | (refine need_intro ?_ ?_; (conv => whnf))
      | (refine wk_refl ?_; (conv => whnf))
      | (refine draw_intro (by kernel_rfl) ?_; (conv => whnf))
      | (refine ord_intro (by kernel_rfl) ?_; (conv => whnf))
    all_goals first | exact trivial | exact DLe.refl _ | exact DLe.nil | exact RowLe.refl _ _ _ | exact ⟨rfl, rfl⟩ | exact ⟨rfl, rfl, rfl⟩ | trace_state
  obtain ⟨⟨⟨i, gs⟩, x⟩, b0⟩ := x
  obtain ⟨⟨⟨hi, hN⟩, hx, hxb⟩, hb0⟩ := hx
  simp only at hi hN hx hxb hb0
  have hlen := hN.len
  have hs : IntKind.i64.wrap ((i : Int) + 1) = ((i + 1 : Nat) : Int) := wrap_succ (n := 2000000) (by omega) (by omega)
  conv => whnf
  repeat' first
    | (refine call_some_if (next_ex _) (fun _ => by first | exact .inl rfl | exact .inr ⟨rfl, rfl⟩) (need_intro ?_ ?_); rintro ⟨v, b⟩ ⟨⟨q1, q2⟩, h6⟩; (conv => whnf))
    | (refine bc_true (by assumption) ?_; (conv => whnf))
    | (refine bc_false (by assumption) ?_; (conv => whnf))
    | (refine bc_intro (fun _ => ?_) (fun _ => ?_) <;> (conv => whnf))
    | (refine need_intro ?_ ?_; (conv => whnf))
    | (refine wk_refl ?_; (conv => whnf))
    | (refine draw_intro (by kernel_rfl) ?_; (conv => whnf))
    | (refine ord_intro (by kernel_rfl) ?_; (conv => whnf))
  all_goals try simp only [decide_eq_true_eq, decide_eq_false_iff_not, Int.toNat_natCast] at *
  all_goals try first
    | omega
    | exact ⟨by omega, by omega⟩
    | exact ⟨by assumption, by omega, by omega⟩
  · have hgi := hN.all i (by omega)
    refine loop_auto [2, 3, 4, 5, 6, 7, 23, 24, 25] [4000] (fun x : Int × GrpT × Nat => [(8, .d (.int .i64 x.1))]) (fun x => [(7, .box (grpL x.2.1)), (2000, tapeB tl x.2.2)]) (fun x => ((0 ≤ x.1 ∧ x.1 ≤ 3) ∧ SndG x.2.1 ∧ x.2.1.num = (i : Int) + 1) ∧ TapeOk tl x.2.2) (fun x => x.1.toNat) (v, gs.getD i default, b) ?_ (fun y hy => ?_) ⟨⟨⟨q1, by simp only; omega⟩, hgi.1, hgi.2⟩, h6⟩
    · conv => whnf
      repeat' first
        | (refine bc_true (by assumption) ?_; (conv => whnf))
        | (refine bc_false (by assumption) ?_; (conv => whnf))
        | (refine bc_intro (fun _ => ?_) (fun _ => ?_) <;> (conv => whnf))
        | (refine need_intro ?_ ?_; (conv => whnf))
        | (refine wk_refl ?_; (conv => whnf))
        | (refine draw_intro (by kernel_rfl) ?_; (conv => whnf))
        | (refine ord_intro (by kernel_rfl) ?_; (conv => whnf))
      all_goals first | exact trivial | exact DLe.refl _ | exact RowLe.refl _ _ _ | exact ⟨rfl, rfl⟩ | exact ⟨rfl, rfl, rfl⟩ | (simp only [Nat.zero_add, Int.toNat_natCast]; exact DLe.of_eq rfl) | trace_state
    obtain ⟨k, g, c⟩ := y
    obtain ⟨⟨hk, hg, hgn⟩, hc⟩ := hy
    simp only at hk hg hgn hc
    have hgb := hg.b
    have hsk : 0 < k → IntKind.i64.wrap (k - 1) = k - 1 := fun _ => wrap_of (by omega) (by omega)
    have hsm : ∀ m ∈ g.mem, SmallC m.copy := fun m hm => (hg.all m hm).2.2
    have hn5 := hg.n5
    have hsv : StoB (7 + 5 * (i + 1)) (saveS x g.num 9 g.mem) := (stob_save hxb hsm).mono (by omega)
    conv => whnf
    repeat' first
      | (refine call_some_if (member_ex _ g) (fun _ => by first | exact .inl rfl | exact .inr ⟨rfl, rfl⟩) (need_intro ?_ ?_); rintro ⟨id, b⟩ h6; (conv => whnf))
      | (refine call_if (crashr_spec g _) (by first | exact .inl rfl | exact .inr ⟨rfl, rfl⟩) (need_intro ?_ ?_); (conv => whnf))
      | (refine call_if (save0 x g 9) (by first | exact .inl rfl | exact .inr ⟨rfl, rfl⟩) (need_intro ?_ ?_); (conv => whnf))
      | (refine NextVC.mk (((i + 1, gs.set i g), saveS x g.num 9 g.mem), c) ?_ ?_ ?_; (conv => whnf))
      | (refine NextVC.mk (k - 1, (crashG g ((fun _ => id) (show ((crashG g id).2 == 0) = true by assumption))).1, b) ?_ ?_ ?_; (conv => whnf))
      | (refine NextVC.mk (k - 1, g, b) ?_ ?_ ?_; (conv => whnf))
      | (refine bc_true (by assumption) ?_; (conv => whnf))
      | (refine bc_false (by assumption) ?_; (conv => whnf))
      | (refine bc_intro (fun _ => ?_) (fun _ => ?_) <;> (conv => whnf))
      | (refine need_intro ?_ ?_; (conv => whnf))
      | (refine wk_refl ?_; (conv => whnf))
      | (refine draw_intro (by kernel_rfl) ?_; (conv => whnf))
      | (refine ord_intro (by kernel_rfl) ?_; (conv => whnf))
    all_goals try simp only [cellsGrp, bytesGrp, true_and, and_true, decide_eq_true_eq, decide_eq_false_iff_not, beq_iff_eq] at *
    all_goals try first
      | exact trivial
      | assumption
      | omega
      | exact DLe.refl _
      | exact RowLe.refl _ _ _
      | exact DLe.of_eq (by rw [hsk (by omega)])
      | exact DLe.of_eq (by rw [hs])
      | exact ⟨by omega, by omega⟩
      | exact ⟨by assumption, hgb.len⟩
      | exact ⟨hxb.mono (by omega), hgb⟩
      | exact ⟨⟨⟨by omega, by omega⟩, (snd_crash (g := g) (id := id) hg (eq_of_beq (show ((crashG g id).2 == 0) = true by assumption))).1, (crash_num (g := g) (id := id) (eq_of_beq (show ((crashG g id).2 == 0) = true by assumption))).trans hgn⟩, by assumption⟩
      | exact ⟨⟨⟨by omega, by omega⟩, hg, hgn⟩, by assumption⟩
      | exact row_setGr rfl rfl rfl (by omega)
      | (refine ⟨⟨⟨by omega, sndn_set hN hg hgn⟩, ?_, hsv⟩, by assumption⟩
         rw [take_set (by omega), saveAll_snoc, ← hx])
    all_goals trace_state
  have hi : i = gs0.length := by omega
  subst hi
  rw [← hlen, List.take_length] at hx
  conv => whnf
  repeat' first
    | (refine call_some_if (bool_ex _) (fun _ => by first | exact .inl rfl | exact .inr ⟨rfl, rfl⟩) (need_intro ?_ ?_); rintro ⟨v, b⟩ h1; (conv => whnf))
    | (refine bc_true (by assumption) ?_; (conv => whnf))
    | (refine bc_false (by assumption) ?_; (conv => whnf))
    | (refine need_intro ?_ ?_; (conv => whnf))
    | (refine wk_refl ?_; (conv => whnf))
    | (refine draw_intro (by kernel_rfl) ?_; (conv => whnf))
    | (refine ord_intro (by kernel_rfl) ?_; (conv => whnf))
  all_goals try first
    | exact ⟨by assumption, by omega, by omega⟩
  have hll : gs.length = gs0.length := hlen
  refine join_auto [2, 3, 5] [4000] (fun x : Nat × Nat => [(4, .osl 4000 3 x.1 (gs0.length - x.1))]) (fun x => [(2000, tapeB tl x.2)]) (fun x => x.1 ≤ 1 ∧ TapeOk tl x.2) (fun _ => ?_) (fun _ => ?_) ?_
  · conv => whnf
    repeat' first
      | (refine JoinVC.mk (1, b) ?_ ?_; (conv => whnf))
      | (refine bc_true (by assumption) ?_; (conv => whnf))
      | (refine bc_false (by assumption) ?_; (conv => whnf))
      | (refine need_intro ?_ ?_; (conv => whnf))
      | (refine wk_refl ?_; (conv => whnf))
      | (refine draw_intro (by kernel_rfl) ?_; (conv => whnf))
      | (refine ord_intro (by kernel_rfl) ?_; (conv => whnf))
    all_goals try simp only [Option.getD_some, Option.getD_none] at *
    all_goals first
      | exact trivial
      | exact DLe.refl _
      | exact RowLe.refl _ _ _
      | exact ⟨rfl, rfl, rfl⟩
      | exact ⟨trivial, trivial, trivial⟩
      | exact ⟨trivial, by omega, by omega⟩
      | exact ⟨by omega, by omega, by omega⟩
      | exact ⟨by omega, by assumption⟩
      | (simp only; omega)
      | trace_state
  · conv => whnf
    repeat' first
      | (refine JoinVC.mk (0, b) ?_ ?_; (conv => whnf))
      | (refine bc_true (by assumption) ?_; (conv => whnf))
      | (refine bc_false (by assumption) ?_; (conv => whnf))
      | (refine need_intro ?_ ?_; (conv => whnf))
      | (refine wk_refl ?_; (conv => whnf))
      | (refine draw_intro (by kernel_rfl) ?_; (conv => whnf))
      | (refine ord_intro (by kernel_rfl) ?_; (conv => whnf))
    all_goals first
      | exact trivial
      | exact DLe.refl _
      | exact RowLe.refl _ _ _
      | exact ⟨rfl, rfl, rfl⟩
      | exact ⟨by omega, by assumption⟩
      | trace_state
  rintro ⟨d, b1⟩ ⟨hd, hb1⟩
  simp only at hd hb1
  have hNb := sndn_b (d := d) hN (by omega)
  have hMb := marks_b hNb
  have hdl : (gs.drop d).length = gs0.length - d := by rw [List.length_drop, hll]
  conv => whnf
  repeat' first
    | (refine call_if (beginp_at (gs.drop d) 9) (by first | exact .inl rfl | exact .inr ⟨rfl, rfl⟩) (need_intro ?_ ?_); (conv => whnf))
    | (refine bc_true (by assumption) ?_; (conv => whnf))
    | (refine bc_false (by assumption) ?_; (conv => whnf))
    | (refine need_intro ?_ ?_; (conv => whnf))
    | (refine wk_refl ?_; (conv => whnf))
    | (refine draw_intro (by kernel_rfl) ?_; (conv => whnf))
    | (refine ord_intro (by kernel_rfl) ?_; (conv => whnf))
  all_goals try first
    | exact ⟨⟨by rw [hdl], row_drop⟩, hNb⟩
  have hxs : ∀ s ∈ x0, s.ser ≤ 9 := hx0.ser
  have hfin : sweepS x (beginS (gs.drop d) 9).marks (beginS (gs.drop d) 9).ser = entAll 9 (gs.drop d) := by
    have hp : (gs.take d ++ gs.drop d).Pairwise fun a b => a.num ≠ b.num := by rw [List.take_append_drop]; exact nums_pair (sndn_nums hN)
    have := sweep_all (ser := 9) (pre := gs.take d) (gs := gs.drop d) (x := x0) (by rw [List.take_append_drop]; exact sndn_ids hN) hp hxs
    rw [List.take_append_drop, ← hx] at this
    exact this
  have hxl : x.length ≤ 27 := by have := hxb.len; omega
  refine loop_auto [2, 3, 4, 11] [2000] (fun x : Nat × Bool × SwpT × List StoT => [(13, .d (.int .i64 x.1)), (12, .d (.bool x.2.1)), (5, .d (encL encSto 33 x.2.2.2))]) (fun x => [(11, .box (swpL x.2.2.1))])
    (fun y => y.1 ≤ 60 ∧ SwQ (beginS (gs.drop d) 9) x y.1 y.2.1 y.2.2.1 y.2.2.2 ∧ StoB 100 y.2.2.2 ∧ MrkB y.2.2.1.marks) (fun y => 60 - y.1) (0, true, beginS (gs.drop d) 9, x) ?_ (fun y hy => ?_) ⟨by simp, ⟨fun _ => swi_zero rfl, fun e => (by cases e)⟩, hxb.mono (by omega), hMb⟩
  · conv => whnf
    repeat' first
      | (refine bc_true (by assumption) ?_; (conv => whnf))
      | (refine bc_false (by assumption) ?_; (conv => whnf))
      | (refine bc_intro (fun _ => ?_) (fun _ => ?_) <;> (conv => whnf))
      | (refine need_intro ?_ ?_; (conv => whnf))
      | (refine wk_refl ?_; (conv => whnf))
      | (refine draw_intro (by kernel_rfl) ?_; (conv => whnf))
      | (refine ord_intro (by kernel_rfl) ?_; (conv => whnf))
    all_goals first | exact trivial | exact DLe.refl _ | exact DLe.nil | exact RowLe.refl _ _ _ | exact ⟨rfl, rfl⟩ | exact ⟨rfl, rfl, rfl⟩ | trace_state
  obtain ⟨k, ok, c, y⟩ := y
  obtain ⟨hk, hQ, hyb, hcm⟩ := hy
  simp only at hk hQ hyb hcm
  have hsk : IntKind.i64.wrap ((k : Int) + 1) = ((k + 1 : Nat) : Int) := wrap_succ (n := 2000000) (by omega) (by omega)
  have hcm2 : MrkB (stepS c y).1.1.marks := by rw [step_keep.1]; exact hcm
  have hyb2 := stob_step (c := c) hyb
  conv => whnf
  repeat' first
    | (refine call_if (stepp_spec c y) (by first | exact .inl rfl | exact .inr ⟨rfl, rfl⟩) (need_intro ?_ ?_); (conv => whnf))
    | (refine NextVC.mk (k + 1, (stepS c y).2, (stepS c y).1.1, (stepS c y).1.2) ?_ ?_ ?_; (conv => whnf))
    | (refine bc_true (by assumption) ?_; (conv => whnf))
    | (refine bc_false (by assumption) ?_; (conv => whnf))
    | (refine bc_intro (fun _ => ?_) (fun _ => ?_) <;> (conv => whnf))
    | (refine need_intro ?_ ?_; (conv => whnf))
    | (refine wk_refl ?_; (conv => whnf))
    | (refine draw_intro (by kernel_rfl) ?_; (conv => whnf))
    | (refine ord_intro (by kernel_rfl) ?_; (conv => whnf))
  all_goals try simp only [decide_eq_true_eq, decide_eq_false_iff_not] at *
  all_goals try first
    | exact trivial
    | omega
    | exact DLe.refl _
    | exact DLe.of_eq (by rw [hsk])
    | exact ⟨hyb.mono (by omega), hcm⟩
    | exact ⟨by omega, swq_step (hQ.1 (by assumption)), hyb2, hcm2⟩
  all_goals
    have hok : ok = false := by
      first
        | assumption
        | (cases ok with
           | false => rfl
           | true =>
             have := (hQ.1 rfl).le
             exfalso; omega)
    have hye : y = entAll 9 (gs.drop d) := by rw [hQ.2 hok, hfin]
    have hsum : sumLive (gs.drop d) ≤ 20 := by
      have := sum_le (gs := gs.drop d) (fun g hg => sndn_mem hN g (List.mem_of_mem_drop hg))
      rw [hdl] at this
      omega
    have hel : y.length = sumLive (gs.drop d) := by rw [hye, ent_len]
    have hcp : completeS y (gs.drop d) = true := by
      rw [hye]
      refine ent_complete (fun g hg => sndn_ids hN g (List.mem_of_mem_drop hg)) ?_
      exact List.Pairwise.sublist (List.drop_sublist _ _) (nums_pair (sndn_nums hN))
    subst hok
    refine loop_auto [2, 4, 5, 12, 75, 76] [2000] (fun i : Nat => [(14, .d (.int .i64 (sumLive ((gs.drop d).take i)))), (77, .d (.int .i64 i))]) (fun i => []) (fun i => i ≤ gs0.length - d) (fun i => gs0.length - d - i) 0 ?_ (fun i hi => ?_) (by omega)
    · conv => whnf
      repeat' first
        | (refine bc_true (by assumption) ?_; (conv => whnf))
        | (refine bc_false (by assumption) ?_; (conv => whnf))
        | (refine bc_intro (fun _ => ?_) (fun _ => ?_) <;> (conv => whnf))
        | (refine need_intro ?_ ?_; (conv => whnf))
        | (refine wk_refl ?_; (conv => whnf))
        | (refine draw_intro (by kernel_rfl) ?_; (conv => whnf))
        | (refine ord_intro (by kernel_rfl) ?_; (conv => whnf))
      all_goals first | exact trivial | exact DLe.refl _ | exact DLe.nil | exact RowLe.refl _ _ _ | exact ⟨rfl, rfl⟩ | exact ⟨rfl, rfl, rfl⟩ | trace_state
    have hsi : IntKind.i64.wrap ((i : Int) + 1) = ((i + 1 : Nat) : Int) := wrap_succ (n := 2000000) (by omega) (by omega)
    have hsl : sumLive ((gs.drop d).take i) ≤ 20 := by
      have := sum_le (gs := (gs.drop d).take i) (fun g hg => sndn_mem hN g (List.mem_of_mem_drop (List.mem_of_mem_take hg)))
      simp only [List.length_take, hdl] at this
      omega
    have hst : i < gs0.length - d → IntKind.i64.wrap ((sumLive ((gs.drop d).take i) : Int) + ((liveL (gs.getD (d + i) default).mem).length : Int)) = (sumLive ((gs.drop d).take (i + 1)) : Int) := fun h => by
      have h1 := sum_take (gs := gs.drop d) (i := i) (d := default) (by rw [hdl]; exact h)
      rw [drop_getD] at h1
      have h2 : sumLive ((gs.drop d).take (i + 1)) ≤ 20 := by
        have := sum_le (gs := (gs.drop d).take (i + 1)) (fun g hg => sndn_mem hN g (List.mem_of_mem_drop (List.mem_of_mem_take hg)))
        simp only [List.length_take, hdl] at this
        omega
      rw [wrap_of (by omega) (by omega), h1]; rfl
    have hlv := fun (h : d + i < gs0.length) => (hN.all (d + i) h).1.n5
    have hend : ¬ ((i : Int) < ((gs0.length - d : Nat) : Int)) → (gs.drop d).take i = gs.drop d := fun h => List.take_of_length_le (by rw [hdl]; omega)
    conv => whnf
    repeat' first
      | (refine call_if (liver_spec0 (gs.getD (d + i) default)) (by first | exact .inl rfl | exact .inr ⟨rfl, rfl⟩) (need_intro ?_ ?_); (conv => whnf))
      | (refine call_if (completep_at y (gs.drop d)) (by first | exact .inl rfl | exact .inr ⟨rfl, rfl⟩) (need_intro ?_ ?_); (conv => whnf))
      | (refine call_intro (awake34_spec) ?_ (by first | exact .inl rfl | exact .inr ⟨rfl, rfl⟩); (conv => whnf))
      | (refine NextVC.mk (i + 1) ?_ ?_ ?_; (conv => whnf))
      | (refine bc_true (by assumption) ?_; (conv => whnf))
      | (refine bc_false (by assumption) ?_; (conv => whnf))
      | (refine bc_intro (fun _ => ?_) (fun _ => ?_) <;> (conv => whnf))
      | (refine need_intro ?_ ?_; (conv => whnf))
      | (refine wk_refl ?_; (conv => whnf))
      | (refine draw_intro (by kernel_rfl) ?_; (conv => whnf))
      | (refine ord_intro (by kernel_rfl) ?_; (conv => whnf))
    all_goals try simp only [decide_eq_true_eq, decide_eq_false_iff_not, Int.toNat_natCast] at *
    all_goals try first
      | exact trivial
      | omega
      | exact DLe.refl _
      | exact DLe.of_eq (by rw [hsi])
      | exact DLe.of_eq (by rw [hst (by omega)])
      | exact ⟨by omega, by omega⟩
      | (have := hlv (by omega); omega)
      | exact ⟨⟨trivial, RowLe.refl _ _ _⟩, ⟨hdl.symm, row_drop⟩, hyb.mono (by omega), hNb⟩
      | exact ⟨⟨rfl, RowLe.refl _ _ _⟩, ⟨hdl.symm, row_drop⟩, hyb.mono (by omega), hNb⟩
      | exact ⟨LeS.refl _, trivial⟩
      | (exfalso; rw [hcp] at *; simp at *; done)
      | (exfalso; simp_all; done)
      | (have h9 := hend (by assumption)
         rw [hcp]
         exact ⟨LeS.refl _, trivial⟩)
      | (exfalso
         have h9 := hend (by assumption)
         simp only [h9, hel] at *
         simp at *
         done)
    all_goals trace_state
theorem collectCleans_all (dss : List (List D)) (h : All2 (wfT Tryd.prog reachBytes 12) [22] dss) : Sx.Spec Tryd.prog GG 8 (svs Tryd.prog [22] dss) [] (.d (.bool true)) [] := by
  obtain ⟨x, rfl, hx⟩ := inv1 h
  obtain ⟨l, h1, h2, h3⟩ := ints_arg hx
  obtain ⟨_, _, rfl, _⟩ := hx
  exact (collectCleans_law l h1).arg h2
theorem collectCleans_lifted (os : Os) (started : os.Started) (H : Type) (enc : TypeId × Value → H) :
    ReturnsInHanded {} Tryd.checked os 8 .any (fun w args => (Rows.collectCleansSpec.pre enc Tryd.prog Tryd.f8 [] false w args ∧ laidMetH Tryd.prog laidL w) ∧ sizedMet enc Tryd.prog Tryd.f8 (OpenSpec.ofChange Rows.collectCleansSpec) false w args)
      (Rows.collectCleansSpec.post enc Tryd.prog Tryd.f8 false true false false) := by
  refine returnsInHanded_of_change_and (C := Tryd.checked) (X := fun w _ => laidMetH Tryd.prog laidL w) (fun _ _ _ hh h => h.of_heap hh) own started (by kernel_rfl) Tryd.func8
    (ChangeSpec.witness_shaped (enc := enc) (C := Tryd.checked) (os := os) (X := fun w _ => laidMetH Tryd.prog laidL w) false (World.doorLaid Tryd.prog 400 os) #[.slice none 0 0] 8 rfl (World.shaped_of_RefB (by kernel_rfl) (by kernel_rfl)) (by kernel_rfl) (by kernel_rfl) (by kernel_rfl) (door_met os _)) ?_
  intro W base args ds gs before hval hW hcnd hsz hL _
  refine law_contract (P := Tryd.prog) (ts := [22]) (bt := 4) (G := GG) laidOut (by rw [Tryd.params8]) (by kernel_rfl) Tryd.underlying4 (by kernel_rfl) rfl ?_ collectCleans_all hval hW hsz (gok hL)
  intro ds h
  match ds, h with
  | [_], _ => rfl
theorem collectCleans_over : Rows.collectCleansRow.holds Tryd.pinned (OpenSpec.ofChange Rows.collectCleansSpec) :=
  OpenClaim.holds_of_wide 8 Tryd.f8 rfl rfl rfl rfl rfl rfl rfl ⟨rfl, rfl, rfl, rfl, rfl⟩ rfl rfl rfl rfl rfl (by kernel_rfl) Tryd.func8 (by kernel_rfl)
    (of_decide_eq_true (by kernel_rfl)) (by unfold Func.isWrapper; first | (rw [if_pos (by decide +kernel)]; kernel_rfl) | (rw [if_neg (by decide +kernel)]; exact ⟨rfl, rfl⟩))
    (fun os started H enc _ => collectCleans_lifted os started H enc)
theorem collectCleans_plain : ∀ t ∈ [22], Tryd.prog.wantsStandIn t = false := by
  intro t ht
  simp only [List.mem_cons, List.not_mem_nil, or_false] at ht
  rcases ht with rfl <;> kernel_rfl
theorem collectCleans_proved : Rows.CollectCleansCardSaid :=
  Claim7.holds_tied_plain_at .later [] [.data] true (true, "66906a84d04c3a2d89c646eecd6f16b75eda7d321f445f2ddb9410a71b637972") false
    collectCleans_over (fun _ h => by cases h) (by kernel_rfl) (fun _ h => by cases h) collectCleans_row_tie rfl ⟨rfl, rfl⟩ (by kernel_rfl) rfl
    (fun f fn hf hfn => by
      obtain rfl : f = 8 := Option.some.inj ((show Tryd.prog.funcNamed Rows.collectCleansRow.func = some 8 by kernel_rfl).symm.trans hf) |>.symm
      obtain rfl : fn = Tryd.f8 := (Option.some.inj (Tryd.func8.symm.trans hfn)).symm
      exact ⟨by kernel_rfl, fun j t ht => collectCleans_plain t (by
        rw [Tryd.params8] at ht
        exact List.mem_of_getElem? (by simpa using ht))⟩)
    (by kernel_rfl)
#print axioms collectCleans_proved
end Go.Proofs.YtcllahjpinbiaaaDoor
