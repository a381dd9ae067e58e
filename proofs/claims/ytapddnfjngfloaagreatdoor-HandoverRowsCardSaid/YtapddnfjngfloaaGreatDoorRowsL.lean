/- Written for this claim. -/
import Derived.Test.YtapddnfjngfloaaGreatDoorNtx
import Derived.Test.YtapddnfjngfloaaGreatDoorLay
namespace Go.Proofs.YtapddnfjngfloaaGreatDoor
open Go Go.Sx Go.ChangeShapes Go.WideShapes Go.ChangeAt Go.WideMaps Go.WideElems Go.RowKit
set_option linter.unusedVariables false
set_option linter.unusedSimpArgs false
set_option maxRecDepth 100000
theorem any_takeR {p : GrpT → Bool} {l : List GrpT} {i : Nat} (h : i < l.length) : (l.take (i + 1)).any p = ((l.take i).any p || p (l.getD i default)) := by
  rw [take_succ' h, List.any_append, List.any_cons, List.any_nil, Bool.or_false]
theorem cnt_succR {a b : Nat → Bool} {m : Nat} : cnt a b (m + 1) = cnt a b m + (if a m then 1 else 0) + (if b m then 1 else 0) := rfl
def tkS (s : Int) (h : GrpT) : Bool := (own0 h).copy.took == s
theorem rwA_is (gs : List GrpT) (r : Row) (i : Nat) : rwA gs r i = ((getF ((gs.getD i default).mem.getD 0 default).copy.rows r.1).2 && ((getF ((gs.getD i default).mem.getD 0 default).copy.rows r.1).1 == r.2)) := rfl
theorem rwB_is (gs : List GrpT) (r : Row) (i : Nat) : rwB gs r i = (((getF ((gs.getD i default).mem.getD 0 default).copy.out.rows r.1).2 && ((((gs.getD i default).mem.getD 0 default).copy.out.serial != 0) && ((getF ((gs.getD i default).mem.getD 0 default).copy.out.rows r.1).1 == r.2))) && !(gs.any (tkS ((gs.getD i default).mem.getD 0 default).copy.out.serial))) := rfl
theorem rowsL_take {gs : List GrpT} {i : Nat} (h : i < gs.length) : rowsL (gs.take (i + 1)) = rowsL (gs.take i) ++ (own0 (gs.getD i default)).copy.rows := by
  rw [take_succ' h]
  unfold rowsL
  rw [List.flatMap_append, List.flatMap_cons, List.flatMap_nil, List.append_nil]
theorem rowsL_len {gs : List GrpT} {B : Nat} (h : ∀ i, i < gs.length → (own0 (gs.getD i default)).copy.rows.length ≤ B) : ∀ {i : Nat}, i ≤ gs.length → (rowsL (gs.take i)).length ≤ B * i
  | 0, _ => by simp [rowsL]
  | i + 1, hi => by
    rw [rowsL_take (by omega), List.length_append, Nat.mul_succ]
    have := rowsL_len h (i := i) (by omega)
    have := h i (by omega)
    omega
theorem wf_rows {i : Nat} {g : GrpT} (h : WfN i g) : (own0 g).copy.rows.length ≤ 1024 ∧ (own0 g).copy.out.rows.length ≤ 1024 := by
  obtain ⟨_, _, h3, _⟩ := valid_head h.own.v
  refine ⟨h3.len, ?_⟩
  by_cases h0 : (own0 g).copy.out.serial = 0
  · rw [h.own.out h0]; exact Nat.zero_le _
  exact (validPart_range (h.own.outv h0)).2
theorem w7 (i : Nat) (h : i < 2000) : IntKind.i64.wrap ((i : Int) + 1) = ((i + 1 : Nat) : Int) := wrap_succ (n := 2000) (by omega) (by omega)
theorem d7 (i n : Nat) (h : i < n) : decide ((i : Int) < (n : Int)) = true := decide_eq_true (by omega)
theorem f7 (i n : Nat) (h : n ≤ i) : decide ((i : Int) < (n : Int)) = false := decide_eq_false (by omega)
theorem t7 {gf : List GrpT} {m : Nat} (S : Int) (h : m < gf.length) : (gf.take (m + 1)).any (tkS S) = ((gf.take m).any (tkS S) || tkS S (gf.getD (0 + m) default)) := by
  rw [Nat.zero_add m]
  exact any_takeR h
theorem row_appZ {xs ys : List Row} : RowLe (xs ++ ys).length 2 (fun i j => if i < xs.length then cellOf encRow xs i j else cellOf encRow ys (i - xs.length) j) (cellOf encRow (xs ++ ys)) := by
  refine .of_eq fun i j _ _ => ?_
  simp only [cellOf]
  split
  · rename_i h; rw [getD_append_left h]
  rename_i h; rw [getD_append_right (by omega)]
theorem cellsRow27 : Tryz.prog.cellsOf 80 = 2 := by kernel_rfl
theorem bytesRow27 : Tryz.prog.bytesOf 80 = 32 := by kernel_rfl
theorem bytesGrp27 : Tryz.prog.bytesOf 33 = 40 := by kernel_rfl
set_option maxHeartbeats 16000000 in
theorem handoverRows_law (l : List Int) (hl : ∀ x ∈ l, -9223372036854775808 ≤ x ∧ x < 9223372036854775808) : Sx.Spec Tryz.prog GG 8 [.d (encL encI 1 l)] [] (.d (.bool true)) [] := by
  refine spec_intro (E := EE) (fn := Tryz.f8) eok (by kernel_rfl) (by kernel_rfl) Tryz.call8 (by kernel_rfl) (by kernel_rfl) ?_
  conv => whnf
  repeat' first | ((first | refine call_some (new_ex 2000 hl) (fun _ => by first | exact .inl rfl | exact .inr ⟨rfl, rfl⟩) ?_; rintro ⟨tl, ta⟩ hT | refine call_some_if (start_ex 2000 4000 5000 (by decide) (by decide) (by decide)) (fun _ => by first | exact .inl rfl | exact .inr ⟨rfl, rfl⟩) (need_intro ?_ ?_); rintro ⟨gs0, b⟩ ⟨hq, h6⟩ | refine bc_true ‹_› ?_ | refine bc_false ‹_› ?_ | refine need_intro ?_ ?_ | refine wk_refl ?_ | refine ord_intro (by kernel_rfl) ?_); conv => whnf)
  all_goals try dsimp only at *
  all_goals try first | assumption | exact ⟨hT, by omega, by omega⟩
  obtain ⟨⟨T0, hT0, _, bs, hbs, htop⟩, hle, hge⟩ := hq
  have hI0 := tile_inv hbs htop
  have hR0 := tile_rows hbs
  have hwr0 : ∀ i, i < gs0.length → (own0 (gs0.getD i default)).copy.rows.length ≤ 1024 := fun i hi => (wf_rows (hI0.wf i hi)).1
  have hRl := rowsL_len hwr0 (Nat.le_refl _)
  rw [List.take_length] at hRl
  refine loop_auto [3, 4, 40, 41] [4000, 5000, 2000] (fun i : Nat => [(42, .d (.int .i64 i)), (5, .osl 500 2 0 (rowsL (gs0.take i)).length)]) (fun i => [(500, .row 80 2 (rowsL (gs0.take i)).length (cellOf encRow (rowsL (gs0.take i))))]) (fun i => i ≤ gs0.length) (fun i => gs0.length - i) 0 ?_ (fun i hi => ?_) (by omega)
  · conv => whnf
    repeat' first | ((first | refine bc_true ‹_› ?_ | refine bc_false ‹_› ?_ | refine need_intro ?_ ?_ | refine wk_refl ?_ | refine ord_intro (by kernel_rfl) ?_); conv => whnf) | (refine bc_intro (fun _ => ?_) (fun _ => ?_) <;> (conv => whnf))
    all_goals first | exact trivial | exact DLe.refl _ | exact DLe.nil | exact RowLe.refl _ _ _ | exact ⟨rfl, rfl⟩ | exact ⟨rfl, rfl, rfl⟩
  have hs := w7 i (by omega)
  have hrl := rowsL_len hwr0 hi
  rcases Nat.lt_or_eq_of_le hi with hil | rfl
  · have hil' := d7 i gs0.length (by omega)
    have hn1 : 1 ≤ (gs0.getD (0 + i) default).mem.length := by rw [Nat.zero_add]; exact (hI0.wf i hil).n1
    have hw : ((gs0.getD i default).mem.getD 0 default).copy.rows.length ≤ 1024 := hwr0 i hil
    have ht := rowsL_take hil
    have hty := congrArg List.length ht
    rw [List.length_append] at hty
    conv => whnf
    repeat' first | ((first | refine NextVC.mk (i + 1) ?_ ?_ ?_ | refine bc_true ‹_› ?_ | refine bc_false ‹_› ?_ | refine need_intro ?_ ?_ | refine wk_refl ?_ | refine ord_intro (by kernel_rfl) ?_); conv => whnf) | (refine bc_intro (fun _ => ?_) (fun _ => ?_) <;> (conv => whnf))
    all_goals try simp only [Int.toNat_natCast, Int.toNat_zero, Nat.zero_add, cellsRow27, bytesRow27] at *
    all_goals first
      | exact trivial | omega | exact DLe.refl _ | exact RowLe.refl _ _ _ | exact DLe.of_eq (by rw [hs]) | exact ⟨rfl, rfl, rfl⟩ | exact ⟨trivial, trivial, trivial⟩ | exact ⟨by omega, by omega⟩ | exact ⟨Int.le_refl 0, by omega⟩ | exact ⟨trivial, by omega, by omega⟩ | exact ⟨rfl, by omega, by omega⟩ | exact ⟨trivial, trivial, hty.symm⟩ | exact ⟨rfl, rfl, hty.symm⟩
      | (rw [ht]; exact row_appZ)
  have hil' : decide (((gs0.length : Nat) : Int) < ((gs0.length : Nat) : Int)) = false := decide_eq_false (by omega)
  rw [List.take_length] at hrl ⊢
  conv => whnf
  repeat' first | ((first | refine bc_true ‹_› ?_ | refine bc_false ‹_› ?_ | refine need_intro ?_ ?_ | refine wk_refl ?_ | refine ord_intro (by kernel_rfl) ?_); conv => whnf)
  refine loop_auto [3, 4, 5] [500] (fun z : (Nat × List GrpT × Int) × Nat => [(8, .d (.int .i64 z.1.1))]) (fun z => [(4000, .box [.osl 5000 3 0 gs0.length, .d (.int .i64 z.1.2.2)]), (5000, .row 33 3 gs0.length (cellOf encGrp z.1.2.1)), (2000, tapeB tl z.2)])
    (fun z => (z.1.1 ≤ 60 ∧ z.1.2.1.length = gs0.length ∧ (InvN z.1.2.2 z.1.2.1 ∧ AllR T0 (5 + (z.1.1 : Int)) z.1.2.1) ∧ z.1.2.2 ≤ z.1.1) ∧ TapeOk tl z.2) (fun z => 60 - z.1.1) ((0, gs0, 0), b) ?_ (fun z hz => ?_) ⟨⟨by simp, rfl, ⟨hI0, hR0⟩, by simp⟩, by assumption⟩
  · conv => whnf
    repeat' first | ((first | refine bc_true ‹_› ?_ | refine bc_false ‹_› ?_ | refine need_intro ?_ ?_ | refine wk_refl ?_ | refine ord_intro (by kernel_rfl) ?_); conv => whnf) | (refine bc_intro (fun _ => ?_) (fun _ => ?_) <;> (conv => whnf))
    all_goals first | exact trivial | exact DLe.refl _ | exact DLe.nil | exact RowLe.refl _ _ _ | exact ⟨rfl, rfl⟩ | exact ⟨rfl, rfl, rfl⟩
  obtain ⟨⟨k, gs, N⟩, b⟩ := z
  obtain ⟨⟨hk, hgl, ⟨hI, hR⟩, hNk⟩, hb⟩ := hz
  dsimp only at hk hgl hI hR hNk hb
  have hsk : IntKind.i64.wrap ((k : Int) + 1) = ((k + 1 : Nat) : Int) := wrap_succ (n := 100) (by omega) (by omega)
  conv => whnf
  repeat' first | ((first | refine bc_true ‹_› ?_ | refine bc_false ‹_› ?_ | refine need_intro ?_ ?_ | refine wk_refl ?_ | refine ord_intro (by kernel_rfl) ?_); conv => whnf)
  refine bc_intro (fun hk60 => ?_) (fun hk60 => ?_)
  · conv => whnf
    repeat' first | ((first | refine call_some_if (left_ex _) (fun _ => by first | exact .inl rfl | exact .inr ⟨rfl, rfl⟩) (need_intro ?_ ?_); rintro ⟨v, b⟩ h6 | refine bc_true ‹_› ?_ | refine bc_false ‹_› ?_ | refine need_intro ?_ ?_ | refine wk_refl ?_ | refine ord_intro (by kernel_rfl) ?_); conv => whnf)
    all_goals try dsimp only at *
    all_goals try assumption
    refine bc_intro (fun hv => ?_) (fun hv => ?_)
    · have hE : ∀ u1 u2 ev, u1 < gs0.length → u2 < gs0.length → InvN (evN N ev) (evS N gs u1 u2 ev) := fun u1 u2 ev h1 h2 => inv_ev hI (by omega) (by omega)
      have hEr : ∀ u1 u2 ev, u1 < gs0.length → u2 < gs0.length → InvN (evN N ev) (mixL gs (evS N gs u1 u2 ev) gs0.length) ∧ AllR T0 (5 + ((k + 1 : Nat) : Int)) (mixL gs (evS N gs u1 u2 ev) gs0.length) := fun u1 u2 ev h1 h2 => by
        have := rows_step (e := ev) (by omega) hI hR (by omega : u1 < gs.length) (by omega : u2 < gs.length)
        rw [hgl] at this
        rw [show (5 : Int) + ((k + 1 : Nat) : Int) = 5 + (k : Int) + 1 by omega]
        exact this
      have hEl : ∀ u1 u2 ev, (evS N gs u1 u2 ev).length = gs0.length := fun u1 u2 ev => by rw [evS_len, hgl]
      have hEn : ∀ ev, evN N ev ≤ ((k + 1 : Nat) : Int) := fun ev => by have := (evN_le (N := N) (e := ev)).2; omega
      conv => whnf
      repeat' first | ((first | refine call_some_if (act_ex 4000 2000 5000 (by decide) (by decide) (by decide) gs N) (fun _ => by first | exact .inl rfl | exact .inr ⟨rfl, rfl⟩) (need_intro ?_ ?_); rintro ⟨⟨u1, u2, ev⟩, b⟩ ⟨⟨hu1, hu2⟩, h6⟩ | refine call_if (sound_ex 4000 5000 (by decide) (evS N gs u1 u2 ev) (evN N ev) gs0.length) (by first | exact .inl rfl | exact .inr ⟨rfl, rfl⟩) (need_intro ?_ ?_) | refine bc_true ‹_› ?_ | refine bc_false ‹_› ?_ | refine need_intro ?_ ?_ | refine wk_refl ?_ | refine ord_intro (by kernel_rfl) ?_); conv => whnf) | (refine bc_intro (fun _ => ?_) (fun _ => ?_) <;> (conv => whnf))
      all_goals try dsimp only at *
      all_goals try simp only [decide_eq_true_eq, decide_eq_false_iff_not, bytesGrp27] at *
      all_goals try first
        | assumption | contradiction | omega | exact ⟨by omega, by omega⟩ | exact ⟨by assumption, hgl, hge, by omega, hI, by omega⟩
        | exact ⟨hEl _ _ _, by omega, fun i hi => by have := ((hE u1 u2 ev hu1 hu2).wf i (by rw [hEl]; omega)).n1; omega⟩
      have hI2 := hE u1 u2 ev hu1 hu2
      obtain ⟨hI3, hR3⟩ := hEr u1 u2 ev hu1 hu2
      have hl2 := hEl u1 u2 ev
      have hn2 := hEn ev
      generalize evS N gs u1 u2 ev = gs2 at *
      generalize evN N ev = N2 at *
      refine loop_auto [3, 4, 5, 8, 9, 77, 78] [4000, 2000, 500, 67] (fun i : Nat => [(79, .d (.int .i64 i))]) (fun i => [(5000, .row 33 3 gs0.length (cellOf encGrp (mixL gs gs2 i)))]) (fun i => i ≤ gs0.length) (fun i => gs0.length - i) 0 ?_ (fun i hi => ?_) (by omega)
      · rw [mix_zero]
        conv => whnf
        repeat' first | ((first | refine bc_true ‹_› ?_ | refine bc_false ‹_› ?_ | refine need_intro ?_ ?_ | refine wk_refl ?_ | refine ord_intro (by kernel_rfl) ?_); conv => whnf) | (refine bc_intro (fun _ => ?_) (fun _ => ?_) <;> (conv => whnf))
        all_goals first | exact trivial | exact DLe.refl _ | exact DLe.nil | exact RowLe.refl _ _ _ | exact ⟨rfl, rfl⟩ | exact ⟨rfl, rfl, rfl⟩
      have hs := w7 i (by omega)
      rcases Nat.lt_or_eq_of_le hi with hil | rfl
      · have hil' := d7 i gs0.length (by omega)
        have hg : (mixL gs gs2 i).getD (0 + i) default = gs2.getD i default := by rw [Nat.zero_add, mix_get (by omega), if_neg (by omega)]
        have hn1 : 1 ≤ (gs2.getD i default).mem.length := (hI2.wf i (by omega)).n1
        have hst := fun (h : ((gs2.getD i default).mem.getD 0 default).copy.pend.length > 0) => mix_set (gs := gs) (gs1 := gs2) (k := i) (by omega) h
        have hsm := fun (h : ¬ ((gs2.getD i default).mem.getD 0 default).copy.pend.length > 0) => mix_same (gs := gs) (gs1 := gs2) (k := i) (by omega) h
        conv => whnf
        repeat' first | ((first | refine NextVC.mk (i + 1) ?_ ?_ ?_ | refine bc_true ‹_› ?_ | refine bc_false ‹_› ?_ | refine need_intro ?_ ?_ | refine wk_refl ?_ | refine draw_intro (by kernel_rfl) ?_ | refine ord_intro (by kernel_rfl) ?_); conv => whnf) | (refine bc_intro (fun _ => ?_) (fun _ => ?_) <;> (conv => whnf))
        all_goals try simp only [Int.toNat_natCast, Int.toNat_zero, hg] at *
        all_goals try simp only [decide_eq_true_eq, decide_eq_false_iff_not] at *
        all_goals first
          | exact trivial | omega | exact DLe.refl _ | exact RowLe.refl _ _ _ | exact DLe.of_eq (by rw [hs]) | exact ⟨rfl, rfl, rfl⟩ | exact ⟨trivial, trivial, trivial⟩ | exact ⟨by omega, by omega⟩ | exact ⟨Int.le_refl 0, by omega⟩
          | (rw [← hst (by omega)]
             have := row_setGr (n := gs0.length) (gs := mixL gs gs2 i) (p := i) (g := gs.getD i default) rfl rfl rfl (by rw [mix_len]; omega)
             simp only [Nat.zero_add] at this ⊢
             exact this)
          | (rw [← hsm (by omega)]; exact RowLe.refl _ _ _)
      have hil' : decide (((gs0.length : Nat) : Int) < ((gs0.length : Nat) : Int)) = false := decide_eq_false (by omega)
      conv => whnf
      repeat' first | ((first | refine NextVC.mk ((k + 1, mixL gs gs2 gs0.length, N2), b) ?_ ?_ ?_ | refine bc_true ‹_› ?_ | refine bc_false ‹_› ?_ | refine need_intro ?_ ?_ | refine wk_refl ?_ | refine ord_intro (by kernel_rfl) ?_); conv => whnf) | (refine bc_intro (fun _ => ?_) (fun _ => ?_) <;> (conv => whnf))
      all_goals try dsimp only at *
      all_goals first | exact trivial | omega | exact DLe.refl _ | exact RowLe.refl _ _ _ | exact DLe.of_eq (by rw [hsk]) | exact ⟨rfl, rfl, rfl⟩ | exact ⟨trivial, trivial, trivial⟩ | exact ⟨⟨by omega, by rw [mix_len, hl2], ⟨hI3, hR3⟩, hn2⟩, by assumption⟩
    conv => whnf
    repeat' first | ((first | refine bc_true ‹_› ?_ | refine bc_false ‹_› ?_ | refine need_intro ?_ ?_ | refine wk_refl ?_ | refine ord_intro (by kernel_rfl) ?_); conv => whnf)
    refine loop_auto [3, 4, 5, 106, 107] [4000, 2000, 500] (fun i : Nat => [(108, .d (.int .i64 i))]) (fun i => [(5000, .row 33 3 gs0.length (cellOf encGrp (finL gs i)))]) (fun i => i ≤ gs0.length) (fun i => gs0.length - i) 0 ?_ (fun i hi => ?_) (by omega)
    · rw [fin_zero]
      conv => whnf
      repeat' first | ((first | refine bc_true ‹_› ?_ | refine bc_false ‹_› ?_ | refine need_intro ?_ ?_ | refine wk_refl ?_ | refine ord_intro (by kernel_rfl) ?_); conv => whnf) | (refine bc_intro (fun _ => ?_) (fun _ => ?_) <;> (conv => whnf))
      all_goals first | exact trivial | exact DLe.refl _ | exact DLe.nil | exact RowLe.refl _ _ _ | exact ⟨rfl, rfl⟩ | exact ⟨rfl, rfl, rfl⟩
    have hs := w7 i (by omega)
    rcases Nat.lt_or_eq_of_le hi with hil | rfl
    · have hil' := d7 i gs0.length (by omega)
      have hg : (finL gs i).getD (0 + i) default = gs.getD i default := by rw [Nat.zero_add, fin_get (by omega), if_neg (by omega)]
      have hgb := (hI.wf i (by omega)).b
      have hst := fin_set (gs := gs) (k := i) (by omega)
      have hsm := fun h => fin_same (gs := gs) (k := i) (by omega) h
      have hfg : (recoverG (gs.getD i default)).2 = 0 → finG (gs.getD i default) = (recoverG (gs.getD i default)).1.1 := fun h => by unfold finG; rw [if_pos h]
      conv => whnf
      repeat' first | ((first | refine call_if (recoverr_spec ((finL gs i).getD (0 + i) default)) (by first | exact .inl rfl | exact .inr ⟨rfl, rfl⟩) (need_intro ?_ ?_) | refine NextVC.mk (i + 1) ?_ ?_ ?_ | refine bc_true ‹_› ?_ | refine bc_false ‹_› ?_ | refine need_intro ?_ ?_ | refine wk_refl ?_ | refine draw_intro (by kernel_rfl) ?_ | refine ord_intro (by kernel_rfl) ?_); conv => whnf) | (refine bc_intro (fun _ => ?_) (fun _ => ?_) <;> (conv => whnf))
      all_goals try simp only [Int.toNat_natCast, Int.toNat_zero, hg] at *
      all_goals try simp only [decide_eq_true_eq, decide_eq_false_iff_not, beq_iff_eq, beq_eq_false_iff_ne, ne_eq] at *
      all_goals first
        | exact trivial | assumption | omega | exact DLe.refl _ | exact RowLe.refl _ _ _ | exact DLe.of_eq (by rw [hs]) | exact ⟨rfl, rfl, rfl⟩ | exact ⟨trivial, trivial, trivial⟩ | exact ⟨by omega, by omega⟩
        | (rw [← hst, hfg (by assumption)]
           exact row_setGr rfl rfl rfl (by rw [fin_len]; omega))
        | (rw [← hsm (by assumption)]; exact RowLe.refl _ _ _)
    have hil' : decide (((gs0.length : Nat) : Int) < ((gs0.length : Nat) : Int)) = false := decide_eq_false (by omega)
    have hF := fin_inv hI hR (Nat.le_refl gs.length)
    have hOf := fin_own (by omega) hI hR
    have hfl : (finL gs gs.length).length = gs0.length := by rw [fin_len, hgl]
    rw [hgl] at hF hOf hfl
    obtain ⟨hIf, hRf⟩ := hF
    have hle2 := rows_le hT0 hIf hOf hRf hbs htop
    generalize finL gs gs0.length = gf at *
    have hRT : ∀ j, j < (rowsL gs0).length → ((rowsL gs0).getD (0 + j) default) ∈ T0 := fun j hj => by rw [Nat.zero_add]; exact (tile_all hT0 hbs htop).1 (getD_mem hj)
    generalize rowsL gs0 = RR at *
    have hwrf : ∀ i, i < gf.length → (own0 (gf.getD i default)).copy.rows.length ≤ 1024 := fun i hi => (wf_rows (hIf.wf i hi)).1
    conv => whnf
    repeat' first | ((first | refine bc_true ‹_› ?_ | refine bc_false ‹_› ?_ | refine need_intro ?_ ?_ | refine wk_refl ?_ | refine ord_intro (by kernel_rfl) ?_); conv => whnf)
    refine loop_auto [3, 4, 5, 17, 129, 130] [4000, 5000, 2000, 500] (fun j : Nat => [(131, .d (.int .i64 j))]) (fun j => []) (fun j => j ≤ RR.length) (fun j => RR.length - j) 0 ?_ (fun j hj => ?_) (by omega)
    · conv => whnf
      repeat' first | ((first | refine bc_true ‹_› ?_ | refine bc_false ‹_› ?_ | refine need_intro ?_ ?_ | refine wk_refl ?_ | refine ord_intro (by kernel_rfl) ?_); conv => whnf) | (refine bc_intro (fun _ => ?_) (fun _ => ?_) <;> (conv => whnf))
      all_goals first | exact trivial | exact DLe.refl _ | exact DLe.nil | exact RowLe.refl _ _ _ | exact ⟨rfl, rfl⟩ | exact ⟨rfl, rfl, rfl⟩
    have hsj : IntKind.i64.wrap ((j : Int) + 1) = ((j + 1 : Nat) : Int) := wrap_succ (n := 20000) (by omega) (by omega)
    refine Or.elim (Nat.lt_or_eq_of_le hj) (fun hjl => ?_) (fun hjl => ?_)
    · have hjl' : decide ((j : Int) < ((RR.length : Nat) : Int)) = true := decide_eq_true (by omega)
      have hr := hRT j hjl
      have hone := row_one1 hT0 hIf hOf hRf hr
      rw [hfl] at hone
      have hRa := rwA_is gf (RR.getD (0 + j) default)
      have hRb := rwB_is gf (RR.getD (0 + j) default)
      have hCs := fun m => cnt_succR (a := rwA gf (RR.getD (0 + j) default)) (b := rwB gf (RR.getD (0 + j) default)) (m := m)
      have hCl := fun m => cnt_le (a := rwA gf (RR.getD (0 + j) default)) (b := rwB gf (RR.getD (0 + j) default)) (m := m)
      have hC0 : cnt (rwA gf (RR.getD (0 + j) default)) (rwB gf (RR.getD (0 + j) default)) 0 = 0 := rfl
      generalize cnt (rwA gf (RR.getD (0 + j) default)) (rwB gf (RR.getD (0 + j) default)) = cf at *
      generalize rwA gf (RR.getD (0 + j) default) = ra at *
      generalize rwB gf (RR.getD (0 + j) default) = rb at *
      conv => whnf
      repeat' first | ((first | refine bc_true ‹_› ?_ | refine bc_false ‹_› ?_ | refine need_intro ?_ ?_ | refine wk_refl ?_ | refine ord_intro (by kernel_rfl) ?_); conv => whnf)
      all_goals try first | omega | exact ⟨by omega, by omega⟩
      refine loop_auto [3, 4, 5, 17, 129, 130, 131, 19, 138, 139] [4000, 5000, 2000, 500, 19] (fun i : Nat => [(140, .d (.int .i64 i)), (20, .d (.int .i64 (cf i)))]) (fun i => []) (fun i => i ≤ gs0.length) (fun i => gs0.length - i) 0 ?_ (fun i hi => ?_) (by omega)
      · rw [hC0]
        conv => whnf
        repeat' first | ((first | refine bc_true ‹_› ?_ | refine bc_false ‹_› ?_ | refine need_intro ?_ ?_ | refine wk_refl ?_ | refine ord_intro (by kernel_rfl) ?_); conv => whnf) | (refine bc_intro (fun _ => ?_) (fun _ => ?_) <;> (conv => whnf))
        all_goals first | exact trivial | exact DLe.refl _ | exact DLe.nil | exact RowLe.refl _ _ _ | exact ⟨rfl, rfl⟩ | exact ⟨rfl, rfl, rfl⟩
      have hs := w7 i (by omega)
      refine Or.elim (Nat.lt_or_eq_of_le hi) (fun hil => ?_) (fun hil => ?_)
      · have hil' := d7 i gs0.length (by omega)
        have hn1 : 1 ≤ (gf.getD (0 + i) default).mem.length := by rw [Nat.zero_add]; exact (hIf.wf i (by omega)).n1
        have hwr := wf_rows (hIf.wf (0 + i) (by omega))
        have hcl := hCl i
        have hw1 : IntKind.i64.wrap ((cf i : Int) + 1) = ((cf i + 1 : Nat) : Int) := wrap_succ (n := 2000) (by omega) (by omega)
        have hw2 : IntKind.i64.wrap (((cf i + 1 : Nat) : Int) + 1) = ((cf i + 1 + 1 : Nat) : Int) := wrap_succ (n := 2000) (by omega) (by omega)
        have hcs := hCs i
        have hAi := hRa (0 + i)
        have hBi := hRb (0 + i)
        rw [show ra (0 + i) = ra i by rw [Nat.zero_add]] at hAi
        rw [show rb (0 + i) = rb i by rw [Nat.zero_add]] at hBi
        have hget1 := getr_spec ((gf.getD (0 + i) default).mem.getD 0 default).copy.rows (RR.getD (0 + j) default).1 (Nat.le_trans hwr.1 (by decide))
        have hget2 := getr_spec ((gf.getD (0 + i) default).mem.getD 0 default).copy.out.rows (RR.getD (0 + j) default).1 (Nat.le_trans hwr.2 (by decide))
        generalize getF ((gf.getD (0 + i) default).mem.getD 0 default).copy.rows (RR.getD (0 + j) default).1 = q1 at *
        generalize getF ((gf.getD (0 + i) default).mem.getD 0 default).copy.out.rows (RR.getD (0 + j) default).1 = q2 at *
        conv => whnf
        repeat' first | ((first | refine call_intro (hget1) ?_ (by first | exact .inl rfl | exact .inr ⟨rfl, rfl⟩) | refine bc_true ‹_› ?_ | refine bc_false ‹_› ?_ | refine need_intro ?_ ?_ | refine wk_refl ?_ | refine ord_intro (by kernel_rfl) ?_); conv => whnf)
        all_goals try first | exact ⟨Int.le_refl 0, by show (0 : Int) < (((gf.getD (0 + i) default).mem.length : Nat) : Int); omega⟩ | exact ⟨by omega, by omega⟩ | omega
        refine bc_intro (fun h1 => ?_) (fun h1 => ?_)
        · conv => whnf
          repeat' first | ((first | refine bc_true ‹_› ?_ | refine bc_false ‹_› ?_ | refine need_intro ?_ ?_ | refine wk_refl ?_ | refine ord_intro (by kernel_rfl) ?_); conv => whnf)
          refine bc_intro (fun h2 => ?_) (fun h2 => ?_)
          · have h3 : (q1.1 == (RR.getD (0 + j) default).2) = true := h2
            have hA : ra i = true := by rw [hAi, h1, h3]; rfl
            conv => whnf
            repeat' first | ((first | refine call_intro (hget2) ?_ (by first | exact .inl rfl | exact .inr ⟨rfl, rfl⟩) | refine bc_true ‹_› ?_ | refine bc_false ‹_› ?_ | refine need_intro ?_ ?_ | refine wk_refl ?_ | refine ord_intro (by kernel_rfl) ?_); conv => whnf)
            refine bc_intro (fun h4 => ?_) (fun h4 => ?_)
            · conv => whnf
              repeat' first | ((first | refine bc_true ‹_› ?_ | refine bc_false ‹_› ?_ | refine need_intro ?_ ?_ | refine wk_refl ?_ | refine ord_intro (by kernel_rfl) ?_); conv => whnf)
              refine bc_intro (fun h5 => ?_) (fun h5 => ?_)
              · conv => whnf
                repeat' first | ((first | refine bc_true ‹_› ?_ | refine bc_false ‹_› ?_ | refine need_intro ?_ ?_ | refine wk_refl ?_ | refine ord_intro (by kernel_rfl) ?_); conv => whnf)
                refine bc_intro (fun h7 => ?_) (fun h7 => ?_)
                · have h6 : (((gf.getD (0 + i) default).mem.getD 0 default).copy.out.serial != 0) = true := h5
                  have h8 : (q2.1 == (RR.getD (0 + j) default).2) = true := h7
                  conv => whnf
                  repeat' first | ((first | refine bc_true ‹_› ?_ | refine bc_false ‹_› ?_ | refine need_intro ?_ ?_ | refine wk_refl ?_ | refine ord_intro (by kernel_rfl) ?_); conv => whnf)
                  refine loop_auto [3, 4, 5, 17, 129, 130, 131, 19, 138, 139, 140, 20, 23, 191, 192] [4000, 5000, 2000, 500, 19, 23] (fun m : Nat => [(193, .d (.int .i64 m)), (28, .d (.bool ((gf.take m).any (tkS ((gf.getD (0 + i) default).mem.getD 0 default).copy.out.serial))))]) (fun m => []) (fun m => m ≤ gs0.length) (fun m => gs0.length - m) 0 ?_ (fun m hm => ?_) (by omega)
                  · conv => whnf
                    repeat' first | ((first | refine bc_true ‹_› ?_ | refine bc_false ‹_› ?_ | refine need_intro ?_ ?_ | refine wk_refl ?_ | refine ord_intro (by kernel_rfl) ?_); conv => whnf) | (refine bc_intro (fun _ => ?_) (fun _ => ?_) <;> (conv => whnf))
                    all_goals first | exact trivial | exact DLe.refl _ | exact DLe.nil | exact RowLe.refl _ _ _ | exact ⟨rfl, rfl⟩ | exact ⟨rfl, rfl, rfl⟩
                  refine Or.elim (Nat.lt_or_eq_of_le hm) (fun hml => ?_) (fun hml => ?_)
                  · have hml' := d7 m gs0.length (by omega)
                    have hsm := w7 m (by omega)
                    have hnm : 1 ≤ (gf.getD (0 + m) default).mem.length := by rw [Nat.zero_add]; exact (hIf.wf m (by omega)).n1
                    have hat := t7 ((gf.getD (0 + i) default).mem.getD 0 default).copy.out.serial (by omega : m < gf.length)
                    conv => whnf
                    repeat' first | ((first | refine NextVC.mk (m + 1) ?_ ?_ ?_ | refine bc_true ‹_› ?_ | refine bc_false ‹_› ?_ | refine need_intro ?_ ?_ | refine wk_refl ?_ | refine draw_intro (by kernel_rfl) ?_ | refine ord_intro (by kernel_rfl) ?_); conv => whnf) | (refine bc_intro (fun _ => ?_) (fun _ => ?_) <;> (conv => whnf))
                    all_goals first
                      | exact trivial | exact DLe.of_eq (by rw [hsm]) | exact DLe.refl _ | exact RowLe.refl _ _ _ | exact ⟨rfl, rfl, rfl⟩ | exact ⟨trivial, trivial, trivial⟩ | omega | exact ⟨by omega, by omega⟩ | exact ⟨Int.le_refl 0, by show (0 : Int) < (((gf.getD (0 + m) default).mem.length : Nat) : Int); omega⟩
                      | (refine DLe.of_eq (congrArg D.bool ?_)
                         rw [hat, show (gf.take m).any (tkS ((gf.getD (0 + i) default).mem.getD 0 default).copy.out.serial) = true from by assumption]
                         rfl)
                      | (refine DLe.of_eq (congrArg D.bool ?_)
                         rw [hat, show (gf.take m).any (tkS ((gf.getD (0 + i) default).mem.getD 0 default).copy.out.serial) = false from by assumption, Bool.false_or]
                         rfl)
                  have hml' := f7 m gs0.length (by omega)
                  have htk : gf.take m = gf := List.take_of_length_le (by omega)
                  conv => whnf
                  repeat' first | ((first | refine bc_true ‹_› ?_ | refine bc_false ‹_› ?_ | refine need_intro ?_ ?_ | refine wk_refl ?_ | refine ord_intro (by kernel_rfl) ?_); conv => whnf)
                  refine bc_intro (fun h9 => ?_) (fun h9 => ?_)
                  · have hB : rb i = true := by rw [htk] at h9; rw [hBi, h4, h6, h8, h9]; rfl
                    conv => whnf
                    repeat' first | ((first | refine NextVC.mk (i + 1) ?_ ?_ ?_ | refine bc_true ‹_› ?_ | refine bc_false ‹_› ?_ | refine need_intro ?_ ?_ | refine wk_refl ?_ | refine ord_intro (by kernel_rfl) ?_); conv => whnf) | (refine bc_intro (fun _ => ?_) (fun _ => ?_) <;> (conv => whnf))
                    all_goals first | exact trivial | exact DLe.of_eq (by rw [hs]) | exact DLe.of_eq (by (try rw [hw1]); (try rw [hw2]); rw [hcs, hA, hB]; rfl) | exact DLe.refl _ | exact RowLe.refl _ _ _ | exact ⟨rfl, rfl, rfl⟩ | omega
                  have hB : rb i = false := by rw [htk] at h9; rw [hBi, h9]; simp only [Bool.and_false]
                  conv => whnf
                  repeat' first | ((first | refine NextVC.mk (i + 1) ?_ ?_ ?_ | refine bc_true ‹_› ?_ | refine bc_false ‹_› ?_ | refine need_intro ?_ ?_ | refine wk_refl ?_ | refine ord_intro (by kernel_rfl) ?_); conv => whnf) | (refine bc_intro (fun _ => ?_) (fun _ => ?_) <;> (conv => whnf))
                  all_goals first | exact trivial | exact DLe.of_eq (by rw [hs]) | exact DLe.of_eq (by (try rw [hw1]); (try rw [hw2]); rw [hcs, hA, hB]; rfl) | exact DLe.refl _ | exact RowLe.refl _ _ _ | exact ⟨rfl, rfl, rfl⟩ | omega
                have h6 : (((gf.getD (0 + i) default).mem.getD 0 default).copy.out.serial != 0) = true := h5
                have h8 : (q2.1 == (RR.getD (0 + j) default).2) = false := h7
                have hB : rb i = false := by rw [hBi, h4, h6, h8]; rfl
                conv => whnf
                repeat' first | ((first | refine NextVC.mk (i + 1) ?_ ?_ ?_ | refine bc_true ‹_› ?_ | refine bc_false ‹_› ?_ | refine need_intro ?_ ?_ | refine wk_refl ?_ | refine ord_intro (by kernel_rfl) ?_); conv => whnf) | (refine bc_intro (fun _ => ?_) (fun _ => ?_) <;> (conv => whnf))
                all_goals first | exact trivial | exact DLe.of_eq (by rw [hs]) | exact DLe.of_eq (by (try rw [hw1]); (try rw [hw2]); rw [hcs, hA, hB]; rfl) | exact DLe.refl _ | exact RowLe.refl _ _ _ | exact ⟨rfl, rfl, rfl⟩ | omega
              have h6 : (((gf.getD (0 + i) default).mem.getD 0 default).copy.out.serial != 0) = false := h5
              have hB : rb i = false := by rw [hBi, h4, h6]; rfl
              conv => whnf
              repeat' first | ((first | refine NextVC.mk (i + 1) ?_ ?_ ?_ | refine bc_true ‹_› ?_ | refine bc_false ‹_› ?_ | refine need_intro ?_ ?_ | refine wk_refl ?_ | refine ord_intro (by kernel_rfl) ?_); conv => whnf) | (refine bc_intro (fun _ => ?_) (fun _ => ?_) <;> (conv => whnf))
              all_goals first | exact trivial | exact DLe.of_eq (by rw [hs]) | exact DLe.of_eq (by (try rw [hw1]); (try rw [hw2]); rw [hcs, hA, hB]; rfl) | exact DLe.refl _ | exact RowLe.refl _ _ _ | exact ⟨rfl, rfl, rfl⟩ | omega
            have hB : rb i = false := by rw [hBi, h4]; rfl
            conv => whnf
            repeat' first | ((first | refine NextVC.mk (i + 1) ?_ ?_ ?_ | refine bc_true ‹_› ?_ | refine bc_false ‹_› ?_ | refine need_intro ?_ ?_ | refine wk_refl ?_ | refine ord_intro (by kernel_rfl) ?_); conv => whnf) | (refine bc_intro (fun _ => ?_) (fun _ => ?_) <;> (conv => whnf))
            all_goals first | exact trivial | exact DLe.of_eq (by rw [hs]) | exact DLe.of_eq (by (try rw [hw1]); (try rw [hw2]); rw [hcs, hA, hB]; rfl) | exact DLe.refl _ | exact RowLe.refl _ _ _ | exact ⟨rfl, rfl, rfl⟩ | omega
          have h3 : (q1.1 == (RR.getD (0 + j) default).2) = false := h2
          have hA : ra i = false := by rw [hAi, h1, h3]; rfl
          conv => whnf
          repeat' first | ((first | refine call_intro (hget2) ?_ (by first | exact .inl rfl | exact .inr ⟨rfl, rfl⟩) | refine bc_true ‹_› ?_ | refine bc_false ‹_› ?_ | refine need_intro ?_ ?_ | refine wk_refl ?_ | refine ord_intro (by kernel_rfl) ?_); conv => whnf)
          refine bc_intro (fun h4 => ?_) (fun h4 => ?_)
          · conv => whnf
            repeat' first | ((first | refine bc_true ‹_› ?_ | refine bc_false ‹_› ?_ | refine need_intro ?_ ?_ | refine wk_refl ?_ | refine ord_intro (by kernel_rfl) ?_); conv => whnf)
            refine bc_intro (fun h5 => ?_) (fun h5 => ?_)
            · conv => whnf
              repeat' first | ((first | refine bc_true ‹_› ?_ | refine bc_false ‹_› ?_ | refine need_intro ?_ ?_ | refine wk_refl ?_ | refine ord_intro (by kernel_rfl) ?_); conv => whnf)
              refine bc_intro (fun h7 => ?_) (fun h7 => ?_)
              · have h6 : (((gf.getD (0 + i) default).mem.getD 0 default).copy.out.serial != 0) = true := h5
                have h8 : (q2.1 == (RR.getD (0 + j) default).2) = true := h7
                conv => whnf
                repeat' first | ((first | refine bc_true ‹_› ?_ | refine bc_false ‹_› ?_ | refine need_intro ?_ ?_ | refine wk_refl ?_ | refine ord_intro (by kernel_rfl) ?_); conv => whnf)
                refine loop_auto [3, 4, 5, 17, 129, 130, 131, 19, 138, 139, 140, 20, 23, 191, 192] [4000, 5000, 2000, 500, 19, 23] (fun m : Nat => [(193, .d (.int .i64 m)), (28, .d (.bool ((gf.take m).any (tkS ((gf.getD (0 + i) default).mem.getD 0 default).copy.out.serial))))]) (fun m => []) (fun m => m ≤ gs0.length) (fun m => gs0.length - m) 0 ?_ (fun m hm => ?_) (by omega)
                · conv => whnf
                  repeat' first | ((first | refine bc_true ‹_› ?_ | refine bc_false ‹_› ?_ | refine need_intro ?_ ?_ | refine wk_refl ?_ | refine ord_intro (by kernel_rfl) ?_); conv => whnf) | (refine bc_intro (fun _ => ?_) (fun _ => ?_) <;> (conv => whnf))
                  all_goals first | exact trivial | exact DLe.refl _ | exact DLe.nil | exact RowLe.refl _ _ _ | exact ⟨rfl, rfl⟩ | exact ⟨rfl, rfl, rfl⟩
                refine Or.elim (Nat.lt_or_eq_of_le hm) (fun hml => ?_) (fun hml => ?_)
                · have hml' := d7 m gs0.length (by omega)
                  have hsm := w7 m (by omega)
                  have hnm : 1 ≤ (gf.getD (0 + m) default).mem.length := by rw [Nat.zero_add]; exact (hIf.wf m (by omega)).n1
                  have hat := t7 ((gf.getD (0 + i) default).mem.getD 0 default).copy.out.serial (by omega : m < gf.length)
                  conv => whnf
                  repeat' first | ((first | refine NextVC.mk (m + 1) ?_ ?_ ?_ | refine bc_true ‹_› ?_ | refine bc_false ‹_› ?_ | refine need_intro ?_ ?_ | refine wk_refl ?_ | refine draw_intro (by kernel_rfl) ?_ | refine ord_intro (by kernel_rfl) ?_); conv => whnf) | (refine bc_intro (fun _ => ?_) (fun _ => ?_) <;> (conv => whnf))
                  all_goals first
                    | exact trivial | exact DLe.of_eq (by rw [hsm]) | exact DLe.refl _ | exact RowLe.refl _ _ _ | exact ⟨rfl, rfl, rfl⟩ | exact ⟨trivial, trivial, trivial⟩ | omega | exact ⟨by omega, by omega⟩ | exact ⟨Int.le_refl 0, by show (0 : Int) < (((gf.getD (0 + m) default).mem.length : Nat) : Int); omega⟩
                    | (refine DLe.of_eq (congrArg D.bool ?_)
                       rw [hat, show (gf.take m).any (tkS ((gf.getD (0 + i) default).mem.getD 0 default).copy.out.serial) = true from by assumption]
                       rfl)
                    | (refine DLe.of_eq (congrArg D.bool ?_)
                       rw [hat, show (gf.take m).any (tkS ((gf.getD (0 + i) default).mem.getD 0 default).copy.out.serial) = false from by assumption, Bool.false_or]
                       rfl)
                have hml' := f7 m gs0.length (by omega)
                have htk : gf.take m = gf := List.take_of_length_le (by omega)
                conv => whnf
                repeat' first | ((first | refine bc_true ‹_› ?_ | refine bc_false ‹_› ?_ | refine need_intro ?_ ?_ | refine wk_refl ?_ | refine ord_intro (by kernel_rfl) ?_); conv => whnf)
                refine bc_intro (fun h9 => ?_) (fun h9 => ?_)
                · have hB : rb i = true := by rw [htk] at h9; rw [hBi, h4, h6, h8, h9]; rfl
                  conv => whnf
                  repeat' first | ((first | refine NextVC.mk (i + 1) ?_ ?_ ?_ | refine bc_true ‹_› ?_ | refine bc_false ‹_› ?_ | refine need_intro ?_ ?_ | refine wk_refl ?_ | refine ord_intro (by kernel_rfl) ?_); conv => whnf) | (refine bc_intro (fun _ => ?_) (fun _ => ?_) <;> (conv => whnf))
                  all_goals first | exact trivial | exact DLe.of_eq (by rw [hs]) | exact DLe.of_eq (by (try rw [hw1]); (try rw [hw2]); rw [hcs, hA, hB]; rfl) | exact DLe.refl _ | exact RowLe.refl _ _ _ | exact ⟨rfl, rfl, rfl⟩ | omega
                have hB : rb i = false := by rw [htk] at h9; rw [hBi, h9]; simp only [Bool.and_false]
                conv => whnf
                repeat' first | ((first | refine NextVC.mk (i + 1) ?_ ?_ ?_ | refine bc_true ‹_› ?_ | refine bc_false ‹_› ?_ | refine need_intro ?_ ?_ | refine wk_refl ?_ | refine ord_intro (by kernel_rfl) ?_); conv => whnf) | (refine bc_intro (fun _ => ?_) (fun _ => ?_) <;> (conv => whnf))
                all_goals first | exact trivial | exact DLe.of_eq (by rw [hs]) | exact DLe.of_eq (by (try rw [hw1]); (try rw [hw2]); rw [hcs, hA, hB]; rfl) | exact DLe.refl _ | exact RowLe.refl _ _ _ | exact ⟨rfl, rfl, rfl⟩ | omega
              have h6 : (((gf.getD (0 + i) default).mem.getD 0 default).copy.out.serial != 0) = true := h5
              have h8 : (q2.1 == (RR.getD (0 + j) default).2) = false := h7
              have hB : rb i = false := by rw [hBi, h4, h6, h8]; rfl
              conv => whnf
              repeat' first | ((first | refine NextVC.mk (i + 1) ?_ ?_ ?_ | refine bc_true ‹_› ?_ | refine bc_false ‹_› ?_ | refine need_intro ?_ ?_ | refine wk_refl ?_ | refine ord_intro (by kernel_rfl) ?_); conv => whnf) | (refine bc_intro (fun _ => ?_) (fun _ => ?_) <;> (conv => whnf))
              all_goals first | exact trivial | exact DLe.of_eq (by rw [hs]) | exact DLe.of_eq (by (try rw [hw1]); (try rw [hw2]); rw [hcs, hA, hB]; rfl) | exact DLe.refl _ | exact RowLe.refl _ _ _ | exact ⟨rfl, rfl, rfl⟩ | omega
            have h6 : (((gf.getD (0 + i) default).mem.getD 0 default).copy.out.serial != 0) = false := h5
            have hB : rb i = false := by rw [hBi, h4, h6]; rfl
            conv => whnf
            repeat' first | ((first | refine NextVC.mk (i + 1) ?_ ?_ ?_ | refine bc_true ‹_› ?_ | refine bc_false ‹_› ?_ | refine need_intro ?_ ?_ | refine wk_refl ?_ | refine ord_intro (by kernel_rfl) ?_); conv => whnf) | (refine bc_intro (fun _ => ?_) (fun _ => ?_) <;> (conv => whnf))
            all_goals first | exact trivial | exact DLe.of_eq (by rw [hs]) | exact DLe.of_eq (by (try rw [hw1]); (try rw [hw2]); rw [hcs, hA, hB]; rfl) | exact DLe.refl _ | exact RowLe.refl _ _ _ | exact ⟨rfl, rfl, rfl⟩ | omega
          have hB : rb i = false := by rw [hBi, h4]; rfl
          conv => whnf
          repeat' first | ((first | refine NextVC.mk (i + 1) ?_ ?_ ?_ | refine bc_true ‹_› ?_ | refine bc_false ‹_› ?_ | refine need_intro ?_ ?_ | refine wk_refl ?_ | refine ord_intro (by kernel_rfl) ?_); conv => whnf) | (refine bc_intro (fun _ => ?_) (fun _ => ?_) <;> (conv => whnf))
          all_goals first | exact trivial | exact DLe.of_eq (by rw [hs]) | exact DLe.of_eq (by (try rw [hw1]); (try rw [hw2]); rw [hcs, hA, hB]; rfl) | exact DLe.refl _ | exact RowLe.refl _ _ _ | exact ⟨rfl, rfl, rfl⟩ | omega
        have hA : ra i = false := by rw [hAi, h1]; rfl
        conv => whnf
        repeat' first | ((first | refine call_intro (hget2) ?_ (by first | exact .inl rfl | exact .inr ⟨rfl, rfl⟩) | refine bc_true ‹_› ?_ | refine bc_false ‹_› ?_ | refine need_intro ?_ ?_ | refine wk_refl ?_ | refine ord_intro (by kernel_rfl) ?_); conv => whnf)
        refine bc_intro (fun h4 => ?_) (fun h4 => ?_)
        · conv => whnf
          repeat' first | ((first | refine bc_true ‹_› ?_ | refine bc_false ‹_› ?_ | refine need_intro ?_ ?_ | refine wk_refl ?_ | refine ord_intro (by kernel_rfl) ?_); conv => whnf)
          refine bc_intro (fun h5 => ?_) (fun h5 => ?_)
          · conv => whnf
            repeat' first | ((first | refine bc_true ‹_› ?_ | refine bc_false ‹_› ?_ | refine need_intro ?_ ?_ | refine wk_refl ?_ | refine ord_intro (by kernel_rfl) ?_); conv => whnf)
            refine bc_intro (fun h7 => ?_) (fun h7 => ?_)
            · have h6 : (((gf.getD (0 + i) default).mem.getD 0 default).copy.out.serial != 0) = true := h5
              have h8 : (q2.1 == (RR.getD (0 + j) default).2) = true := h7
              conv => whnf
              repeat' first | ((first | refine bc_true ‹_› ?_ | refine bc_false ‹_› ?_ | refine need_intro ?_ ?_ | refine wk_refl ?_ | refine ord_intro (by kernel_rfl) ?_); conv => whnf)
              refine loop_auto [3, 4, 5, 17, 129, 130, 131, 19, 138, 139, 140, 20, 23, 191, 192] [4000, 5000, 2000, 500, 19, 23] (fun m : Nat => [(193, .d (.int .i64 m)), (28, .d (.bool ((gf.take m).any (tkS ((gf.getD (0 + i) default).mem.getD 0 default).copy.out.serial))))]) (fun m => []) (fun m => m ≤ gs0.length) (fun m => gs0.length - m) 0 ?_ (fun m hm => ?_) (by omega)
              · conv => whnf
                repeat' first | ((first | refine bc_true ‹_› ?_ | refine bc_false ‹_› ?_ | refine need_intro ?_ ?_ | refine wk_refl ?_ | refine ord_intro (by kernel_rfl) ?_); conv => whnf) | (refine bc_intro (fun _ => ?_) (fun _ => ?_) <;> (conv => whnf))
                all_goals first | exact trivial | exact DLe.refl _ | exact DLe.nil | exact RowLe.refl _ _ _ | exact ⟨rfl, rfl⟩ | exact ⟨rfl, rfl, rfl⟩
              refine Or.elim (Nat.lt_or_eq_of_le hm) (fun hml => ?_) (fun hml => ?_)
              · have hml' := d7 m gs0.length (by omega)
                have hsm := w7 m (by omega)
                have hnm : 1 ≤ (gf.getD (0 + m) default).mem.length := by rw [Nat.zero_add]; exact (hIf.wf m (by omega)).n1
                have hat := t7 ((gf.getD (0 + i) default).mem.getD 0 default).copy.out.serial (by omega : m < gf.length)
                conv => whnf
                repeat' first | ((first | refine NextVC.mk (m + 1) ?_ ?_ ?_ | refine bc_true ‹_› ?_ | refine bc_false ‹_› ?_ | refine need_intro ?_ ?_ | refine wk_refl ?_ | refine draw_intro (by kernel_rfl) ?_ | refine ord_intro (by kernel_rfl) ?_); conv => whnf) | (refine bc_intro (fun _ => ?_) (fun _ => ?_) <;> (conv => whnf))
                all_goals first
                  | exact trivial | exact DLe.of_eq (by rw [hsm]) | exact DLe.refl _ | exact RowLe.refl _ _ _ | exact ⟨rfl, rfl, rfl⟩ | exact ⟨trivial, trivial, trivial⟩ | omega | exact ⟨by omega, by omega⟩ | exact ⟨Int.le_refl 0, by show (0 : Int) < (((gf.getD (0 + m) default).mem.length : Nat) : Int); omega⟩
                  | (refine DLe.of_eq (congrArg D.bool ?_)
                     rw [hat, show (gf.take m).any (tkS ((gf.getD (0 + i) default).mem.getD 0 default).copy.out.serial) = true from by assumption]
                     rfl)
                  | (refine DLe.of_eq (congrArg D.bool ?_)
                     rw [hat, show (gf.take m).any (tkS ((gf.getD (0 + i) default).mem.getD 0 default).copy.out.serial) = false from by assumption, Bool.false_or]
                     rfl)
              have hml' := f7 m gs0.length (by omega)
              have htk : gf.take m = gf := List.take_of_length_le (by omega)
              conv => whnf
              repeat' first | ((first | refine bc_true ‹_› ?_ | refine bc_false ‹_› ?_ | refine need_intro ?_ ?_ | refine wk_refl ?_ | refine ord_intro (by kernel_rfl) ?_); conv => whnf)
              refine bc_intro (fun h9 => ?_) (fun h9 => ?_)
              · have hB : rb i = true := by rw [htk] at h9; rw [hBi, h4, h6, h8, h9]; rfl
                conv => whnf
                repeat' first | ((first | refine NextVC.mk (i + 1) ?_ ?_ ?_ | refine bc_true ‹_› ?_ | refine bc_false ‹_› ?_ | refine need_intro ?_ ?_ | refine wk_refl ?_ | refine ord_intro (by kernel_rfl) ?_); conv => whnf) | (refine bc_intro (fun _ => ?_) (fun _ => ?_) <;> (conv => whnf))
                all_goals first | exact trivial | exact DLe.of_eq (by rw [hs]) | exact DLe.of_eq (by (try rw [hw1]); (try rw [hw2]); rw [hcs, hA, hB]; rfl) | exact DLe.refl _ | exact RowLe.refl _ _ _ | exact ⟨rfl, rfl, rfl⟩ | omega
              have hB : rb i = false := by rw [htk] at h9; rw [hBi, h9]; simp only [Bool.and_false]
              conv => whnf
              repeat' first | ((first | refine NextVC.mk (i + 1) ?_ ?_ ?_ | refine bc_true ‹_› ?_ | refine bc_false ‹_› ?_ | refine need_intro ?_ ?_ | refine wk_refl ?_ | refine ord_intro (by kernel_rfl) ?_); conv => whnf) | (refine bc_intro (fun _ => ?_) (fun _ => ?_) <;> (conv => whnf))
              all_goals first | exact trivial | exact DLe.of_eq (by rw [hs]) | exact DLe.of_eq (by (try rw [hw1]); (try rw [hw2]); rw [hcs, hA, hB]; rfl) | exact DLe.refl _ | exact RowLe.refl _ _ _ | exact ⟨rfl, rfl, rfl⟩ | omega
            have h6 : (((gf.getD (0 + i) default).mem.getD 0 default).copy.out.serial != 0) = true := h5
            have h8 : (q2.1 == (RR.getD (0 + j) default).2) = false := h7
            have hB : rb i = false := by rw [hBi, h4, h6, h8]; rfl
            conv => whnf
            repeat' first | ((first | refine NextVC.mk (i + 1) ?_ ?_ ?_ | refine bc_true ‹_› ?_ | refine bc_false ‹_› ?_ | refine need_intro ?_ ?_ | refine wk_refl ?_ | refine ord_intro (by kernel_rfl) ?_); conv => whnf) | (refine bc_intro (fun _ => ?_) (fun _ => ?_) <;> (conv => whnf))
            all_goals first | exact trivial | exact DLe.of_eq (by rw [hs]) | exact DLe.of_eq (by (try rw [hw1]); (try rw [hw2]); rw [hcs, hA, hB]; rfl) | exact DLe.refl _ | exact RowLe.refl _ _ _ | exact ⟨rfl, rfl, rfl⟩ | omega
          have h6 : (((gf.getD (0 + i) default).mem.getD 0 default).copy.out.serial != 0) = false := h5
          have hB : rb i = false := by rw [hBi, h4, h6]; rfl
          conv => whnf
          repeat' first | ((first | refine NextVC.mk (i + 1) ?_ ?_ ?_ | refine bc_true ‹_› ?_ | refine bc_false ‹_› ?_ | refine need_intro ?_ ?_ | refine wk_refl ?_ | refine ord_intro (by kernel_rfl) ?_); conv => whnf) | (refine bc_intro (fun _ => ?_) (fun _ => ?_) <;> (conv => whnf))
          all_goals first | exact trivial | exact DLe.of_eq (by rw [hs]) | exact DLe.of_eq (by (try rw [hw1]); (try rw [hw2]); rw [hcs, hA, hB]; rfl) | exact DLe.refl _ | exact RowLe.refl _ _ _ | exact ⟨rfl, rfl, rfl⟩ | omega
        have hB : rb i = false := by rw [hBi, h4]; rfl
        conv => whnf
        repeat' first | ((first | refine NextVC.mk (i + 1) ?_ ?_ ?_ | refine bc_true ‹_› ?_ | refine bc_false ‹_› ?_ | refine need_intro ?_ ?_ | refine wk_refl ?_ | refine ord_intro (by kernel_rfl) ?_); conv => whnf) | (refine bc_intro (fun _ => ?_) (fun _ => ?_) <;> (conv => whnf))
        all_goals first | exact trivial | exact DLe.of_eq (by rw [hs]) | exact DLe.of_eq (by (try rw [hw1]); (try rw [hw2]); rw [hcs, hA, hB]; rfl) | exact DLe.refl _ | exact RowLe.refl _ _ _ | exact ⟨rfl, rfl, rfl⟩ | omega
      have hil' := f7 i gs0.length (by omega)
      have hone' : ((cf i : Int) != 1) = false := by rw [hil, hone]; rfl
      conv => whnf
      repeat' first | ((first | refine NextVC.mk (j + 1) ?_ ?_ ?_ | refine bc_true ‹_› ?_ | refine bc_false ‹_› ?_ | refine need_intro ?_ ?_ | refine wk_refl ?_ | refine ord_intro (by kernel_rfl) ?_); conv => whnf) | (refine bc_intro (fun _ => ?_) (fun _ => ?_) <;> (conv => whnf))
      all_goals first
        | exact trivial | omega | exact DLe.refl _ | exact RowLe.refl _ _ _ | exact DLe.of_eq (by rw [hsj]) | exact ⟨rfl, rfl, rfl⟩ | exact ⟨trivial, trivial, trivial⟩ | exact ⟨by omega, by omega⟩
        | (exfalso; simp at *; done)
    have hjl' : decide ((j : Int) < ((RR.length : Nat) : Int)) = false := decide_eq_false (by omega)
    conv => whnf
    repeat' first | ((first | refine bc_true ‹_› ?_ | refine bc_false ‹_› ?_ | refine need_intro ?_ ?_ | refine wk_refl ?_ | refine ord_intro (by kernel_rfl) ?_); conv => whnf)
    refine loop_auto [3, 4, 5, 222, 223] [4000, 5000, 2000, 500] (fun i : Nat => [(224, .d (.int .i64 i)), (17, .d (.int .i64 (rowsL (gf.take i)).length))]) (fun i => []) (fun i => i ≤ gs0.length) (fun i => gs0.length - i) 0 ?_ (fun i hi => ?_) (by omega)
    · conv => whnf
      repeat' first | ((first | refine bc_true ‹_› ?_ | refine bc_false ‹_› ?_ | refine need_intro ?_ ?_ | refine wk_refl ?_ | refine ord_intro (by kernel_rfl) ?_); conv => whnf) | (refine bc_intro (fun _ => ?_) (fun _ => ?_) <;> (conv => whnf))
      all_goals first | exact trivial | exact DLe.refl _ | exact DLe.nil | exact RowLe.refl _ _ _ | exact ⟨rfl, rfl⟩ | exact ⟨rfl, rfl, rfl⟩
    have hs := w7 i (by omega)
    have hrl := rowsL_len hwrf (by omega : i ≤ gf.length)
    refine Or.elim (Nat.lt_or_eq_of_le hi) (fun hil => ?_) (fun hil => ?_)
    · have hil' := d7 i gs0.length (by omega)
      have hn1 : 1 ≤ (gf.getD i default).mem.length := (hIf.wf i (by omega)).n1
      have hw : ((gf.getD i default).mem.getD 0 default).copy.rows.length ≤ 1024 := hwrf i (by omega)
      have ht := congrArg List.length (rowsL_take (by omega : i < gf.length))
      rw [List.length_append] at ht
      have hwl : IntKind.i64.wrap (((rowsL (gf.take i)).length : Int) + (((gf.getD i default).mem.getD 0 default).copy.rows.length : Int)) = ((rowsL (gf.take (i + 1))).length : Int) := by
        have h9 : (rowsL (gf.take (i + 1))).length = (rowsL (gf.take i)).length + ((gf.getD i default).mem.getD 0 default).copy.rows.length := ht
        rw [wrap_of (by omega) (by omega)]; omega
      conv => whnf
      repeat' first | ((first | refine NextVC.mk (i + 1) ?_ ?_ ?_ | refine bc_true ‹_› ?_ | refine bc_false ‹_› ?_ | refine need_intro ?_ ?_ | refine wk_refl ?_ | refine ord_intro (by kernel_rfl) ?_); conv => whnf) | (refine bc_intro (fun _ => ?_) (fun _ => ?_) <;> (conv => whnf))
      all_goals try simp only [Int.toNat_natCast, Int.toNat_zero, Nat.zero_add] at *
      all_goals first | exact trivial | omega | exact DLe.refl _ | exact RowLe.refl _ _ _ | exact DLe.of_eq (by rw [hs]) | exact DLe.of_eq (by rw [hwl]) | exact ⟨rfl, rfl, rfl⟩ | exact ⟨trivial, trivial, trivial⟩ | exact ⟨by omega, by omega⟩ | exact ⟨Int.le_refl 0, by omega⟩
    have hil' := f7 i gs0.length (by omega)
    have hle3 : decide (((rowsL (gf.take i)).length : Int) ≤ (RR.length : Int)) = true := decide_eq_true (by rw [List.take_of_length_le (by omega)]; omega)
    conv => whnf
    repeat' first | ((first | refine call_intro (awake27_spec) ?_ (by first | exact .inl rfl | exact .inr ⟨rfl, rfl⟩) | refine bc_true ‹_› ?_ | refine bc_false ‹_› ?_ | refine need_intro ?_ ?_ | refine wk_refl ?_ | refine ord_intro (by kernel_rfl) ?_); conv => whnf) | (refine bc_intro (fun _ => ?_) (fun _ => ?_) <;> (conv => whnf))
    all_goals first | exact ⟨LeS.refl _, trivial⟩
  conv => whnf
  repeat' first | ((first | refine bc_true ‹_› ?_ | refine bc_false ‹_› ?_ | refine need_intro ?_ ?_ | refine wk_refl ?_ | refine ord_intro (by kernel_rfl) ?_); conv => whnf)
  refine loop_auto [3, 4, 5, 106, 107] [4000, 2000, 500] (fun i : Nat => [(108, .d (.int .i64 i))]) (fun i => [(5000, .row 33 3 gs0.length (cellOf encGrp (finL gs i)))]) (fun i => i ≤ gs0.length) (fun i => gs0.length - i) 0 ?_ (fun i hi => ?_) (by omega)
  · rw [fin_zero]
    conv => whnf
    repeat' first | ((first | refine bc_true ‹_› ?_ | refine bc_false ‹_› ?_ | refine need_intro ?_ ?_ | refine wk_refl ?_ | refine ord_intro (by kernel_rfl) ?_); conv => whnf) | (refine bc_intro (fun _ => ?_) (fun _ => ?_) <;> (conv => whnf))
    all_goals first | exact trivial | exact DLe.refl _ | exact DLe.nil | exact RowLe.refl _ _ _ | exact ⟨rfl, rfl⟩ | exact ⟨rfl, rfl, rfl⟩
  have hs := w7 i (by omega)
  rcases Nat.lt_or_eq_of_le hi with hil | rfl
  · have hil' := d7 i gs0.length (by omega)
    have hg : (finL gs i).getD (0 + i) default = gs.getD i default := by rw [Nat.zero_add, fin_get (by omega), if_neg (by omega)]
    have hgb := (hI.wf i (by omega)).b
    have hst := fin_set (gs := gs) (k := i) (by omega)
    have hsm := fun h => fin_same (gs := gs) (k := i) (by omega) h
    have hfg : (recoverG (gs.getD i default)).2 = 0 → finG (gs.getD i default) = (recoverG (gs.getD i default)).1.1 := fun h => by unfold finG; rw [if_pos h]
    conv => whnf
    repeat' first | ((first | refine call_if (recoverr_spec ((finL gs i).getD (0 + i) default)) (by first | exact .inl rfl | exact .inr ⟨rfl, rfl⟩) (need_intro ?_ ?_) | refine NextVC.mk (i + 1) ?_ ?_ ?_ | refine bc_true ‹_› ?_ | refine bc_false ‹_› ?_ | refine need_intro ?_ ?_ | refine wk_refl ?_ | refine draw_intro (by kernel_rfl) ?_ | refine ord_intro (by kernel_rfl) ?_); conv => whnf) | (refine bc_intro (fun _ => ?_) (fun _ => ?_) <;> (conv => whnf))
    all_goals try simp only [Int.toNat_natCast, Int.toNat_zero, hg] at *
    all_goals try simp only [decide_eq_true_eq, decide_eq_false_iff_not, beq_iff_eq, beq_eq_false_iff_ne, ne_eq] at *
    all_goals first
      | exact trivial | assumption | omega | exact DLe.refl _ | exact RowLe.refl _ _ _ | exact DLe.of_eq (by rw [hs]) | exact ⟨rfl, rfl, rfl⟩ | exact ⟨trivial, trivial, trivial⟩ | exact ⟨by omega, by omega⟩
      | (rw [← hst, hfg (by assumption)]
         exact row_setGr rfl rfl rfl (by rw [fin_len]; omega))
      | (rw [← hsm (by assumption)]; exact RowLe.refl _ _ _)
  have hil' : decide (((gs0.length : Nat) : Int) < ((gs0.length : Nat) : Int)) = false := decide_eq_false (by omega)
  have hF := fin_inv hI hR (Nat.le_refl gs.length)
  have hOf := fin_own (by omega) hI hR
  have hfl : (finL gs gs.length).length = gs0.length := by rw [fin_len, hgl]
  rw [hgl] at hF hOf hfl
  obtain ⟨hIf, hRf⟩ := hF
  have hle2 := rows_le hT0 hIf hOf hRf hbs htop
  generalize finL gs gs0.length = gf at *
  have hRT : ∀ j, j < (rowsL gs0).length → ((rowsL gs0).getD (0 + j) default) ∈ T0 := fun j hj => by rw [Nat.zero_add]; exact (tile_all hT0 hbs htop).1 (getD_mem hj)
  generalize rowsL gs0 = RR at *
  have hwrf : ∀ i, i < gf.length → (own0 (gf.getD i default)).copy.rows.length ≤ 1024 := fun i hi => (wf_rows (hIf.wf i hi)).1
  conv => whnf
  repeat' first | ((first | refine bc_true ‹_› ?_ | refine bc_false ‹_› ?_ | refine need_intro ?_ ?_ | refine wk_refl ?_ | refine ord_intro (by kernel_rfl) ?_); conv => whnf)
  refine loop_auto [3, 4, 5, 17, 129, 130] [4000, 5000, 2000, 500] (fun j : Nat => [(131, .d (.int .i64 j))]) (fun j => []) (fun j => j ≤ RR.length) (fun j => RR.length - j) 0 ?_ (fun j hj => ?_) (by omega)
  · conv => whnf
    repeat' first | ((first | refine bc_true ‹_› ?_ | refine bc_false ‹_› ?_ | refine need_intro ?_ ?_ | refine wk_refl ?_ | refine ord_intro (by kernel_rfl) ?_); conv => whnf) | (refine bc_intro (fun _ => ?_) (fun _ => ?_) <;> (conv => whnf))
    all_goals first | exact trivial | exact DLe.refl _ | exact DLe.nil | exact RowLe.refl _ _ _ | exact ⟨rfl, rfl⟩ | exact ⟨rfl, rfl, rfl⟩
  have hsj : IntKind.i64.wrap ((j : Int) + 1) = ((j + 1 : Nat) : Int) := wrap_succ (n := 20000) (by omega) (by omega)
  refine Or.elim (Nat.lt_or_eq_of_le hj) (fun hjl => ?_) (fun hjl => ?_)
  · have hjl' : decide ((j : Int) < ((RR.length : Nat) : Int)) = true := decide_eq_true (by omega)
    have hr := hRT j hjl
    have hone := row_one1 hT0 hIf hOf hRf hr
    rw [hfl] at hone
    have hRa := rwA_is gf (RR.getD (0 + j) default)
    have hRb := rwB_is gf (RR.getD (0 + j) default)
    have hCs := fun m => cnt_succR (a := rwA gf (RR.getD (0 + j) default)) (b := rwB gf (RR.getD (0 + j) default)) (m := m)
    have hCl := fun m => cnt_le (a := rwA gf (RR.getD (0 + j) default)) (b := rwB gf (RR.getD (0 + j) default)) (m := m)
    have hC0 : cnt (rwA gf (RR.getD (0 + j) default)) (rwB gf (RR.getD (0 + j) default)) 0 = 0 := rfl
    generalize cnt (rwA gf (RR.getD (0 + j) default)) (rwB gf (RR.getD (0 + j) default)) = cf at *
    generalize rwA gf (RR.getD (0 + j) default) = ra at *
    generalize rwB gf (RR.getD (0 + j) default) = rb at *
    conv => whnf
    repeat' first | ((first | refine bc_true ‹_› ?_ | refine bc_false ‹_› ?_ | refine need_intro ?_ ?_ | refine wk_refl ?_ | refine ord_intro (by kernel_rfl) ?_); conv => whnf)
    all_goals try first | omega | exact ⟨by omega, by omega⟩
    refine loop_auto [3, 4, 5, 17, 129, 130, 131, 19, 138, 139] [4000, 5000, 2000, 500, 19] (fun i : Nat => [(140, .d (.int .i64 i)), (20, .d (.int .i64 (cf i)))]) (fun i => []) (fun i => i ≤ gs0.length) (fun i => gs0.length - i) 0 ?_ (fun i hi => ?_) (by omega)
    · rw [hC0]
      conv => whnf
      repeat' first | ((first | refine bc_true ‹_› ?_ | refine bc_false ‹_› ?_ | refine need_intro ?_ ?_ | refine wk_refl ?_ | refine ord_intro (by kernel_rfl) ?_); conv => whnf) | (refine bc_intro (fun _ => ?_) (fun _ => ?_) <;> (conv => whnf))
      all_goals first | exact trivial | exact DLe.refl _ | exact DLe.nil | exact RowLe.refl _ _ _ | exact ⟨rfl, rfl⟩ | exact ⟨rfl, rfl, rfl⟩
    have hs := w7 i (by omega)
    refine Or.elim (Nat.lt_or_eq_of_le hi) (fun hil => ?_) (fun hil => ?_)
    · have hil' := d7 i gs0.length (by omega)
      have hn1 : 1 ≤ (gf.getD (0 + i) default).mem.length := by rw [Nat.zero_add]; exact (hIf.wf i (by omega)).n1
      have hwr := wf_rows (hIf.wf (0 + i) (by omega))
      have hcl := hCl i
      have hw1 : IntKind.i64.wrap ((cf i : Int) + 1) = ((cf i + 1 : Nat) : Int) := wrap_succ (n := 2000) (by omega) (by omega)
      have hw2 : IntKind.i64.wrap (((cf i + 1 : Nat) : Int) + 1) = ((cf i + 1 + 1 : Nat) : Int) := wrap_succ (n := 2000) (by omega) (by omega)
      have hcs := hCs i
      have hAi := hRa (0 + i)
      have hBi := hRb (0 + i)
      rw [show ra (0 + i) = ra i by rw [Nat.zero_add]] at hAi
      rw [show rb (0 + i) = rb i by rw [Nat.zero_add]] at hBi
      have hget1 := getr_spec ((gf.getD (0 + i) default).mem.getD 0 default).copy.rows (RR.getD (0 + j) default).1 (Nat.le_trans hwr.1 (by decide))
      have hget2 := getr_spec ((gf.getD (0 + i) default).mem.getD 0 default).copy.out.rows (RR.getD (0 + j) default).1 (Nat.le_trans hwr.2 (by decide))
      generalize getF ((gf.getD (0 + i) default).mem.getD 0 default).copy.rows (RR.getD (0 + j) default).1 = q1 at *
      generalize getF ((gf.getD (0 + i) default).mem.getD 0 default).copy.out.rows (RR.getD (0 + j) default).1 = q2 at *
      conv => whnf
      repeat' first | ((first | refine call_intro (hget1) ?_ (by first | exact .inl rfl | exact .inr ⟨rfl, rfl⟩) | refine bc_true ‹_› ?_ | refine bc_false ‹_› ?_ | refine need_intro ?_ ?_ | refine wk_refl ?_ | refine ord_intro (by kernel_rfl) ?_); conv => whnf)
      all_goals try first | exact ⟨Int.le_refl 0, by show (0 : Int) < (((gf.getD (0 + i) default).mem.length : Nat) : Int); omega⟩ | exact ⟨by omega, by omega⟩ | omega
      refine bc_intro (fun h1 => ?_) (fun h1 => ?_)
      · conv => whnf
        repeat' first | ((first | refine bc_true ‹_› ?_ | refine bc_false ‹_› ?_ | refine need_intro ?_ ?_ | refine wk_refl ?_ | refine ord_intro (by kernel_rfl) ?_); conv => whnf)
        refine bc_intro (fun h2 => ?_) (fun h2 => ?_)
        · have h3 : (q1.1 == (RR.getD (0 + j) default).2) = true := h2
          have hA : ra i = true := by rw [hAi, h1, h3]; rfl
          conv => whnf
          repeat' first | ((first | refine call_intro (hget2) ?_ (by first | exact .inl rfl | exact .inr ⟨rfl, rfl⟩) | refine bc_true ‹_› ?_ | refine bc_false ‹_› ?_ | refine need_intro ?_ ?_ | refine wk_refl ?_ | refine ord_intro (by kernel_rfl) ?_); conv => whnf)
          refine bc_intro (fun h4 => ?_) (fun h4 => ?_)
          · conv => whnf
            repeat' first | ((first | refine bc_true ‹_› ?_ | refine bc_false ‹_› ?_ | refine need_intro ?_ ?_ | refine wk_refl ?_ | refine ord_intro (by kernel_rfl) ?_); conv => whnf)
            refine bc_intro (fun h5 => ?_) (fun h5 => ?_)
            · conv => whnf
              repeat' first | ((first | refine bc_true ‹_› ?_ | refine bc_false ‹_› ?_ | refine need_intro ?_ ?_ | refine wk_refl ?_ | refine ord_intro (by kernel_rfl) ?_); conv => whnf)
              refine bc_intro (fun h7 => ?_) (fun h7 => ?_)
              · have h6 : (((gf.getD (0 + i) default).mem.getD 0 default).copy.out.serial != 0) = true := h5
                have h8 : (q2.1 == (RR.getD (0 + j) default).2) = true := h7
                conv => whnf
                repeat' first | ((first | refine bc_true ‹_› ?_ | refine bc_false ‹_› ?_ | refine need_intro ?_ ?_ | refine wk_refl ?_ | refine ord_intro (by kernel_rfl) ?_); conv => whnf)
                refine loop_auto [3, 4, 5, 17, 129, 130, 131, 19, 138, 139, 140, 20, 23, 191, 192] [4000, 5000, 2000, 500, 19, 23] (fun m : Nat => [(193, .d (.int .i64 m)), (28, .d (.bool ((gf.take m).any (tkS ((gf.getD (0 + i) default).mem.getD 0 default).copy.out.serial))))]) (fun m => []) (fun m => m ≤ gs0.length) (fun m => gs0.length - m) 0 ?_ (fun m hm => ?_) (by omega)
                · conv => whnf
                  repeat' first | ((first | refine bc_true ‹_› ?_ | refine bc_false ‹_› ?_ | refine need_intro ?_ ?_ | refine wk_refl ?_ | refine ord_intro (by kernel_rfl) ?_); conv => whnf) | (refine bc_intro (fun _ => ?_) (fun _ => ?_) <;> (conv => whnf))
                  all_goals first | exact trivial | exact DLe.refl _ | exact DLe.nil | exact RowLe.refl _ _ _ | exact ⟨rfl, rfl⟩ | exact ⟨rfl, rfl, rfl⟩
                refine Or.elim (Nat.lt_or_eq_of_le hm) (fun hml => ?_) (fun hml => ?_)
                · have hml' := d7 m gs0.length (by omega)
                  have hsm := w7 m (by omega)
                  have hnm : 1 ≤ (gf.getD (0 + m) default).mem.length := by rw [Nat.zero_add]; exact (hIf.wf m (by omega)).n1
                  have hat := t7 ((gf.getD (0 + i) default).mem.getD 0 default).copy.out.serial (by omega : m < gf.length)
                  conv => whnf
                  repeat' first | ((first | refine NextVC.mk (m + 1) ?_ ?_ ?_ | refine bc_true ‹_› ?_ | refine bc_false ‹_› ?_ | refine need_intro ?_ ?_ | refine wk_refl ?_ | refine draw_intro (by kernel_rfl) ?_ | refine ord_intro (by kernel_rfl) ?_); conv => whnf) | (refine bc_intro (fun _ => ?_) (fun _ => ?_) <;> (conv => whnf))
                  all_goals first
                    | exact trivial | exact DLe.of_eq (by rw [hsm]) | exact DLe.refl _ | exact RowLe.refl _ _ _ | exact ⟨rfl, rfl, rfl⟩ | exact ⟨trivial, trivial, trivial⟩ | omega | exact ⟨by omega, by omega⟩ | exact ⟨Int.le_refl 0, by show (0 : Int) < (((gf.getD (0 + m) default).mem.length : Nat) : Int); omega⟩
                    | (refine DLe.of_eq (congrArg D.bool ?_)
                       rw [hat, show (gf.take m).any (tkS ((gf.getD (0 + i) default).mem.getD 0 default).copy.out.serial) = true from by assumption]
                       rfl)
                    | (refine DLe.of_eq (congrArg D.bool ?_)
                       rw [hat, show (gf.take m).any (tkS ((gf.getD (0 + i) default).mem.getD 0 default).copy.out.serial) = false from by assumption, Bool.false_or]
                       rfl)
                have hml' := f7 m gs0.length (by omega)
                have htk : gf.take m = gf := List.take_of_length_le (by omega)
                conv => whnf
                repeat' first | ((first | refine bc_true ‹_› ?_ | refine bc_false ‹_› ?_ | refine need_intro ?_ ?_ | refine wk_refl ?_ | refine ord_intro (by kernel_rfl) ?_); conv => whnf)
                refine bc_intro (fun h9 => ?_) (fun h9 => ?_)
                · have hB : rb i = true := by rw [htk] at h9; rw [hBi, h4, h6, h8, h9]; rfl
                  conv => whnf
                  repeat' first | ((first | refine NextVC.mk (i + 1) ?_ ?_ ?_ | refine bc_true ‹_› ?_ | refine bc_false ‹_› ?_ | refine need_intro ?_ ?_ | refine wk_refl ?_ | refine ord_intro (by kernel_rfl) ?_); conv => whnf) | (refine bc_intro (fun _ => ?_) (fun _ => ?_) <;> (conv => whnf))
                  all_goals first | exact trivial | exact DLe.of_eq (by rw [hs]) | exact DLe.of_eq (by (try rw [hw1]); (try rw [hw2]); rw [hcs, hA, hB]; rfl) | exact DLe.refl _ | exact RowLe.refl _ _ _ | exact ⟨rfl, rfl, rfl⟩ | omega
                have hB : rb i = false := by rw [htk] at h9; rw [hBi, h9]; simp only [Bool.and_false]
                conv => whnf
                repeat' first | ((first | refine NextVC.mk (i + 1) ?_ ?_ ?_ | refine bc_true ‹_› ?_ | refine bc_false ‹_› ?_ | refine need_intro ?_ ?_ | refine wk_refl ?_ | refine ord_intro (by kernel_rfl) ?_); conv => whnf) | (refine bc_intro (fun _ => ?_) (fun _ => ?_) <;> (conv => whnf))
                all_goals first | exact trivial | exact DLe.of_eq (by rw [hs]) | exact DLe.of_eq (by (try rw [hw1]); (try rw [hw2]); rw [hcs, hA, hB]; rfl) | exact DLe.refl _ | exact RowLe.refl _ _ _ | exact ⟨rfl, rfl, rfl⟩ | omega
              have h6 : (((gf.getD (0 + i) default).mem.getD 0 default).copy.out.serial != 0) = true := h5
              have h8 : (q2.1 == (RR.getD (0 + j) default).2) = false := h7
              have hB : rb i = false := by rw [hBi, h4, h6, h8]; rfl
              conv => whnf
              repeat' first | ((first | refine NextVC.mk (i + 1) ?_ ?_ ?_ | refine bc_true ‹_› ?_ | refine bc_false ‹_› ?_ | refine need_intro ?_ ?_ | refine wk_refl ?_ | refine ord_intro (by kernel_rfl) ?_); conv => whnf) | (refine bc_intro (fun _ => ?_) (fun _ => ?_) <;> (conv => whnf))
              all_goals first | exact trivial | exact DLe.of_eq (by rw [hs]) | exact DLe.of_eq (by (try rw [hw1]); (try rw [hw2]); rw [hcs, hA, hB]; rfl) | exact DLe.refl _ | exact RowLe.refl _ _ _ | exact ⟨rfl, rfl, rfl⟩ | omega
            have h6 : (((gf.getD (0 + i) default).mem.getD 0 default).copy.out.serial != 0) = false := h5
            have hB : rb i = false := by rw [hBi, h4, h6]; rfl
            conv => whnf
            repeat' first | ((first | refine NextVC.mk (i + 1) ?_ ?_ ?_ | refine bc_true ‹_› ?_ | refine bc_false ‹_› ?_ | refine need_intro ?_ ?_ | refine wk_refl ?_ | refine ord_intro (by kernel_rfl) ?_); conv => whnf) | (refine bc_intro (fun _ => ?_) (fun _ => ?_) <;> (conv => whnf))
            all_goals first | exact trivial | exact DLe.of_eq (by rw [hs]) | exact DLe.of_eq (by (try rw [hw1]); (try rw [hw2]); rw [hcs, hA, hB]; rfl) | exact DLe.refl _ | exact RowLe.refl _ _ _ | exact ⟨rfl, rfl, rfl⟩ | omega
          have hB : rb i = false := by rw [hBi, h4]; rfl
          conv => whnf
          repeat' first | ((first | refine NextVC.mk (i + 1) ?_ ?_ ?_ | refine bc_true ‹_› ?_ | refine bc_false ‹_› ?_ | refine need_intro ?_ ?_ | refine wk_refl ?_ | refine ord_intro (by kernel_rfl) ?_); conv => whnf) | (refine bc_intro (fun _ => ?_) (fun _ => ?_) <;> (conv => whnf))
          all_goals first | exact trivial | exact DLe.of_eq (by rw [hs]) | exact DLe.of_eq (by (try rw [hw1]); (try rw [hw2]); rw [hcs, hA, hB]; rfl) | exact DLe.refl _ | exact RowLe.refl _ _ _ | exact ⟨rfl, rfl, rfl⟩ | omega
        have h3 : (q1.1 == (RR.getD (0 + j) default).2) = false := h2
        have hA : ra i = false := by rw [hAi, h1, h3]; rfl
        conv => whnf
        repeat' first | ((first | refine call_intro (hget2) ?_ (by first | exact .inl rfl | exact .inr ⟨rfl, rfl⟩) | refine bc_true ‹_› ?_ | refine bc_false ‹_› ?_ | refine need_intro ?_ ?_ | refine wk_refl ?_ | refine ord_intro (by kernel_rfl) ?_); conv => whnf)
        refine bc_intro (fun h4 => ?_) (fun h4 => ?_)
        · conv => whnf
          repeat' first | ((first | refine bc_true ‹_› ?_ | refine bc_false ‹_› ?_ | refine need_intro ?_ ?_ | refine wk_refl ?_ | refine ord_intro (by kernel_rfl) ?_); conv => whnf)
          refine bc_intro (fun h5 => ?_) (fun h5 => ?_)
          · conv => whnf
            repeat' first | ((first | refine bc_true ‹_› ?_ | refine bc_false ‹_› ?_ | refine need_intro ?_ ?_ | refine wk_refl ?_ | refine ord_intro (by kernel_rfl) ?_); conv => whnf)
            refine bc_intro (fun h7 => ?_) (fun h7 => ?_)
            · have h6 : (((gf.getD (0 + i) default).mem.getD 0 default).copy.out.serial != 0) = true := h5
              have h8 : (q2.1 == (RR.getD (0 + j) default).2) = true := h7
              conv => whnf
              repeat' first | ((first | refine bc_true ‹_› ?_ | refine bc_false ‹_› ?_ | refine need_intro ?_ ?_ | refine wk_refl ?_ | refine ord_intro (by kernel_rfl) ?_); conv => whnf)
              refine loop_auto [3, 4, 5, 17, 129, 130, 131, 19, 138, 139, 140, 20, 23, 191, 192] [4000, 5000, 2000, 500, 19, 23] (fun m : Nat => [(193, .d (.int .i64 m)), (28, .d (.bool ((gf.take m).any (tkS ((gf.getD (0 + i) default).mem.getD 0 default).copy.out.serial))))]) (fun m => []) (fun m => m ≤ gs0.length) (fun m => gs0.length - m) 0 ?_ (fun m hm => ?_) (by omega)
              · conv => whnf
                repeat' first | ((first | refine bc_true ‹_› ?_ | refine bc_false ‹_› ?_ | refine need_intro ?_ ?_ | refine wk_refl ?_ | refine ord_intro (by kernel_rfl) ?_); conv => whnf) | (refine bc_intro (fun _ => ?_) (fun _ => ?_) <;> (conv => whnf))
                all_goals first | exact trivial | exact DLe.refl _ | exact DLe.nil | exact RowLe.refl _ _ _ | exact ⟨rfl, rfl⟩ | exact ⟨rfl, rfl, rfl⟩
              refine Or.elim (Nat.lt_or_eq_of_le hm) (fun hml => ?_) (fun hml => ?_)
              · have hml' := d7 m gs0.length (by omega)
                have hsm := w7 m (by omega)
                have hnm : 1 ≤ (gf.getD (0 + m) default).mem.length := by rw [Nat.zero_add]; exact (hIf.wf m (by omega)).n1
                have hat := t7 ((gf.getD (0 + i) default).mem.getD 0 default).copy.out.serial (by omega : m < gf.length)
                conv => whnf
                repeat' first | ((first | refine NextVC.mk (m + 1) ?_ ?_ ?_ | refine bc_true ‹_› ?_ | refine bc_false ‹_› ?_ | refine need_intro ?_ ?_ | refine wk_refl ?_ | refine draw_intro (by kernel_rfl) ?_ | refine ord_intro (by kernel_rfl) ?_); conv => whnf) | (refine bc_intro (fun _ => ?_) (fun _ => ?_) <;> (conv => whnf))
                all_goals first
                  | exact trivial | exact DLe.of_eq (by rw [hsm]) | exact DLe.refl _ | exact RowLe.refl _ _ _ | exact ⟨rfl, rfl, rfl⟩ | exact ⟨trivial, trivial, trivial⟩ | omega | exact ⟨by omega, by omega⟩ | exact ⟨Int.le_refl 0, by show (0 : Int) < (((gf.getD (0 + m) default).mem.length : Nat) : Int); omega⟩
                  | (refine DLe.of_eq (congrArg D.bool ?_)
                     rw [hat, show (gf.take m).any (tkS ((gf.getD (0 + i) default).mem.getD 0 default).copy.out.serial) = true from by assumption]
                     rfl)
                  | (refine DLe.of_eq (congrArg D.bool ?_)
                     rw [hat, show (gf.take m).any (tkS ((gf.getD (0 + i) default).mem.getD 0 default).copy.out.serial) = false from by assumption, Bool.false_or]
                     rfl)
              have hml' := f7 m gs0.length (by omega)
              have htk : gf.take m = gf := List.take_of_length_le (by omega)
              conv => whnf
              repeat' first | ((first | refine bc_true ‹_› ?_ | refine bc_false ‹_› ?_ | refine need_intro ?_ ?_ | refine wk_refl ?_ | refine ord_intro (by kernel_rfl) ?_); conv => whnf)
              refine bc_intro (fun h9 => ?_) (fun h9 => ?_)
              · have hB : rb i = true := by rw [htk] at h9; rw [hBi, h4, h6, h8, h9]; rfl
                conv => whnf
                repeat' first | ((first | refine NextVC.mk (i + 1) ?_ ?_ ?_ | refine bc_true ‹_› ?_ | refine bc_false ‹_› ?_ | refine need_intro ?_ ?_ | refine wk_refl ?_ | refine ord_intro (by kernel_rfl) ?_); conv => whnf) | (refine bc_intro (fun _ => ?_) (fun _ => ?_) <;> (conv => whnf))
                all_goals first | exact trivial | exact DLe.of_eq (by rw [hs]) | exact DLe.of_eq (by (try rw [hw1]); (try rw [hw2]); rw [hcs, hA, hB]; rfl) | exact DLe.refl _ | exact RowLe.refl _ _ _ | exact ⟨rfl, rfl, rfl⟩ | omega
              have hB : rb i = false := by rw [htk] at h9; rw [hBi, h9]; simp only [Bool.and_false]
              conv => whnf
              repeat' first | ((first | refine NextVC.mk (i + 1) ?_ ?_ ?_ | refine bc_true ‹_› ?_ | refine bc_false ‹_› ?_ | refine need_intro ?_ ?_ | refine wk_refl ?_ | refine ord_intro (by kernel_rfl) ?_); conv => whnf) | (refine bc_intro (fun _ => ?_) (fun _ => ?_) <;> (conv => whnf))
              all_goals first | exact trivial | exact DLe.of_eq (by rw [hs]) | exact DLe.of_eq (by (try rw [hw1]); (try rw [hw2]); rw [hcs, hA, hB]; rfl) | exact DLe.refl _ | exact RowLe.refl _ _ _ | exact ⟨rfl, rfl, rfl⟩ | omega
            have h6 : (((gf.getD (0 + i) default).mem.getD 0 default).copy.out.serial != 0) = true := h5
            have h8 : (q2.1 == (RR.getD (0 + j) default).2) = false := h7
            have hB : rb i = false := by rw [hBi, h4, h6, h8]; rfl
            conv => whnf
            repeat' first | ((first | refine NextVC.mk (i + 1) ?_ ?_ ?_ | refine bc_true ‹_› ?_ | refine bc_false ‹_› ?_ | refine need_intro ?_ ?_ | refine wk_refl ?_ | refine ord_intro (by kernel_rfl) ?_); conv => whnf) | (refine bc_intro (fun _ => ?_) (fun _ => ?_) <;> (conv => whnf))
            all_goals first | exact trivial | exact DLe.of_eq (by rw [hs]) | exact DLe.of_eq (by (try rw [hw1]); (try rw [hw2]); rw [hcs, hA, hB]; rfl) | exact DLe.refl _ | exact RowLe.refl _ _ _ | exact ⟨rfl, rfl, rfl⟩ | omega
          have h6 : (((gf.getD (0 + i) default).mem.getD 0 default).copy.out.serial != 0) = false := h5
          have hB : rb i = false := by rw [hBi, h4, h6]; rfl
          conv => whnf
          repeat' first | ((first | refine NextVC.mk (i + 1) ?_ ?_ ?_ | refine bc_true ‹_› ?_ | refine bc_false ‹_› ?_ | refine need_intro ?_ ?_ | refine wk_refl ?_ | refine ord_intro (by kernel_rfl) ?_); conv => whnf) | (refine bc_intro (fun _ => ?_) (fun _ => ?_) <;> (conv => whnf))
          all_goals first | exact trivial | exact DLe.of_eq (by rw [hs]) | exact DLe.of_eq (by (try rw [hw1]); (try rw [hw2]); rw [hcs, hA, hB]; rfl) | exact DLe.refl _ | exact RowLe.refl _ _ _ | exact ⟨rfl, rfl, rfl⟩ | omega
        have hB : rb i = false := by rw [hBi, h4]; rfl
        conv => whnf
        repeat' first | ((first | refine NextVC.mk (i + 1) ?_ ?_ ?_ | refine bc_true ‹_› ?_ | refine bc_false ‹_› ?_ | refine need_intro ?_ ?_ | refine wk_refl ?_ | refine ord_intro (by kernel_rfl) ?_); conv => whnf) | (refine bc_intro (fun _ => ?_) (fun _ => ?_) <;> (conv => whnf))
        all_goals first | exact trivial | exact DLe.of_eq (by rw [hs]) | exact DLe.of_eq (by (try rw [hw1]); (try rw [hw2]); rw [hcs, hA, hB]; rfl) | exact DLe.refl _ | exact RowLe.refl _ _ _ | exact ⟨rfl, rfl, rfl⟩ | omega
      have hA : ra i = false := by rw [hAi, h1]; rfl
      conv => whnf
      repeat' first | ((first | refine call_intro (hget2) ?_ (by first | exact .inl rfl | exact .inr ⟨rfl, rfl⟩) | refine bc_true ‹_› ?_ | refine bc_false ‹_› ?_ | refine need_intro ?_ ?_ | refine wk_refl ?_ | refine ord_intro (by kernel_rfl) ?_); conv => whnf)
      refine bc_intro (fun h4 => ?_) (fun h4 => ?_)
      · conv => whnf
        repeat' first | ((first | refine bc_true ‹_› ?_ | refine bc_false ‹_› ?_ | refine need_intro ?_ ?_ | refine wk_refl ?_ | refine ord_intro (by kernel_rfl) ?_); conv => whnf)
        refine bc_intro (fun h5 => ?_) (fun h5 => ?_)
        · conv => whnf
          repeat' first | ((first | refine bc_true ‹_› ?_ | refine bc_false ‹_› ?_ | refine need_intro ?_ ?_ | refine wk_refl ?_ | refine ord_intro (by kernel_rfl) ?_); conv => whnf)
          refine bc_intro (fun h7 => ?_) (fun h7 => ?_)
          · have h6 : (((gf.getD (0 + i) default).mem.getD 0 default).copy.out.serial != 0) = true := h5
            have h8 : (q2.1 == (RR.getD (0 + j) default).2) = true := h7
            conv => whnf
            repeat' first | ((first | refine bc_true ‹_› ?_ | refine bc_false ‹_› ?_ | refine need_intro ?_ ?_ | refine wk_refl ?_ | refine ord_intro (by kernel_rfl) ?_); conv => whnf)
            refine loop_auto [3, 4, 5, 17, 129, 130, 131, 19, 138, 139, 140, 20, 23, 191, 192] [4000, 5000, 2000, 500, 19, 23] (fun m : Nat => [(193, .d (.int .i64 m)), (28, .d (.bool ((gf.take m).any (tkS ((gf.getD (0 + i) default).mem.getD 0 default).copy.out.serial))))]) (fun m => []) (fun m => m ≤ gs0.length) (fun m => gs0.length - m) 0 ?_ (fun m hm => ?_) (by omega)
            · conv => whnf
              repeat' first | ((first | refine bc_true ‹_› ?_ | refine bc_false ‹_› ?_ | refine need_intro ?_ ?_ | refine wk_refl ?_ | refine ord_intro (by kernel_rfl) ?_); conv => whnf) | (refine bc_intro (fun _ => ?_) (fun _ => ?_) <;> (conv => whnf))
              all_goals first | exact trivial | exact DLe.refl _ | exact DLe.nil | exact RowLe.refl _ _ _ | exact ⟨rfl, rfl⟩ | exact ⟨rfl, rfl, rfl⟩
            refine Or.elim (Nat.lt_or_eq_of_le hm) (fun hml => ?_) (fun hml => ?_)
            · have hml' := d7 m gs0.length (by omega)
              have hsm := w7 m (by omega)
              have hnm : 1 ≤ (gf.getD (0 + m) default).mem.length := by rw [Nat.zero_add]; exact (hIf.wf m (by omega)).n1
              have hat := t7 ((gf.getD (0 + i) default).mem.getD 0 default).copy.out.serial (by omega : m < gf.length)
              conv => whnf
              repeat' first | ((first | refine NextVC.mk (m + 1) ?_ ?_ ?_ | refine bc_true ‹_› ?_ | refine bc_false ‹_› ?_ | refine need_intro ?_ ?_ | refine wk_refl ?_ | refine draw_intro (by kernel_rfl) ?_ | refine ord_intro (by kernel_rfl) ?_); conv => whnf) | (refine bc_intro (fun _ => ?_) (fun _ => ?_) <;> (conv => whnf))
              all_goals first
                | exact trivial | exact DLe.of_eq (by rw [hsm]) | exact DLe.refl _ | exact RowLe.refl _ _ _ | exact ⟨rfl, rfl, rfl⟩ | exact ⟨trivial, trivial, trivial⟩ | omega | exact ⟨by omega, by omega⟩ | exact ⟨Int.le_refl 0, by show (0 : Int) < (((gf.getD (0 + m) default).mem.length : Nat) : Int); omega⟩
                | (refine DLe.of_eq (congrArg D.bool ?_)
                   rw [hat, show (gf.take m).any (tkS ((gf.getD (0 + i) default).mem.getD 0 default).copy.out.serial) = true from by assumption]
                   rfl)
                | (refine DLe.of_eq (congrArg D.bool ?_)
                   rw [hat, show (gf.take m).any (tkS ((gf.getD (0 + i) default).mem.getD 0 default).copy.out.serial) = false from by assumption, Bool.false_or]
                   rfl)
            have hml' := f7 m gs0.length (by omega)
            have htk : gf.take m = gf := List.take_of_length_le (by omega)
            conv => whnf
            repeat' first | ((first | refine bc_true ‹_› ?_ | refine bc_false ‹_› ?_ | refine need_intro ?_ ?_ | refine wk_refl ?_ | refine ord_intro (by kernel_rfl) ?_); conv => whnf)
            refine bc_intro (fun h9 => ?_) (fun h9 => ?_)
            · have hB : rb i = true := by rw [htk] at h9; rw [hBi, h4, h6, h8, h9]; rfl
              conv => whnf
              repeat' first | ((first | refine NextVC.mk (i + 1) ?_ ?_ ?_ | refine bc_true ‹_› ?_ | refine bc_false ‹_› ?_ | refine need_intro ?_ ?_ | refine wk_refl ?_ | refine ord_intro (by kernel_rfl) ?_); conv => whnf) | (refine bc_intro (fun _ => ?_) (fun _ => ?_) <;> (conv => whnf))
              all_goals first | exact trivial | exact DLe.of_eq (by rw [hs]) | exact DLe.of_eq (by (try rw [hw1]); (try rw [hw2]); rw [hcs, hA, hB]; rfl) | exact DLe.refl _ | exact RowLe.refl _ _ _ | exact ⟨rfl, rfl, rfl⟩ | omega
            have hB : rb i = false := by rw [htk] at h9; rw [hBi, h9]; simp only [Bool.and_false]
            conv => whnf
            repeat' first | ((first | refine NextVC.mk (i + 1) ?_ ?_ ?_ | refine bc_true ‹_› ?_ | refine bc_false ‹_› ?_ | refine need_intro ?_ ?_ | refine wk_refl ?_ | refine ord_intro (by kernel_rfl) ?_); conv => whnf) | (refine bc_intro (fun _ => ?_) (fun _ => ?_) <;> (conv => whnf))
            all_goals first | exact trivial | exact DLe.of_eq (by rw [hs]) | exact DLe.of_eq (by (try rw [hw1]); (try rw [hw2]); rw [hcs, hA, hB]; rfl) | exact DLe.refl _ | exact RowLe.refl _ _ _ | exact ⟨rfl, rfl, rfl⟩ | omega
          have h6 : (((gf.getD (0 + i) default).mem.getD 0 default).copy.out.serial != 0) = true := h5
          have h8 : (q2.1 == (RR.getD (0 + j) default).2) = false := h7
          have hB : rb i = false := by rw [hBi, h4, h6, h8]; rfl
          conv => whnf
          repeat' first | ((first | refine NextVC.mk (i + 1) ?_ ?_ ?_ | refine bc_true ‹_› ?_ | refine bc_false ‹_› ?_ | refine need_intro ?_ ?_ | refine wk_refl ?_ | refine ord_intro (by kernel_rfl) ?_); conv => whnf) | (refine bc_intro (fun _ => ?_) (fun _ => ?_) <;> (conv => whnf))
          all_goals first | exact trivial | exact DLe.of_eq (by rw [hs]) | exact DLe.of_eq (by (try rw [hw1]); (try rw [hw2]); rw [hcs, hA, hB]; rfl) | exact DLe.refl _ | exact RowLe.refl _ _ _ | exact ⟨rfl, rfl, rfl⟩ | omega
        have h6 : (((gf.getD (0 + i) default).mem.getD 0 default).copy.out.serial != 0) = false := h5
        have hB : rb i = false := by rw [hBi, h4, h6]; rfl
        conv => whnf
        repeat' first | ((first | refine NextVC.mk (i + 1) ?_ ?_ ?_ | refine bc_true ‹_› ?_ | refine bc_false ‹_› ?_ | refine need_intro ?_ ?_ | refine wk_refl ?_ | refine ord_intro (by kernel_rfl) ?_); conv => whnf) | (refine bc_intro (fun _ => ?_) (fun _ => ?_) <;> (conv => whnf))
        all_goals first | exact trivial | exact DLe.of_eq (by rw [hs]) | exact DLe.of_eq (by (try rw [hw1]); (try rw [hw2]); rw [hcs, hA, hB]; rfl) | exact DLe.refl _ | exact RowLe.refl _ _ _ | exact ⟨rfl, rfl, rfl⟩ | omega
      have hB : rb i = false := by rw [hBi, h4]; rfl
      conv => whnf
      repeat' first | ((first | refine NextVC.mk (i + 1) ?_ ?_ ?_ | refine bc_true ‹_› ?_ | refine bc_false ‹_› ?_ | refine need_intro ?_ ?_ | refine wk_refl ?_ | refine ord_intro (by kernel_rfl) ?_); conv => whnf) | (refine bc_intro (fun _ => ?_) (fun _ => ?_) <;> (conv => whnf))
      all_goals first | exact trivial | exact DLe.of_eq (by rw [hs]) | exact DLe.of_eq (by (try rw [hw1]); (try rw [hw2]); rw [hcs, hA, hB]; rfl) | exact DLe.refl _ | exact RowLe.refl _ _ _ | exact ⟨rfl, rfl, rfl⟩ | omega
    have hil' := f7 i gs0.length (by omega)
    have hone' : ((cf i : Int) != 1) = false := by rw [hil, hone]; rfl
    conv => whnf
    repeat' first | ((first | refine NextVC.mk (j + 1) ?_ ?_ ?_ | refine bc_true ‹_› ?_ | refine bc_false ‹_› ?_ | refine need_intro ?_ ?_ | refine wk_refl ?_ | refine ord_intro (by kernel_rfl) ?_); conv => whnf) | (refine bc_intro (fun _ => ?_) (fun _ => ?_) <;> (conv => whnf))
    all_goals first
      | exact trivial | omega | exact DLe.refl _ | exact RowLe.refl _ _ _ | exact DLe.of_eq (by rw [hsj]) | exact ⟨rfl, rfl, rfl⟩ | exact ⟨trivial, trivial, trivial⟩ | exact ⟨by omega, by omega⟩
      | (exfalso; simp at *; done)
  have hjl' : decide ((j : Int) < ((RR.length : Nat) : Int)) = false := decide_eq_false (by omega)
  conv => whnf
  repeat' first | ((first | refine bc_true ‹_› ?_ | refine bc_false ‹_› ?_ | refine need_intro ?_ ?_ | refine wk_refl ?_ | refine ord_intro (by kernel_rfl) ?_); conv => whnf)
  refine loop_auto [3, 4, 5, 222, 223] [4000, 5000, 2000, 500] (fun i : Nat => [(224, .d (.int .i64 i)), (17, .d (.int .i64 (rowsL (gf.take i)).length))]) (fun i => []) (fun i => i ≤ gs0.length) (fun i => gs0.length - i) 0 ?_ (fun i hi => ?_) (by omega)
  · conv => whnf
    repeat' first | ((first | refine bc_true ‹_› ?_ | refine bc_false ‹_› ?_ | refine need_intro ?_ ?_ | refine wk_refl ?_ | refine ord_intro (by kernel_rfl) ?_); conv => whnf) | (refine bc_intro (fun _ => ?_) (fun _ => ?_) <;> (conv => whnf))
    all_goals first | exact trivial | exact DLe.refl _ | exact DLe.nil | exact RowLe.refl _ _ _ | exact ⟨rfl, rfl⟩ | exact ⟨rfl, rfl, rfl⟩
  have hs := w7 i (by omega)
  have hrl := rowsL_len hwrf (by omega : i ≤ gf.length)
  refine Or.elim (Nat.lt_or_eq_of_le hi) (fun hil => ?_) (fun hil => ?_)
  · have hil' := d7 i gs0.length (by omega)
    have hn1 : 1 ≤ (gf.getD i default).mem.length := (hIf.wf i (by omega)).n1
    have hw : ((gf.getD i default).mem.getD 0 default).copy.rows.length ≤ 1024 := hwrf i (by omega)
    have ht := congrArg List.length (rowsL_take (by omega : i < gf.length))
    rw [List.length_append] at ht
    have hwl : IntKind.i64.wrap (((rowsL (gf.take i)).length : Int) + (((gf.getD i default).mem.getD 0 default).copy.rows.length : Int)) = ((rowsL (gf.take (i + 1))).length : Int) := by
      have h9 : (rowsL (gf.take (i + 1))).length = (rowsL (gf.take i)).length + ((gf.getD i default).mem.getD 0 default).copy.rows.length := ht
      rw [wrap_of (by omega) (by omega)]; omega
    conv => whnf
    repeat' first | ((first | refine NextVC.mk (i + 1) ?_ ?_ ?_ | refine bc_true ‹_› ?_ | refine bc_false ‹_› ?_ | refine need_intro ?_ ?_ | refine wk_refl ?_ | refine ord_intro (by kernel_rfl) ?_); conv => whnf) | (refine bc_intro (fun _ => ?_) (fun _ => ?_) <;> (conv => whnf))
    all_goals try simp only [Int.toNat_natCast, Int.toNat_zero, Nat.zero_add] at *
    all_goals first | exact trivial | omega | exact DLe.refl _ | exact RowLe.refl _ _ _ | exact DLe.of_eq (by rw [hs]) | exact DLe.of_eq (by rw [hwl]) | exact ⟨rfl, rfl, rfl⟩ | exact ⟨trivial, trivial, trivial⟩ | exact ⟨by omega, by omega⟩ | exact ⟨Int.le_refl 0, by omega⟩
  have hil' := f7 i gs0.length (by omega)
  have hle3 : decide (((rowsL (gf.take i)).length : Int) ≤ (RR.length : Int)) = true := decide_eq_true (by rw [List.take_of_length_le (by omega)]; omega)
  conv => whnf
  repeat' first | ((first | refine call_intro (awake27_spec) ?_ (by first | exact .inl rfl | exact .inr ⟨rfl, rfl⟩) | refine bc_true ‹_› ?_ | refine bc_false ‹_› ?_ | refine need_intro ?_ ?_ | refine wk_refl ?_ | refine ord_intro (by kernel_rfl) ?_); conv => whnf) | (refine bc_intro (fun _ => ?_) (fun _ => ?_) <;> (conv => whnf))
  all_goals first | exact ⟨LeS.refl _, trivial⟩
theorem handoverRows_all (dss : List (List D)) (h : All2 (wfT Tryz.prog reachBytes 12) [22] dss) : Sx.Spec Tryz.prog GG 8 (svs Tryz.prog [22] dss) [] (.d (.bool true)) [] := by
  obtain ⟨x, rfl, hx⟩ := inv1 h
  obtain ⟨l, h1, h2, h3⟩ := ints_arg hx
  obtain ⟨_, _, rfl, _⟩ := hx
  exact (handoverRows_law l h1).arg h2
end Go.Proofs.YtapddnfjngfloaaGreatDoor
