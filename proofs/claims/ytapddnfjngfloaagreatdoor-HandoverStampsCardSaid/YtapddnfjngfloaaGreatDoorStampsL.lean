/- Contracts of functions that the law reaches: YtapddnfjngfloaaGreatDoorStampsL. Written for this claim. -/
import Derived.Test.YtapddnfjngfloaaGreatDoorNtx
import Derived.Test.YtapddnfjngfloaaGreatDoorLay
namespace Go.Proofs.YtapddnfjngfloaaGreatDoor
open Go Go.Sx Go.ChangeShapes Go.WideShapes Go.ChangeAt Go.WideMaps Go.WideElems Go.RowKit
set_option linter.unusedVariables false
set_option linter.unusedSimpArgs false
set_option maxRecDepth 100000
theorem cmpSr_spec (ae av be bv : Int) : Sx.Spec Tryz.prog GG 19 [.agg [.d (.int .i64 ae), .d (.int .i64 av)], .agg [.d (.int .i64 be), .d (.int .i64 bv)]] [] (.d (.int .i64 (cmpS ae av be bv))) [] := by
  refine spec_intro (E := EE) (fn := Tryz.f19) eok (by kernel_rfl) (by kernel_rfl) Tryz.call19 (by kernel_rfl) (by kernel_rfl) ?_
  conv => whnf
  repeat' first
    | (refine bc_true (by assumption) ?_; (conv => whnf))
    | (refine bc_false (by assumption) ?_; (conv => whnf))
    | (refine bc_intro (fun _ => ?_) (fun _ => ?_) <;> (conv => whnf))
    | (refine need_intro ?_ ?_; (conv => whnf))
    | (refine wk_refl ?_; (conv => whnf))
    | (refine draw_intro (by kernel_rfl) ?_; (conv => whnf))
    | (refine ord_intro (by kernel_rfl) ?_; (conv => whnf))
  all_goals try simp only [decide_eq_true_eq, decide_eq_false_iff_not, Bool.and_eq_true, Bool.and_eq_false_iff, beq_iff_eq, beq_eq_false_iff_ne, ne_eq] at *
  all_goals first
    | (refine ⟨LeS.of_eq ?_, trivial⟩
       unfold cmpS
       rw [if_pos (by omega)]
       done)
    | (refine ⟨LeS.of_eq ?_, trivial⟩
       unfold cmpS
       rw [if_neg (by omega), if_pos (by omega)]
       done)
    | (refine ⟨LeS.of_eq ?_, trivial⟩
       unfold cmpS
       rw [if_neg (by omega), if_neg (by omega)]
       done)
    | trace_state
theorem view_rows_le {g : GrpT} (h : GrpB 1000 g) : (viewG g).1.rows.length ≤ 1000000 := view_rows h
set_option maxHeartbeats 8000000 in
theorem handoverStamps_law (l : List Int) (hl : ∀ x ∈ l, -9223372036854775808 ≤ x ∧ x < 9223372036854775808) : Sx.Spec Tryz.prog GG 7 [.d (encL encI 1 l)] [] (.d (.bool true)) [] := by
  refine spec_intro (E := EE) (fn := Tryz.f7) eok (by kernel_rfl) (by kernel_rfl) Tryz.call7 (by kernel_rfl) (by kernel_rfl) ?_
  conv => whnf
  repeat' first
    | (refine call_some (new_ex 2000 hl) (fun _ => by first | exact .inl rfl | exact .inr ⟨rfl, rfl⟩) ?_; rintro ⟨tl, ta⟩ hT; (conv => whnf))
    | (refine call_some_if (start_ex 2000 4000 5000 (by decide) (by decide) (by decide)) (fun _ => by first | exact .inl rfl | exact .inr ⟨rfl, rfl⟩) (need_intro ?_ ?_); rintro ⟨gs0, b⟩ ⟨hq, h6⟩; (conv => whnf))
    | (refine call_some_if (key_ex _) (fun _ => by first | exact .inl rfl | exact .inr ⟨rfl, rfl⟩) (need_intro ?_ ?_); rintro ⟨key, b⟩ ⟨hkey, h6⟩; (conv => whnf))
    | (refine bc_true (by assumption) ?_; (conv => whnf))
    | (refine bc_false (by assumption) ?_; (conv => whnf))
    | (refine need_intro ?_ ?_; (conv => whnf))
    | (refine wk_refl ?_; (conv => whnf))
    | (refine draw_intro (by kernel_rfl) ?_; (conv => whnf))
    | (refine ord_intro (by kernel_rfl) ?_; (conv => whnf))
  all_goals try dsimp only at *
  all_goals try first
    | assumption
    | exact ⟨hT, by omega, by omega⟩
  obtain ⟨⟨T0, hT0, _, bs, hbs, htop⟩, hle, hge⟩ := hq
  have hI0 := tile_inv hbs htop
  have hS0 := tile_stm hbs
  refine loop_auto [3, 4, 5, 6] [] (fun z : ((Nat × List GrpT × Int) × Bool × ViewT) × Nat => [(8, .d (.int .i64 z.1.1.1)), (7, .d (.bool z.1.2.1))]) (fun z => [(6, .box (viewL z.1.2.2)), (4000, .box [.osl 5000 3 0 gs0.length, .d (.int .i64 z.1.1.2.2)]), (5000, .row 33 3 gs0.length (cellOf encGrp z.1.1.2.1)), (2000, tapeB tl z.2)])
    (fun z => ((z.1.1.1 ≤ 80 ∧ z.1.1.2.1.length = gs0.length ∧ InvN z.1.1.2.2 z.1.1.2.1 ∧ z.1.1.2.2 ≤ z.1.1.1) ∧ StmI z.1.1.2.1 ∧ (z.1.2.1 = true → ShN key z.1.2.2 z.1.1.2.1) ∧ z.1.2.2.rows.length ≤ 1000000) ∧ TapeOk tl z.2) (fun z => 80 - z.1.1.1) (((0, gs0, 0), false, Sx.noView), b) ?_ (fun z hz => ?_) ⟨⟨⟨by simp, rfl, hI0, by simp⟩, hS0, fun h => (by cases h), by simp [Sx.noView]⟩, by assumption⟩
  · conv => whnf
    repeat' first
      | (refine bc_true (by assumption) ?_; (conv => whnf))
      | (refine bc_false (by assumption) ?_; (conv => whnf))
      | (refine bc_intro (fun _ => ?_) (fun _ => ?_) <;> (conv => whnf))
      | (refine need_intro ?_ ?_; (conv => whnf))
      | (refine wk_refl ?_; (conv => whnf))
      | (refine draw_intro (by kernel_rfl) ?_; (conv => whnf))
      | (refine ord_intro (by kernel_rfl) ?_; (conv => whnf))
    all_goals first | exact trivial | exact DLe.refl _ | exact DLe.nil | exact RowLe.refl _ _ _ | exact ⟨rfl, rfl⟩ | exact ⟨rfl, rfl, rfl⟩ | trace_state
  obtain ⟨⟨⟨k, gs, N⟩, sh, last⟩, b⟩ := z
  obtain ⟨⟨⟨hk, hgl, hI, hNk⟩, hS, hsh, hlr⟩, hb⟩ := hz
  dsimp only at hk hgl hI hNk hb hS hsh hlr
  have hsk : IntKind.i64.wrap ((k : Int) + 1) = ((k + 1 : Nat) : Int) := wrap_succ (n := 100) (by omega) (by omega)
  have hE : ∀ u1 u2 ev, u1 < gs0.length → u2 < gs0.length → InvN (evN N ev) (evS N gs u1 u2 ev) := fun u1 u2 ev h1 h2 => inv_ev hI (by omega) (by omega)
  have hEs : ∀ u1 u2 ev, u1 < gs0.length → u2 < gs0.length → StmJ gs (evS N gs u1 u2 ev) := fun u1 u2 ev h1 h2 => stm_ev hI hS (by omega) (by omega)
  have hEl : ∀ u1 u2 ev, (evS N gs u1 u2 ev).length = gs0.length := fun u1 u2 ev => by rw [evS_len, hgl]
  have hEn : ∀ ev, evN N ev ≤ ((k + 1 : Nat) : Int) := fun ev => by have := (evN_le (N := N) (e := ev)).2; omega
  conv => whnf
  repeat' first
    | (refine call_some_if (left_ex _) (fun _ => by first | exact .inl rfl | exact .inr ⟨rfl, rfl⟩) (need_intro ?_ ?_); rintro ⟨v, b⟩ h6; (conv => whnf))
    | (refine call_intro (awake27_spec) ?_ (by first | exact .inl rfl | exact .inr ⟨rfl, rfl⟩); (conv => whnf))
    | (refine call_some_if (act_ex 4000 2000 5000 (by decide) (by decide) (by decide) gs N) (fun _ => by first | exact .inl rfl | exact .inr ⟨rfl, rfl⟩) (need_intro ?_ ?_); rintro ⟨⟨u1, u2, ev⟩, b⟩ ⟨⟨hu1, hu2⟩, h6⟩; (conv => whnf))
    | (refine call_if (sound_ex 4000 5000 (by decide) (evS N gs u1 u2 ev) (evN N ev) gs0.length) (by first | exact .inl rfl | exact .inr ⟨rfl, rfl⟩) (need_intro ?_ ?_); (conv => whnf))
    | (refine bc_true (by assumption) ?_; (conv => whnf))
    | (refine bc_false (by assumption) ?_; (conv => whnf))
    | (refine bc_intro (fun _ => ?_) (fun _ => ?_) <;> (conv => whnf))
    | (refine need_intro ?_ ?_; (conv => whnf))
    | (refine wk_refl ?_; (conv => whnf))
    | (refine draw_intro (by kernel_rfl) ?_; (conv => whnf))
    | (refine ord_intro (by kernel_rfl) ?_; (conv => whnf))
  all_goals try dsimp only at *
  all_goals try simp only [decide_eq_true_eq, decide_eq_false_iff_not] at *
  all_goals try first
    | assumption
    | contradiction
    | omega
    | exact ⟨LeS.refl _, trivial⟩
    | exact ⟨by assumption, by omega, by omega⟩
    | exact ⟨by assumption, hgl, hge, by omega, hI, by omega⟩
    | exact ⟨hEl _ _ _, by omega, fun i hi => by have := ((hE u1 u2 ev hu1 hu2).wf i (by rw [hEl]; omega)).n1; omega⟩
  have hI2 := hE u1 u2 ev hu1 hu2
  obtain ⟨hS2, hS3⟩ := hEs u1 u2 ev hu1 hu2
  have hl2 := hEl u1 u2 ev
  have hn2 := hEn ev
  generalize evS N gs u1 u2 ev = gs2 at *
  generalize evN N ev = N2 at *
  refine loop_auto [3, 4, 5, 6, 8, 37, 38] [4000, 5000, 2000] (fun x : Nat × Bool × ViewT => [(39, .d (.int .i64 x.1)), (7, .d (.bool x.2.1))]) (fun x => [(6, .box (viewL x.2.2))]) (fun x => x.1 ≤ gs0.length ∧ (x.2.1 = true → ShN key x.2.2 gs2) ∧ x.2.2.rows.length ≤ 1000000) (fun x => gs0.length - x.1) (0, sh, last) ?_ (fun x hx => ?_) ⟨by simp, fun h => hS3 _ _ (hsh h), hlr⟩
  · conv => whnf
    repeat' first
      | (refine bc_true (by assumption) ?_; (conv => whnf))
      | (refine bc_false (by assumption) ?_; (conv => whnf))
      | (refine bc_intro (fun _ => ?_) (fun _ => ?_) <;> (conv => whnf))
      | (refine need_intro ?_ ?_; (conv => whnf))
      | (refine wk_refl ?_; (conv => whnf))
      | (refine draw_intro (by kernel_rfl) ?_; (conv => whnf))
      | (refine ord_intro (by kernel_rfl) ?_; (conv => whnf))
    all_goals first | exact trivial | exact DLe.refl _ | exact DLe.nil | exact RowLe.refl _ _ _ | exact ⟨rfl, rfl⟩ | exact ⟨rfl, rfl, rfl⟩ | trace_state
  obtain ⟨i, sh2, last2⟩ := x
  obtain ⟨hi, hsh2, hlr2⟩ := hx
  dsimp only at hi hsh2 hlr2
  have hs : IntKind.i64.wrap ((i : Int) + 1) = ((i + 1 : Nat) : Int) := wrap_succ (n := 2000) (by omega) (by omega)
  rcases Nat.lt_or_eq_of_le hi with hil | rfl
  rotate_left
  · have hil' : decide (((gs0.length : Nat) : Int) < ((gs0.length : Nat) : Int)) = false := decide_eq_false (by omega)
    conv => whnf
    repeat' first
      | (refine NextVC.mk (((k + 1, gs2, N2), sh2, last2), b) ?_ ?_ ?_; (conv => whnf))
      | (refine bc_true (by assumption) ?_; (conv => whnf))
      | (refine bc_false (by assumption) ?_; (conv => whnf))
      | (refine bc_intro (fun _ => ?_) (fun _ => ?_) <;> (conv => whnf))
      | (refine need_intro ?_ ?_; (conv => whnf))
      | (refine wk_refl ?_; (conv => whnf))
      | (refine draw_intro (by kernel_rfl) ?_; (conv => whnf))
      | (refine ord_intro (by kernel_rfl) ?_; (conv => whnf))
    all_goals try dsimp only at *
    all_goals first
      | exact trivial
      | omega
      | exact DLe.refl _
      | exact RowLe.refl _ _ _
      | exact DLe.of_eq (by rw [hsk])
      | exact ⟨rfl, rfl, rfl⟩
      | exact ⟨⟨⟨by omega, hl2, hI2, hn2⟩, hS2, hsh2, hlr2⟩, by assumption⟩
      | trace_state
  have hil' : decide ((i : Int) < ((gs0.length : Nat) : Int)) = true := decide_eq_true (by omega)
  have hgb := (hI2.wf (0 + i) (by omega)).b
  have hvw := viewr_spec (gs2.getD (0 + i) default) hgb
  have hvl := view_rows_le hgb
  have hone := fun h1 h2 => show_one (x := (sh2, last2)) hI2 hS2 (by omega : 0 + i < gs2.length) hsh2 h1 h2
  generalize hvg : viewG (gs2.getD (0 + i) default) = vg at *
  obtain ⟨v, e⟩ := vg
  dsimp only at hvw hvl hone
  conv => whnf
  repeat' first
    | (refine call_intro (hvw) ?_ (by first | exact .inl rfl | exact .inr ⟨rfl, rfl⟩); (conv => whnf))
    | (refine call_intro (containsRr_spec v.lk v.lt v.hk v.ht key) ?_ (by first | exact .inl rfl | exact .inr ⟨rfl, rfl⟩); (conv => whnf))
    | (refine call_intro (cmpSr_spec _ _ _ _) ?_ (by first | exact .inl rfl | exact .inr ⟨rfl, rfl⟩); (conv => whnf))
    | (refine call_if (sameRr_spec _ _) (by first | exact .inl rfl | exact .inr ⟨rfl, rfl⟩) (need_intro ?_ ?_); (conv => whnf))
    | (refine call_intro (sameRngr_spec _ _ _ _ _ _ _ _) ?_ (by first | exact .inl rfl | exact .inr ⟨rfl, rfl⟩); (conv => whnf))
    | (refine NextVC.mk (i + 1, (fun _ _ => (true, v)) (show (e != 0) = false by assumption) (show (!containsR v.lk v.lt v.hk v.ht key) = false by assumption)) ?_ ?_ ?_; (conv => whnf))
    | (refine NextVC.mk (i + 1, sh2, last2) ?_ ?_ ?_; (conv => whnf))
    | (refine bc_true (by assumption) ?_; (conv => whnf))
    | (refine bc_false (by assumption) ?_; (conv => whnf))
    | (refine bc_intro (fun _ => ?_) (fun _ => ?_) <;> (conv => whnf))
    | (refine need_intro ?_ ?_; (conv => whnf))
    | (refine wk_refl ?_; (conv => whnf))
    | (refine draw_intro (by kernel_rfl) ?_; (conv => whnf))
    | (refine ord_intro (by kernel_rfl) ?_; (conv => whnf))
  all_goals try dsimp only at *
  all_goals try simp only [decide_eq_true_eq, decide_eq_false_iff_not, bne_iff_ne, ne_eq, Bool.not_eq_true', Bool.not_eq_false', beq_iff_eq, beq_eq_false_iff_ne, Bool.or_eq_true, bne_eq_false_iff_eq] at *
  all_goals try first
    | exact trivial
    | assumption
    | omega
    | exact DLe.refl _
    | exact RowLe.refl _ _ _
    | exact DLe.of_eq (by rw [hs])
    | exact ⟨by omega, by omega⟩
    | exact ⟨rfl, rfl, rfl⟩
    | exact ⟨trivial, trivial, trivial⟩
    | exact ⟨by omega, hsh2, hlr2⟩
    | exact ⟨by omega, fun _ => (hone (by assumption) (by assumption)).2, hvl⟩
    | exact ⟨by omega, by omega⟩
    | (exfalso
       have h9 := (hone (by assumption) (by assumption)).1 (by assumption)
       have h10 := later_cmp h9
       first
         | omega
         | (have h11 := h10.2 (by omega)
            subst h11
            first
              | contradiction
              | (have h12 : sameF last2.rows last2.rows = false := by assumption
                 rw [same_refl] at h12
                 cases h12)
              | (have h12 : sameRng (last2.lk, last2.lt, last2.hk, last2.ht) (last2.lk, last2.lt, last2.hk, last2.ht) = false := by assumption
                 rw [sameRng_refl] at h12
                 cases h12)))
  all_goals trace_state
theorem handoverStamps_all (dss : List (List D)) (h : All2 (wfT Tryz.prog reachBytes 12) [22] dss) : Sx.Spec Tryz.prog GG 7 (svs Tryz.prog [22] dss) [] (.d (.bool true)) [] := by
  obtain ⟨x, rfl, hx⟩ := inv1 h
  obtain ⟨l, h1, h2, h3⟩ := ints_arg hx
  obtain ⟨_, _, rfl, _⟩ := hx
  exact (handoverStamps_law l h1).arg h2
end Go.Proofs.YtapddnfjngfloaaGreatDoor
