/- Contracts of functions that the law reaches: YtngdpchhogfhfaaGreatDoorNet2. Written for this claim. -/
import Derived.Test.YtngdpchhogfhfaaGreatDoorNet
import Derived.Test.YtngdpchhogfhfaaGreatDoorSxHan
namespace Go.Proofs.YtngdpchhogfhfaaGreatDoor
open Go Go.Sx Go.ChangeShapes Go.WideShapes Go.ChangeAt Go.RowKit
set_option linter.unusedVariables false
set_option linter.unusedSimpArgs false
set_option maxRecDepth 100000
theorem fresh_new {T0 : List Row} {i k : Nat} {lk : List UInt8} {lt : Bool} {hk : List UInt8} {ht : Bool} {e v : Int} (hk3 : 1 ≤ k ∧ k ≤ 3) (hi : i ≤ 500) (hv : validC (rawC lk lt hk ht e v (sliceF T0 lk lt hk ht)) = true) (hs : Small (rawC lk lt hk ht e v (sliceF T0 lk lt hk ht)))
    (hr : emptyR lk lt hk ht = false) (he : 0 ≤ e ∧ e ≤ 5) (hvv : 0 ≤ v ∧ v ≤ 1) : FreshG T0 i ⟨(i : Int) + 1, true, memL' (rawC lk lt hk ht e v (sliceF T0 lk lt hk ht)) (idsN ((i : Int) + 1) k)⟩ (lk, lt) (hk, ht) := by
  have hd := drawn_new (c := rawC lk lt hk ht e v (sliceF T0 lk lt hk ht)) hk3 hi hv hs rfl rfl hr
  have hl : (memL' (rawC lk lt hk ht e v (sliceF T0 lk lt hk ht)) (idsN ((i : Int) + 1) k)).length = k := by rw [memL_len, idsN_len]
  have hc : ∀ m ∈ memL' (rawC lk lt hk ht e v (sliceF T0 lk lt hk ht)) (idsN ((i : Int) + 1) k), m.copy = rawC lk lt hk ht e v (sliceF T0 lk lt hk ht) := fun m hm => by
    simp only [memL', List.mem_map] at hm
    obtain ⟨a, _, rfl⟩ := hm
    rfl
  have h0 : (own0 ⟨(i : Int) + 1, true, memL' (rawC lk lt hk ht e v (sliceF T0 lk lt hk ht)) (idsN ((i : Int) + 1) k)⟩).copy = rawC lk lt hk ht e v (sliceF T0 lk lt hk ht) := hc _ (getD_mem (by rw [hl]; omega))
  refine ⟨rfl, rfl, by simp only; omega, by simp only; omega, hd.snd.uniq, hd.up, fun m hm => (hd.snd.all m hm).1, fun m hm => by rw [h0]; exact hc m hm, ?_⟩
  rw [h0]
  exact ⟨hv, hs, rfl, rfl, hr, rfl, rfl, rfl, rfl, rfl, he, hvv, rfl⟩
def TileP (T0 : List Row) (gs : List GrpT) (b : Bnd) : Prop := ∃ bs, TileN T0 gs bs ∧ bs gs.length = b
theorem tilep_snoc {T0 : List Row} {gs : List GrpT} {g : GrpT} {a b : Bnd} (h : TileP T0 gs a) (hg : FreshG T0 gs.length g a b) : TileP T0 (gs ++ [g]) b := by
  obtain ⟨bs, h1, h2⟩ := h
  refine ⟨_, tile_snoc h1 (b := b) (by rw [h2]; exact hg), ?_⟩
  simp only [List.length_append, List.length_singleton]
  rw [if_neg (by omega)]
theorem top_of {lk : List UInt8} {lt : Bool} (hv : validB lk lt = true) (he : emptyR lk lt [] true = true) : lk = [] ∧ lt = true := by
  cases lt with
  | true => simp only [validB, Bool.and_eq_true, Bool.or_eq_true, Bool.not_true, Bool.false_eq_true, false_or, beq_iff_eq] at hv; exact ⟨hv.2, rfl⟩
  | false =>
    simp only [emptyR, validR, hv, Bool.true_and] at he
    simp [validB, cmpB] at he
set_option maxHeartbeats 8000000 in
theorem net_t0 {l : List Int} {a : Nat} {n : Int} : (TapeOk l a ∧ 1 ≤ n ∧ n ≤ 50) → ∃ x : List GrpT × Nat, (((∃ T0 : List Row, TabOk T0 ∧ T0.length ≤ 8 ∧ TileP T0 x.1 ([], true)) ∧ NetQ x.1 ∧ 1 ≤ x.1.length ∧ (x.1.length : Int) ≤ n) ∧ TapeOk l x.2) ∧
    Sx.Spec Tryz.prog GG 16 [.ptr 1000 0, .d (.int .i64 n)] [(1000, tapeB l a)] (.osl 2000 3 0 x.1.length) [(1000, tapeB l x.2), (2000, .row 34 3 x.1.length (cellOf encGrp x.1))] := by
  rintro ⟨h, hn⟩
  have wn : IntKind.i64.wrap (n - 1) = n - 1 := wrap_of (by omega) (by omega)
  refine spec_some (E := EE) (fn := Tryz.f16) _ _ _ true eok (by kernel_rfl) (by kernel_rfl) Tryz.call16 (by kernel_rfl) (fun _ => by kernel_rfl) (fun _ => by kernel_rfl) ?_
  conv => whnf
  repeat' first
    | (refine call_some_if (rows_ex _) (fun _ => by first | exact .inl rfl | exact .inr ⟨rfl, rfl⟩) (need_intro ?_ ?_); rintro ⟨rows, b⟩ ⟨⟨hq, hrl⟩, h5⟩; (conv => whnf))
    | (refine call_intro (all_spec) ?_ (by first | exact .inl rfl | exact .inr ⟨rfl, rfl⟩); (conv => whnf))
    | (refine call_some_if (cuts_ex _) (fun _ => by first | exact .inl rfl | exact .inr ⟨rfl, rfl⟩) (need_intro ?_ ?_); rintro ⟨cuts, b⟩ ⟨hcl, h6⟩; (conv => whnf))
    | (refine bc_true (by assumption) ?_; (conv => whnf))
    | (refine bc_false (by assumption) ?_; (conv => whnf))
    | (refine need_intro ?_ ?_; (conv => whnf))
    | (refine wk_refl ?_; (conv => whnf))
    | (refine draw_intro (by kernel_rfl) ?_; (conv => whnf))
    | (refine ord_intro (by kernel_rfl) ?_; (conv => whnf))
  all_goals try first
    | exact ⟨h, by omega, by omega⟩
    | exact ⟨by assumption, by rw [wn]; omega, by rw [wn]; omega⟩
  all_goals try simp only [wn] at *
  refine loop_auto [0, 4, 6, 7, 8] [] (fun x : (Nat × List GrpT) × (List UInt8 × Bool) × Nat => [(9, .d (.int .i64 x.1.1)), (5, .osl 500 3 0 x.1.2.length)]) (fun x => [(500, .row 34 3 x.1.2.length (cellOf encGrp x.1.2)), (7, .box [.d (.str x.2.1.1), .d (.bool x.2.1.2), .d (.str []), .d (.bool true)]), (1000, tapeB l x.2.2)])
    (fun x => ((TileP rows x.1.2 x.2.1 ∧ (x.1.1 = cuts.length + 1 → x.2.1 = ([], true))) ∧ x.1.1 ≤ cuts.length + 1 ∧ NetQ x.1.2 ∧ x.1.2.length ≤ x.1.1 ∧ validB x.2.1.1 x.2.1.2 = true ∧ (x.1.2.length = 0 → x.2.1.1 = [] ∧ x.2.1.2 = false) ∧ (x.1.1 = cuts.length + 1 → 1 ≤ x.1.2.length)) ∧ TapeOk l x.2.2) (fun x => cuts.length + 1 - x.1.1) ((0, []), ([], false), b) ?_ (fun x hx => ?_) ⟨⟨⟨⟨_, tile_nil, rfl⟩, by simp⟩, by simp, netq_nil, by simp, by simp [validB], fun _ => ⟨rfl, rfl⟩, by simp⟩, h6⟩
  · conv => whnf
    repeat' first
      | (refine bc_true (by assumption) ?_; (conv => whnf))
      | (refine bc_false (by assumption) ?_; (conv => whnf))
      | (refine bc_intro (fun _ => ?_) (fun _ => ?_) <;> (conv => whnf))
      | (refine need_intro ?_ ?_; (conv => whnf))
      | (refine wk_refl ?_; (conv => whnf))
      | (refine draw_intro (by kernel_rfl) ?_; (conv => whnf))
      | (refine ord_intro (by kernel_rfl) ?_; (conv => whnf))
    all_goals first | exact trivial | exact DLe.refl _ | exact DLe.nil | exact RowLe.refl _ _ _ | exact ⟨rfl, rfl⟩ | exact ⟨rfl, rfl, rfl⟩ | trace_state
  · obtain ⟨⟨i, gs⟩, ⟨lk, lt⟩, b0⟩ := x
    obtain ⟨⟨⟨hT, hTe⟩, hi, hN, hle, hvb, h0, hend⟩, hb⟩ := hx
    simp only at hi hN hle hvb h0 hend hb hT hTe
    have hs : IntKind.i64.wrap ((i : Int) + 1) = ((i + 1 : Nat) : Int) := wrap_succ (n := 2000000) (by omega) (by omega)
    have hq' := hN.le
    have w1 : IntKind.i64.wrap ((gs.length : Int) + 1) = (gs.length : Int) + 1 := wrap_of (by omega) (by omega)
    have w2 : IntKind.i64.wrap (10 * ((gs.length : Int) + 1)) = 10 * ((gs.length : Int) + 1) := wrap_of (by omega) (by omega)
    have w3 : IntKind.i64.wrap (10 * ((gs.length : Int) + 1) + 1) = 10 * ((gs.length : Int) + 1) + 1 := wrap_of (by omega) (by omega)
    have w4 : IntKind.i64.wrap (10 * ((gs.length : Int) + 1) + 2) = 10 * ((gs.length : Int) + 1) + 2 := wrap_of (by omega) (by omega)
    have w5 : ∀ w : Int, 0 ≤ w → (w < 3 ∨ w = 0) → IntKind.i64.wrap (1 + w) = 1 + w := fun w h1 h2 => wrap_of (by omega) (by omega)
    have hst : ∀ e v : Int, 0 ≤ e → (e < 3 ∨ e = 0) → 0 ≤ v → (v < 2 ∨ v = 0) → stampOk e v = true := fun e v h1 h2 h3 h4 => stamp_of.2 ⟨⟨by omega, by omega⟩, by omega, by omega⟩
    have hltc : decide ((i : Int) < (cuts.length : Int)) = true → ∀ b : Bnd, i + 1 = cuts.length + 1 → b = ([], true) := fun h _ h2 => by
      have := of_decide_eq_true h
      omega
    have htop : emptyR lk lt [] true = true → 1 ≤ gs.length := fun h => by
      rcases Nat.eq_zero_or_pos gs.length with h9 | h9
      · obtain ⟨rfl, rfl⟩ := h0 h9
        exact absurd h (by decide)
      · exact h9
    have hnew : ∀ (hk : List UInt8) (ht : Bool) (e v z : Int), emptyR lk lt hk ht = false → (0 ≤ e ∧ (e < 3 ∨ e = 0)) → (0 ≤ v ∧ (v < 2 ∨ v = 0)) → (0 ≤ z ∧ (z < 3 ∨ z = 0)) →
        (validC (rawC lk lt hk ht e v (sliceF rows lk lt hk ht)) = true ∧ Small (rawC lk lt hk ht e v (sliceF rows lk lt hk ht))) ∧ DrawnG gs.length (netG gs lk lt hk ht e v rows z) ∧ TileP rows (gs ++ [netG gs lk lt hk ht e v rows z]) (hk, ht) := fun hk ht e v z he h1 h2 h3 => by
      obtain ⟨_, g2, g3⟩ := newC_okN (r := (lk, lt, hk, ht)) (e := e) (v := v) (rows := sliceF rows lk lt hk ht) he (hst e v h1.1 h1.2 h2.1 h2.2) (rowsq_slice hq hrl)
      exact ⟨⟨g2, g3⟩, drawn_new (c := rawC lk lt hk ht e v (sliceF rows lk lt hk ht)) ⟨by omega, by omega⟩ (by omega) g2 g3 rfl rfl he, tilep_snoc hT (fresh_new ⟨by omega, by omega⟩ (by omega) g2 g3 he (by omega) (by omega))⟩
    conv => whnf
    repeat' first
      | (refine call_intro (validBoundr_spec _ _) ?_ (by first | exact .inl rfl | exact .inr ⟨rfl, rfl⟩); (conv => whnf))
      | (refine call_intro (comparer_spec _ _ _ _) ?_ (by first | exact .inl rfl | exact .inr ⟨rfl, rfl⟩); (conv => whnf))
      | (refine call_intro (emptyRr_spec _ _ _ _) ?_ (by first | exact .inl rfl | exact .inr ⟨rfl, rfl⟩); (conv => whnf))
      | (refine call_some_if (next_ex (a := b0) (n := 3) _) (fun _ => by first | exact .inl rfl | exact .inr ⟨rfl, rfl⟩) (need_intro ?_ ?_); rintro ⟨e, b⟩ ⟨⟨e1, e2⟩, e3⟩; (conv => whnf))
      | (refine call_some_if (next_ex (n := 2) _) (fun _ => by first | exact .inl rfl | exact .inr ⟨rfl, rfl⟩) (need_intro ?_ ?_); rintro ⟨v, b⟩ ⟨⟨v1, v2⟩, v3⟩; (conv => whnf))
      | (refine call_some_if (next_ex _) (fun _ => by first | exact .inl rfl | exact .inr ⟨rfl, rfl⟩) (need_intro ?_ ?_); rintro ⟨z, b⟩ ⟨⟨z1, z2⟩, z3⟩; (conv => whnf))
      | (refine call_if (slicer_spec rows _ _ _ _) (by first | exact .inl rfl | exact .inr ⟨rfl, rfl⟩) (need_intro ?_ ?_); (conv => whnf))
      | (refine call_if (newr_okN _ _ _ _ _ _ _) (by first | exact .inl rfl | exact .inr ⟨rfl, rfl⟩) (need_intro ?_ ?_); (conv => whnf))
      | (refine call_if (newgr_net _ _ _ _ _ _ _ _) (by first | exact .inl rfl | exact .inr ⟨rfl, rfl⟩) (need_intro ?_ ?_); (conv => whnf))
      | (refine NextVC.mk ((i + 1, gs ++ [netG gs lk lt ((fun _ => (cuts.getD i default).1) (show decide ((i : Int) < (cuts.length : Int)) = true by assumption)) (cuts.getD i default).2 e v rows z]), ((cuts.getD i default).1, (cuts.getD i default).2), b) ?_ ?_ ?_; (conv => whnf))
      | (refine NextVC.mk ((i + 1, gs ++ [netG gs lk lt [] true e v rows z]), ([], true), b) ?_ ?_ ?_; (conv => whnf))
      | (refine NextVC.mk ((i + 1, gs), (lk, lt), b0) ?_ ?_ ?_; (conv => whnf))
      | (refine bc_true (by assumption) ?_; (conv => whnf))
      | (refine bc_false (by assumption) ?_; (conv => whnf))
      | (refine bc_intro (fun _ => ?_) (fun _ => ?_) <;> (conv => whnf))
      | (refine need_intro ?_ ?_; (conv => whnf))
      | (refine wk_refl ?_; (conv => whnf))
      | (refine draw_intro (by kernel_rfl) ?_; (conv => whnf))
      | (refine ord_intro (by kernel_rfl) ?_; (conv => whnf))
    all_goals try simp only [cellsGrp, bytesGrp, true_and, and_true, w1, w2, w3, w4, Option.getD_some, Option.getD_none, decide_eq_true_eq, decide_eq_false_iff_not, Bool.not_eq_true', Bool.not_eq_false', List.length_append, List.length_singleton, Int.toNat_natCast] at *
    all_goals try first
      | exact trivial
      | omega
      | exact DLe.refl _
      | exact RowLe.refl _ _ _
      | exact ⟨by assumption, by omega, by omega⟩
      | exact ⟨by omega, by omega⟩
      | exact DLe.of_eq (by rw [hs])
      | exact ⟨rfl, rfl⟩
      | exact ⟨rfl, rfl, rfl⟩
      | exact ⟨trivial, trivial, trivial⟩
    all_goals try (have w6 := w5 _ z1 z2; simp only [w6] at *)
    all_goals try first
      | omega
      | exact ⟨by omega, by omega⟩
      | exact ⟨by omega, by omega, by omega⟩
      | exact ⟨by assumption, hst _ _ e1 e2 v1 v2, rowsq_slice hq hrl⟩
      | exact ⟨⟨⟨hT, by first | omega | exact hltc (of_decide_eq_true (by assumption)) _ | exact hltc (by assumption) _⟩, by omega, hN, by omega, hvb, h0, by omega⟩, by assumption⟩
      | exact ⟨⟨⟨hT, fun _ => by obtain ⟨q1, q2⟩ := top_of hvb (by assumption); rw [q1, q2]⟩, by omega, hN, by omega, hvb, h0, fun _ => htop (by assumption)⟩, by assumption⟩
      | exact row_ids (by omega) (by omega) rfl rfl rfl
    all_goals first
      | exact row_snoc rfl (RowLe.refl _ _ _) (jlt3 (DLe.of_eq rfl) (DLe.of_eq rfl) (DLe.of_eq (by rw [Int.sub_zero]; rfl)))
      | (have hx := hnew _ _ _ _ z (by assumption) ⟨e1, e2⟩ ⟨v1, v2⟩ ⟨z1, z2⟩
         refine ⟨⟨⟨hx.2.2, by first | exact hltc (of_decide_eq_true (by assumption)) _ | exact hltc (by assumption) _ | exact fun _ => rfl | exact fun _ => trivial⟩, by omega, netq_snoc hN (by omega) hx.2.1, by omega, lo_valid (lk := lk) (lt := lt) (by assumption), by omega, by omega⟩, by assumption⟩)
      | (have hx := hnew _ _ _ _ z (by assumption) ⟨e1, e2⟩ ⟨v1, v2⟩ ⟨z1, z2⟩
         refine ⟨row_ids rfl (by omega) rfl rfl rfl, ⟨by omega, by omega⟩, ⟨by omega, by omega⟩, hx.1.1, hx.1.2⟩)
      | (refine ⟨(gs, b0), ⟨⟨⟨rows, hq, by omega, by rw [← hTe (by omega)]; exact hT⟩, hN, hend (by omega), by simp only; omega⟩, hb⟩, ?_⟩
         conv => whnf
         repeat' first
           | (refine bc_true (by assumption) ?_; (conv => whnf))
           | (refine bc_false (by assumption) ?_; (conv => whnf))
           | (refine bc_intro (fun _ => ?_) (fun _ => ?_) <;> (conv => whnf))
           | (refine need_intro ?_ ?_; (conv => whnf))
           | (refine wk_refl ?_; (conv => whnf))
           | (refine draw_intro (by kernel_rfl) ?_; (conv => whnf))
           | (refine ord_intro (by kernel_rfl) ?_; (conv => whnf))
         all_goals first
           | exact trivial
           | exact DLe.refl _
           | exact RowLe.refl _ _ _
           | exact ⟨rfl, rfl⟩
           | exact ⟨rfl, rfl, rfl⟩
           | trace_state)
      | trace_state
theorem net_t (m k : Nat) (hmk : m ≠ k) {l : List Int} {a : Nat} {n : Int} : (TapeOk l a ∧ 1 ≤ n ∧ n ≤ 50) → ∃ x : List GrpT × Nat, (((∃ T0 : List Row, TabOk T0 ∧ T0.length ≤ 8 ∧ TileP T0 x.1 ([], true)) ∧ NetQ x.1 ∧ 1 ≤ x.1.length ∧ (x.1.length : Int) ≤ n) ∧ TapeOk l x.2) ∧
    Sx.Spec Tryz.prog GG 16 [.ptr m 0, .d (.int .i64 n)] [(m, tapeB l a)] (.osl k 3 0 x.1.length) [(m, tapeB l x.2), (k, .row 34 3 x.1.length (cellOf encGrp x.1))] := fun h => by
  obtain ⟨x, hx, hs⟩ := net_t0 h
  exact ⟨x, hx, hs.at1 m k (by decide) hmk⟩
end Go.Proofs.YtngdpchhogfhfaaGreatDoor

namespace Go.Proofs.YtngdpchhogfhfaaGreatDoor
open Go Go.Sx Go.ChangeShapes Go.WideShapes Go.ChangeAt Go.RowKit
set_option linter.unusedVariables false
set_option linter.unusedSimpArgs false
set_option maxRecDepth 100000
/-! New whose members are the caller's own
-/
set_option maxHeartbeats 4000000 in
theorem newrO0 (n : Int) (ids : List Int) (c : CopyT) : (Small c ∧ ids.length ≤ 5 ∧ ids.length ≠ 0 ∧ numOk n = true ∧ validC c = true ∧ ids.all numOk = true ∧ dupL ids 0 = false) → ∃ x : Unit, True ∧ Sx.Spec Tryz.prog GG 37 [.d (.int .i64 n), .d (encL encI 1 ids), .agg (copyL c)] []
    (.tup [.agg [.d (.int .i64 n), .d (.bool true), .osl 2000 32 0 ids.length], .d (.int .i64 0)]) [(2000, .row 59 32 ids.length (cellOf encMem (memL' c ids)))] := by
  rintro ⟨hs, hl, hl0, g1, g2, g3, g4⟩
  refine spec_some (E := EE) (fn := Tryz.f37) _ _ _ true eok (by kernel_rfl) (by kernel_rfl) Tryz.call37 (by kernel_rfl) (fun _ => by kernel_rfl) (fun _ => by kernel_rfl) ?_
  conv => whnf
  repeat' first
    | (refine call_intro (numberr_spec _) ?_ (by first | exact .inl rfl | exact .inr ⟨rfl, rfl⟩); (conv => whnf))
    | (refine call_if (validr_spec c) (by first | exact .inl rfl | exact .inr ⟨rfl, rfl⟩) (need_intro ?_ ?_); (conv => whnf))
    | (refine bc_true (by assumption) ?_; (conv => whnf))
    | (refine bc_false (by assumption) ?_; (conv => whnf))
    | (refine bc_intro (fun _ => ?_) (fun _ => ?_) <;> (conv => whnf))
    | (refine need_intro ?_ ?_; (conv => whnf))
    | (refine wk_refl ?_; (conv => whnf))
    | (refine draw_intro (by kernel_rfl) ?_; (conv => whnf))
    | (refine ord_intro (by kernel_rfl) ?_; (conv => whnf))
  all_goals try exact hs
  all_goals try simp only [g1, g2, Bool.not_true, Bool.true_eq_false, Bool.false_eq_true] at *
  all_goals try contradiction
  all_goals try (exfalso; simp only [decide_eq_true_eq, beq_iff_eq] at *; omega)
  all_goals
    refine loop_auto [0, 1, 5, 6, 7, 27, 28] [5, 6] (fun i : Nat => [(29, .d (.int .i64 i)), (8, .d (.bool false))]) (fun i => []) (fun i => i ≤ ids.length) (fun i => ids.length - i) 0 ?_ (fun i hi => ?_) (by omega)
    · conv => whnf
      repeat' first
        | (refine bc_true (by assumption) ?_; (conv => whnf))
        | (refine bc_false (by assumption) ?_; (conv => whnf))
        | (refine bc_intro (fun _ => ?_) (fun _ => ?_) <;> (conv => whnf))
        | (refine need_intro ?_ ?_; (conv => whnf))
        | (refine wk_refl ?_; (conv => whnf))
        | (refine draw_intro (by kernel_rfl) ?_; (conv => whnf))
        | (refine ord_intro (by kernel_rfl) ?_; (conv => whnf))
      all_goals first
        | exact trivial
        | exact DLe.refl _
        | (refine DLe.of_eq ?_; simp only [beq_eq_false_iff_ne, beq_iff_eq, decide_eq_false_iff_not, decide_eq_true_eq, *]; done)
        | trace_state
    · have hsi : IntKind.i64.wrap ((i : Int) + 1) = ((i + 1 : Nat) : Int) := wrap_succ (n := 2000) (by omega) (by omega)
      have hst : i < ids.length → numOk (ids.getD i default) = true := fun h => List.all_eq_true.1 g3 _ (getD_mem h)
      rcases Nat.lt_or_eq_of_le hi with hlt | rfl
      · have hlt' : decide ((i : Int) < ((ids.length : Nat) : Int)) = true := decide_eq_true (by omega)
        have hni := hst hlt
        conv => whnf
        repeat' first
          | (refine call_intro (numberr_spec _) ?_ (by first | exact .inl rfl | exact .inr ⟨rfl, rfl⟩); (conv => whnf))
          | (refine NextVC.mk (i + 1) ?_ ?_ ?_; (conv => whnf))
          | (refine bc_true (by assumption) ?_; (conv => whnf))
          | (refine bc_false (by assumption) ?_; (conv => whnf))
          | (refine bc_intro (fun _ => ?_) (fun _ => ?_) <;> (conv => whnf))
          | (refine need_intro ?_ ?_; (conv => whnf))
          | (refine wk_refl ?_; (conv => whnf))
          | (refine draw_intro (by kernel_rfl) ?_; (conv => whnf))
          | (refine ord_intro (by kernel_rfl) ?_; (conv => whnf))
        all_goals try simp only [Int.toNat_natCast, hni, Bool.not_true] at *
        all_goals first
          | exact trivial
          | omega
          | exact DLe.refl _
          | exact DLe.of_eq (by rw [hsi])
          | exact ⟨by omega, by omega⟩
          | contradiction
          | trace_state
      · have hlt' : decide (((ids.length : Nat) : Int) < ((ids.length : Nat) : Int)) = false := decide_eq_false (by omega)
        conv => whnf
        repeat' first
          | (refine NextVC.mk 0 ?_ ?_ ?_; (conv => whnf))
          | (refine bc_true (by assumption) ?_; (conv => whnf))
          | (refine bc_false (by assumption) ?_; (conv => whnf))
          | (refine bc_intro (fun _ => ?_) (fun _ => ?_) <;> (conv => whnf))
          | (refine need_intro ?_ ?_; (conv => whnf))
          | (refine wk_refl ?_; (conv => whnf))
          | (refine draw_intro (by kernel_rfl) ?_; (conv => whnf))
          | (refine ord_intro (by kernel_rfl) ?_; (conv => whnf))
        all_goals try simp only [Bool.not_eq_true', Bool.not_eq_false', decide_eq_true_eq, decide_eq_false_iff_not] at *
        all_goals try (exfalso; omega)
        refine loop_auto [0, 1, 5, 6, 7, 11, 48, 49] [5, 6] (fun j : Nat => [(50, .d (.int .i64 j))]) (fun j => [(11, .box [.d (.int .i64 n), .d (.bool true), .osl 500 32 0 (memL' c (ids.take j)).length]), (500, .row 59 32 (memL' c (ids.take j)).length (cellOf encMem (memL' c (ids.take j))))]) (fun j => j ≤ ids.length ∧ dupL ids j = false) (fun j => ids.length - j) 0 ?_ (fun j hj => ?_) ⟨by omega, g4⟩
        · conv => whnf
          repeat' first
            | (refine bc_true (by assumption) ?_; (conv => whnf))
            | (refine bc_false (by assumption) ?_; (conv => whnf))
            | (refine bc_intro (fun _ => ?_) (fun _ => ?_) <;> (conv => whnf))
            | (refine need_intro ?_ ?_; (conv => whnf))
            | (refine wk_refl ?_; (conv => whnf))
            | (refine draw_intro (by kernel_rfl) ?_; (conv => whnf))
            | (refine ord_intro (by kernel_rfl) ?_; (conv => whnf))
          all_goals first | exact trivial | exact DLe.refl _ | exact DLe.nil | exact ⟨rfl, rfl⟩ | exact ⟨rfl, rfl, rfl⟩ | exact RowLe.refl _ _ _ | trace_state
        · obtain ⟨hj, hd⟩ := hj
          have hsj : IntKind.i64.wrap ((j : Int) + 1) = ((j + 1 : Nat) : Int) := wrap_succ (n := 2000) (by omega) (by omega)
          have hml : (memL' c (ids.take j)).length = j := by rw [memL_len, List.length_take]; omega
          have hms := fun h => memL_take (c := c) (ids := ids) (j := j) h
          have hds := fun h => dup_step (ids := ids) (j := j) h
          have hix : indexG (memL' c (ids.take j)) (ids.getD j default) 0 < 0 ↔ (ids.take j).contains (ids.getD j default) = false := memL_index0
          conv => whnf
          repeat' first
            | (refine call_if (placeG_spec _ _ (memL' c (ids.take j)) _) (by first | exact .inl rfl | exact .inr ⟨rfl, rfl⟩) (need_intro ?_ ?_); (conv => whnf))
            | (refine NextVC.mk (j + 1) ?_ ?_ ?_; (conv => whnf))
            | (refine bc_true (by assumption) ?_; (conv => whnf))
            | (refine bc_false (by assumption) ?_; (conv => whnf))
            | (refine bc_intro (fun _ => ?_) (fun _ => ?_) <;> (conv => whnf))
            | (refine need_intro ?_ ?_; (conv => whnf))
            | (refine wk_refl ?_; (conv => whnf))
            | (refine draw_intro (by kernel_rfl) ?_; (conv => whnf))
            | (refine ord_intro (by kernel_rfl) ?_; (conv => whnf))
          all_goals try simp only [cellsMem, bytesMem, decide_eq_true_eq, decide_eq_false_iff_not, bne_iff_ne, ne_eq, Decidable.not_not, Bool.not_eq_true', Bool.not_eq_false', bne_eq_false_iff_eq] at *
          all_goals try simp only [Int.toNat_natCast] at *
          all_goals try first
            | exact trivial
            | omega
            | exact DLe.refl _
            | exact DLe.of_eq (by rw [hsj])
            | exact ⟨by omega, by omega⟩
            | exact ⟨⟨trivial, row_zero⟩, by omega⟩
            | exact ⟨⟨rfl, row_zero⟩, by omega⟩
          all_goals first
            | (exfalso
               have h8 : indexG (memL' c (ids.take j)) (ids.getD j default) 0 ≥ 0 := by assumption
               have h9 := hds (by omega)
               rw [hd] at h9
               have h10 := (Bool.or_eq_false_iff.1 h9.symm).1
               have := hix.2 h10
               omega)
            | (have h9 := hds (by omega)
               rw [hd] at h9
               exact ⟨by omega, (Bool.or_eq_false_iff.1 h9.symm).2⟩)
            | (rw [hms (by omega), List.length_append, List.length_singleton]
               refine row_snocA (x := (⟨ids.getD j default, true, c⟩ : MemT)) rfl (RowLe.refl _ _ _) ?_
               repeat' first
                 | exact trivial
                 | exact DLe.refl _
                 | apply And.intro
               done)
            | exact ⟨trivial, trivial, by rw [hms (by omega), List.length_append, List.length_singleton]⟩
            | exact ⟨trivial, by omega, by omega⟩
            | (have hjn : j = ids.length := by omega
               subst hjn
               refine ⟨(), trivial, ?_⟩
               rw [List.take_length]
               conv => whnf
               repeat' first
                 | (refine bc_true (by assumption) ?_; (conv => whnf))
                 | (refine bc_false (by assumption) ?_; (conv => whnf))
                 | (refine bc_intro (fun _ => ?_) (fun _ => ?_) <;> (conv => whnf))
                 | (refine need_intro ?_ ?_; (conv => whnf))
                 | (refine wk_refl ?_; (conv => whnf))
                 | (refine draw_intro (by kernel_rfl) ?_; (conv => whnf))
                 | (refine ord_intro (by kernel_rfl) ?_; (conv => whnf))
               all_goals first
                 | exact trivial
                 | exact DLe.refl _
                 | exact RowLe.refl _ _ _
                 | exact ⟨rfl, rfl⟩
                 | exact ⟨rfl, rfl, rfl⟩
                 | exact ⟨rfl, rfl, by rw [memL_len]⟩
                 | trace_state)
            | trace_state
end Go.Proofs.YtngdpchhogfhfaaGreatDoor

namespace Go.Proofs.YtngdpchhogfhfaaGreatDoor
open Go Go.Sx Go.ChangeShapes Go.WideShapes Go.ChangeAt Go.RowKit
set_option linter.unusedVariables false
set_option linter.unusedSimpArgs false
set_option maxRecDepth 100000
theorem newrO (m : Nat) (n : Int) (ids : List Int) (c : CopyT) {k : Nat} {gf : Nat → Nat → D} {A : List SV} : ((k = ids.length ∧ RowLe k 1 gf (cellOf encI ids)) ∧ LeL A (copyL c) ∧ Small c ∧ ids.length ≤ 5 ∧ ids.length ≠ 0 ∧ numOk n = true ∧ validC c = true ∧ ids.all numOk = true ∧ dupL ids 0 = false) → Sx.Spec Tryz.prog GG 37 [.d (.int .i64 n), .d (.list k 1 gf), .agg A] []
    (.tup [.agg [.d (.int .i64 n), .d (.bool true), .osl m 32 0 ids.length], .d (.int .i64 0)]) [(m, .row 59 32 ids.length (cellOf encMem (memL' c ids)))] := by
  rintro ⟨⟨hk, hr⟩, hA, h⟩
  subst hk
  obtain ⟨_, _, hs⟩ := newrO0 n ids c h
  have := hs.new1 m
  exact this.arg (LeL.cons (LeS.refl _) (LeL.cons (LeS.d (DLe.rows rfl hr)) (LeL.cons (LeS.agg hA) LeL.nil)))
def pairC1 : CopyT := rawC [97] false [109] false 2 0 [([107], [])]
def pairC2 : CopyT := rawC [109] false [122] false 5 0 []
theorem pair0 : ∃ x : Unit, True ∧ Sx.Spec Tryz.prog GG 13 [] [] (.tup [.agg [.d (.int .i64 1), .d (.bool true), .osl 2000 32 0 2], .agg [.d (.int .i64 2), .d (.bool true), .osl 3000 32 0 1]])
    [(2000, .row 59 32 2 (cellOf encMem (memL' pairC1 [1, 2]))), (3000, .row 59 32 1 (cellOf encMem (memL' pairC2 [3])))] := by
  refine spec_some (E := EE) (fn := Tryz.f13) _ _ _ true eok (by kernel_rfl) (by kernel_rfl) Tryz.call13 (by kernel_rfl) (fun _ => by kernel_rfl) (fun _ => by kernel_rfl) ?_
  conv => whnf
  repeat' first
    | (refine call_if (newrO 600 1 [1, 2] pairC1) (by first | exact .inl rfl | exact .inr ⟨rfl, rfl⟩) (need_intro ?_ ?_); (conv => whnf))
    | (refine call_if (newrO 700 2 [3] pairC2) (by first | exact .inl rfl | exact .inr ⟨rfl, rfl⟩) (need_intro ?_ ?_); (conv => whnf))
    | (refine bc_true (by assumption) ?_; (conv => whnf))
    | (refine bc_false (by assumption) ?_; (conv => whnf))
    | (refine need_intro ?_ ?_; (conv => whnf))
    | (refine wk_refl ?_; (conv => whnf))
    | (refine draw_intro (by kernel_rfl) ?_; (conv => whnf))
    | (refine ord_intro (by kernel_rfl) ?_; (conv => whnf))
  all_goals try
    (refine ⟨⟨rfl, .of_eq fun i j hi hj => ?_⟩, ?_, by simp [pairC1, pairC2, noPart, Small], by decide, by decide, rfl, rfl, rfl, rfl⟩
     · match i, hi, j, hj with
       | 0, _, 0, _ => rfl
       | 1, _, 0, _ => rfl
     · repeat' first
         | exact LeL.nil
         | exact LeS.refl _
         | exact LeS.d DLe.nil
         | exact LeS.d (dle_lit (L := [(([107] : List UInt8), ([] : List UInt8))]) (enc := encRow) (k := 2) (by kernel_rfl) rfl (row_one (x := (([107] : List UInt8), ([] : List UInt8))) (jlt2 (DLe.of_eq rfl) (DLe.of_eq rfl))))
         | apply LeL.cons)
  all_goals try
    (refine ⟨(), trivial, ?_⟩
     conv => whnf
     repeat' first
       | (refine bc_true (by assumption) ?_; (conv => whnf))
       | (refine bc_false (by assumption) ?_; (conv => whnf))
       | (refine bc_intro (fun _ => ?_) (fun _ => ?_) <;> (conv => whnf))
       | (refine need_intro ?_ ?_; (conv => whnf))
       | (refine wk_refl ?_; (conv => whnf))
       | (refine draw_intro (by kernel_rfl) ?_; (conv => whnf))
       | (refine ord_intro (by kernel_rfl) ?_; (conv => whnf))
     all_goals first
       | exact trivial
       | exact DLe.refl _
       | exact RowLe.refl _ _ _
       | exact ⟨rfl, rfl⟩
       | exact ⟨rfl, rfl, rfl⟩
       | trace_state)
  all_goals trace_state
theorem pair_spec (m k : Nat) (hmk : m ≠ k) : Sx.Spec Tryz.prog GG 13 [] [] (.tup [.agg [.d (.int .i64 1), .d (.bool true), .osl m 32 0 2], .agg [.d (.int .i64 2), .d (.bool true), .osl k 32 0 1]])
    [(m, .row 59 32 2 (cellOf encMem (memL' pairC1 [1, 2]))), (k, .row 59 32 1 (cellOf encMem (memL' pairC2 [3])))] := by
  obtain ⟨_, _, h⟩ := pair0
  have := h.ren (fun i => if i = 2000 then m else k) (by
    intro x y hx hy e
    simp only [keysP, List.map_cons, List.map_nil, List.mem_cons, List.not_mem_nil, or_false] at hx hy
    rcases hx with rfl | rfl <;> rcases hy with rfl | rfl <;> simp_all [Ne.symm])
  exact this
end Go.Proofs.YtngdpchhogfhfaaGreatDoor

namespace Go.Proofs.YtngdpchhogfhfaaGreatDoor
open Go Go.Sx Go.ChangeShapes Go.WideShapes Go.ChangeAt Go.RowKit
set_option linter.unusedVariables false
set_option linter.unusedSimpArgs false
set_option maxRecDepth 100000
abbrev E27 : List Nat := [87, 47, 49, 78, 51, 1000000 + 29]
theorem eok27 : EOk Tryz.prog E27 := by
  refine ⟨by kernel_rfl, ?_⟩
  intro T hT
  simp only [memN_iff] at hT
  simp only [List.mem_cons, List.not_mem_nil, or_false] at hT
  rcases hT with rfl | rfl | rfl | rfl | rfl | rfl <;> exact ⟨by kernel_rfl, by kernel_rfl⟩
def pairG1 : GrpT := ⟨1, true, memL' (rawC [] false [109] false 2 0 [([107], [])]) [1, 2]⟩
def pairG2 : GrpT := ⟨2, true, memL' (rawC [109] false [] true 5 0 []) [3]⟩
structure StartQ (gs : List GrpT) : Prop where
  tile : ∃ T0 : List Row, TabOk T0 ∧ T0.length ≤ 8 ∧ TileP T0 gs ([], true)
  le : gs.length ≤ 4
  ge : 2 ≤ gs.length
theorem start_pair : StartQ [pairG1, pairG2] := by
  refine ⟨⟨[([107], [])], validT_iff.1 rfl, by simp, ?_⟩, by simp, by simp⟩
  have h1 : FreshG [([107], [])] 0 pairG1 ([], false) ([109], false) := by
    refine ⟨rfl, rfl, by decide, by decide, ?_, ?_, ?_, ?_, ?_⟩
    · intro i j hi hj h
      simp only [pairG1, memL', List.map_cons, List.map_nil, List.length_cons, List.length_nil] at hi hj h
      match i, j, hi, hj, h with
      | 0, 0, _, _, _ => rfl
      | 1, 1, _, _, _ => rfl
      | 0, 1, _, _, h => exact absurd h (by decide)
      | 1, 0, _, _, h => exact absurd h (by decide)
    · intro m hm; simp [pairG1, memL'] at hm; rcases hm with rfl | rfl <;> rfl
    · intro m hm; simp [pairG1, memL'] at hm; rcases hm with rfl | rfl <;> rfl
    · intro m hm; simp [pairG1, memL'] at hm; rcases hm with rfl | rfl <;> rfl
    · exact ⟨rfl, by simp [own0, pairG1, memL', SmallC, noPart], rfl, rfl, rfl, rfl, rfl, rfl, rfl, rfl, by decide, by decide, rfl⟩
  have h2 : FreshG [([107], [])] 1 pairG2 ([109], false) ([], true) := by
    refine ⟨rfl, rfl, by decide, by decide, ?_, ?_, ?_, ?_, ?_⟩
    · intro i j hi hj h
      simp only [pairG2, memL', List.map_cons, List.map_nil, List.length_cons, List.length_nil] at hi hj h
      omega
    · intro m hm; simp [pairG2, memL'] at hm; rcases hm with rfl; rfl
    · intro m hm; simp [pairG2, memL'] at hm; rcases hm with rfl; rfl
    · intro m hm; simp [pairG2, memL'] at hm; rcases hm with rfl; rfl
    · exact ⟨rfl, by simp [own0, pairG2, memL', SmallC, noPart], rfl, rfl, rfl, rfl, rfl, rfl, rfl, rfl, by decide, by decide, rfl⟩
  exact tilep_snoc (gs := [pairG1]) (tilep_snoc (gs := []) ⟨_, tile_nil, rfl⟩ h1) h2
set_option maxHeartbeats 4000000 in
theorem start0 {l : List Int} {a : Nat} : TapeOk l a → ∃ x : List GrpT × Nat, (StartQ x.1 ∧ TapeOk l x.2) ∧ Sx.Spec Tryz.prog GG 7 [.ptr 1000 0] [(1000, tapeB l a)] (.ptr 2000 0) [(1000, tapeB l x.2), (2000, .box [.osl 3000 3 0 x.1.length, .d (.int .i64 0)]), (3000, .row 34 3 x.1.length (cellOf encGrp x.1))] := by
  intro h
  refine spec_some (E := E27) (fn := Tryz.f7) _ _ _ true eok27 (by kernel_rfl) (by kernel_rfl) Tryz.call7 (by kernel_rfl) (fun _ => by kernel_rfl) (fun _ => by kernel_rfl) ?_
  conv => whnf
  repeat' first
    | (refine call_some_if (net_t 1000 600 (by decide)) (fun _ => by first | exact .inl rfl | exact .inr ⟨rfl, rfl⟩) (need_intro ?_ ?_); rintro ⟨gs, b⟩ ⟨⟨hT, hq, hn1, hn2⟩, h6⟩; (conv => whnf))
    | (refine call_intro (pair_spec 700 800 (by decide)) ?_ (by first | exact .inl rfl | exact .inr ⟨rfl, rfl⟩); (conv => whnf))
    | (refine bc_true (by assumption) ?_; (conv => whnf))
    | (refine bc_false (by assumption) ?_; (conv => whnf))
    | (refine bc_intro (fun _ => ?_) (fun _ => ?_) <;> (conv => whnf))
    | (refine need_intro ?_ ?_; (conv => whnf))
    | (refine wk_refl ?_; (conv => whnf))
    | (refine draw_intro (by kernel_rfl) ?_; (conv => whnf))
    | (refine ord_intro (by kernel_rfl) ?_; (conv => whnf))
  all_goals try simp only [decide_eq_true_eq, decide_eq_false_iff_not] at *
  all_goals try first
    | decide
    | exact ⟨by decide, by decide⟩
    | exact ⟨h, by decide, by decide⟩
  all_goals first
    | (refine ⟨([pairG1, pairG2], b), ⟨start_pair, h6⟩, ?_⟩
       conv => whnf
       repeat' first
         | (refine bc_true (by assumption) ?_; (conv => whnf))
         | (refine bc_false (by assumption) ?_; (conv => whnf))
         | (refine bc_intro (fun _ => ?_) (fun _ => ?_) <;> (conv => whnf))
         | (refine need_intro ?_ ?_; (conv => whnf))
         | (refine wk_refl ?_; (conv => whnf))
         | (refine draw_intro (by kernel_rfl) ?_; (conv => whnf))
         | (refine ord_intro (by kernel_rfl) ?_; (conv => whnf))
       all_goals try first
         | exact trivial
         | exact DLe.refl _
         | exact RowLe.refl _ _ _
         | exact ⟨rfl, rfl⟩
         | exact ⟨rfl, rfl, rfl⟩
       all_goals
         refine RowLe.allD ?_
         repeat' first
           | exact trivial
           | exact DLe.of_eq rfl
           | exact DLe.nil
           | apply And.intro
           | (refine DLe.rows rfl (RowLe.allD ?_))
       all_goals trace_state)
    | (refine ⟨(gs, b), ⟨⟨hT, by simp only; omega, by simp only; omega⟩, h6⟩, ?_⟩
       conv => whnf
       repeat' first
         | (refine bc_true (by assumption) ?_; (conv => whnf))
         | (refine bc_false (by assumption) ?_; (conv => whnf))
         | (refine bc_intro (fun _ => ?_) (fun _ => ?_) <;> (conv => whnf))
         | (refine need_intro ?_ ?_; (conv => whnf))
         | (refine wk_refl ?_; (conv => whnf))
         | (refine draw_intro (by kernel_rfl) ?_; (conv => whnf))
         | (refine ord_intro (by kernel_rfl) ?_; (conv => whnf))
       all_goals try first
         | exact trivial
         | exact DLe.refl _
         | exact RowLe.refl _ _ _
         | exact ⟨rfl, rfl⟩
         | exact ⟨rfl, rfl, rfl⟩
       all_goals trace_state)
theorem start_ex (m j k : Nat) (h1 : m ≠ j) (h2 : m ≠ k) (h3 : j ≠ k) {l : List Int} {a : Nat} : TapeOk l a → ∃ x : List GrpT × Nat, (StartQ x.1 ∧ TapeOk l x.2) ∧ Sx.Spec Tryz.prog GG 7 [.ptr m 0] [(m, tapeB l a)] (.ptr j 0) [(m, tapeB l x.2), (j, .box [.osl k 3 0 x.1.length, .d (.int .i64 0)]), (k, .row 34 3 x.1.length (cellOf encGrp x.1))] := fun h => by
  obtain ⟨x, hx, hs⟩ := start0 h
  have := hs.ren (fun i => if i = 1000 then m else if i = 2000 then j else k) (by
    intro x y hx hy e
    simp only [keysP, List.map_cons, List.map_nil, List.mem_cons, List.not_mem_nil, or_false] at hx hy
    rcases hx with rfl | rfl | rfl <;> rcases hy with rfl | rfl | rfl <;> simp_all [Ne.symm])
  exact ⟨x, hx, this⟩
end Go.Proofs.YtngdpchhogfhfaaGreatDoor
