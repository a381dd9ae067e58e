/- Contracts of functions that the law reaches: YtngdpchhogfhfaaGreatDoorPlacesL. Written for this claim. -/
import Derived.Test.YtngdpchhogfhfaaGreatDoorPlc
import Derived.Test.YtngdpchhogfhfaaGreatDoorLay
namespace Go.Proofs.YtngdpchhogfhfaaGreatDoor
open Go Go.Sx Go.ChangeShapes Go.WideShapes Go.ChangeAt Go.WideMaps Go.WideElems Go.RowKit
set_option linter.unusedVariables false
set_option linter.unusedSimpArgs false
set_option maxRecDepth 100000
abbrev EPm : List Nat := (4000000 + 59) :: EE
theorem eokPm : EOk Tryz.prog EPm := by
  refine ⟨by kernel_rfl, ?_⟩
  intro T hT
  simp only [memN_iff] at hT
  simp only [List.mem_cons, List.not_mem_nil, or_false] at hT
  rcases hT with rfl | rfl | rfl | rfl | rfl | rfl <;> exact ⟨by kernel_rfl, by kernel_rfl⟩
theorem places_at (gs : List GrpT) (k : List UInt8) {n : Nat} {g : Nat → Nat → D} : ((n = gs.length ∧ RowLe n 3 g (cellOf encGrp gs)) ∧ cnt (plcA gs k) (plcB gs k) n = 1 ∧ gs.length ≤ 100 ∧ ∀ i, i < gs.length → (gs.getD i default).mem.length ≠ 0) → Sx.Spec Tryz.prog GG 12 [.d (.list n 3 g), .d (.str k)] [] (.d (.int .i64 1)) [] := by
  rintro ⟨⟨rfl, hr⟩, h1, h2⟩
  have := places0 gs k h2
  rw [h1] at this
  exact this.arg (LeL.cons (LeS.d (DLe.rows rfl hr)) (LeL.cons (LeS.refl _) LeL.nil))
/-- the first groups are cut to single members -/
def trnL (gs : List GrpT) (k : Nat) : List GrpT := (List.range gs.length).map fun a => if a < k then truncG (gs.getD a default) else gs.getD a default
theorem trn_len {gs : List GrpT} {k : Nat} : (trnL gs k).length = gs.length := by simp [trnL]
theorem trn_get {gs : List GrpT} {k a : Nat} (ha : a < gs.length) : (trnL gs k).getD a default = if a < k then truncG (gs.getD a default) else gs.getD a default := by
  simp [trnL, List.getD, ha]
theorem trn_zero {gs : List GrpT} : trnL gs 0 = gs := ext_gs trn_len fun j hj => by
  rw [trn_len] at hj
  rw [trn_get hj, if_neg (by omega)]
theorem trn_all {gs : List GrpT} : trnL gs gs.length = gs.map truncG := ext_gs (by rw [trn_len, List.length_map]) fun j hj => by
  rw [trn_len] at hj
  rw [trn_get hj, if_pos hj, getD_map1 hj]
theorem trn_set {gs : List GrpT} {k : Nat} (hk : k < gs.length) : (trnL gs k).set k (truncG (gs.getD k default)) = trnL gs (k + 1) := by
  refine ext_gs (by rw [List.length_set, trn_len, trn_len]) fun j hj => ?_
  rw [List.length_set, trn_len] at hj
  rw [getD_setG (by rw [trn_len]; exact hj), trn_get hj, trn_get hj]
  by_cases e : j = k
  · subst e
    rw [if_pos rfl, if_pos (by omega)]
  · rw [if_neg e]
    by_cases e2 : j < k
    · rw [if_pos e2, if_pos (by omega)]
    · rw [if_neg e2, if_neg (by omega)]
theorem row_setMm {gs : List GrpT} {p n : Nat} {ms : List MemT} {x : D} (hx : DLe x (encL encMem 32 ms)) (hp : p < gs.length) : RowLe n 3 (fun i' j' => if i' = 0 + p then if j' < 0 + 2 then cellOf encGrp gs i' j' else if j' < 0 + 2 + [x].length then [x].getD (j' - (0 + 2)) default else cellOf encGrp gs i' j' else cellOf encGrp gs i' j')
    (cellOf encGrp (gs.set p { gs.getD p default with mem := ms })) := by
  refine ⟨fun i' j' _ hj => ?_⟩
  by_cases hi : i' = 0 + p
  · rw [Nat.zero_add] at hi
    subst hi
    simp only [Nat.zero_add, if_true, List.length_cons, List.length_nil]
    have e : (gs.set i' { gs.getD i' default with mem := ms }).getD i' default = { gs.getD i' default with mem := ms } := by simp [List.getD, hp]
    simp only [cellOf, e]
    match j', hj with
    | 0, _ => exact DLe.refl _
    | 1, _ => exact DLe.refl _
    | 2, _ => exact hx
  · have : i' ≠ p := by omega
    simp only [if_neg hi, cellOf]
    have e : (gs.set p { gs.getD p default with mem := ms }).getD i' default = gs.getD i' default := by simp [List.getD, List.getElem?_set_ne (Ne.symm this)]
    rw [e]
    exact DLe.refl _
theorem trn_row {gs : List GrpT} {i n : Nat} (hgl : gs.length = n) (hil : i < n) (hm1 : ∀ i, i < n → 1 ≤ (gs.getD i default).mem.length) : RowLe n 3 (fun i' j' => if i' = 0 + Int.toNat (i : Int) then if j' < 0 + 2 then cellOf encGrp (trnL gs i) i' j' else if j' < 0 + 2 + [D.list ((some (1 : Int)).getD (((trnL gs i).getD (0 + Int.toNat (i : Int)) default).mem.length : Int) - (none : Option Int).getD 0).toNat (Tryz.prog.cellsOf 59) fun a j => cellOf encMem ((trnL gs i).getD (0 + Int.toNat (i : Int)) default).mem (((none : Option Int).getD 0).toNat + a) j].length then
      [D.list ((some (1 : Int)).getD (((trnL gs i).getD (0 + Int.toNat (i : Int)) default).mem.length : Int) - (none : Option Int).getD 0).toNat (Tryz.prog.cellsOf 59) fun a j => cellOf encMem ((trnL gs i).getD (0 + Int.toNat (i : Int)) default).mem (((none : Option Int).getD 0).toNat + a) j].getD (j' - (0 + 2)) default else cellOf encGrp (trnL gs i) i' j' else cellOf encGrp (trnL gs i) i' j') (cellOf encGrp (trnL gs (i + 1))) := by
  have hi2 : i < (trnL gs i).length := by rw [trn_len]; omega
  have e : trnL gs (i + 1) = (trnL gs i).set i { (trnL gs i).getD i default with mem := ((trnL gs i).getD i default).mem.take 1 } := by
    rw [← trn_set (by omega)]
    congr 1
    rw [trn_get (by omega), if_neg (by omega)]
    rfl
  rw [e]
  simp only [Int.toNat_natCast]
  refine row_setMm ?_ hi2
  have hm : 1 ≤ ((trnL gs i).getD i default).mem.length := by
    rw [trn_get (by omega), if_neg (by omega)]
    exact hm1 i hil
  rw [Nat.zero_add]
  refine DLe.rows (by rw [List.length_take]; show (1 : Int).toNat = _; omega) ⟨fun a j ha _ => DLe.of_eq ?_⟩
  rw [List.length_take] at ha
  obtain rfl : a = 0 := by omega
  show cellOf encMem ((trnL gs i).getD i default).mem 0 j = cellOf encMem (((trnL gs i).getD i default).mem.take 1) 0 j
  simp only [cellOf]
  congr 2
  cases ((trnL gs i).getD i default).mem with
  | nil => rfl
  | cons m ms => rfl
set_option maxHeartbeats 8000000 in
theorem handoverPlaces_law (l : List Int) (key : List UInt8) (hl : ∀ x ∈ l, -9223372036854775808 ≤ x ∧ x < 9223372036854775808) : Sx.Spec Tryz.prog GG 3 [.d (encL encI 1 l), .d (.str key)] [] (.d (.bool true)) [] := by
  refine spec_intro (E := EPm) (fn := Tryz.f3) eokPm (by kernel_rfl) (by kernel_rfl) Tryz.call3 (by kernel_rfl) (by kernel_rfl) ?_
  conv => whnf
  repeat' first
    | (refine call_intro (validKeyr_spec key) ?_ (by first | exact .inl rfl | exact .inr ⟨rfl, rfl⟩); (conv => whnf))
    | (refine call_intro (awake27_spec) ?_ (by first | exact .inl rfl | exact .inr ⟨rfl, rfl⟩); (conv => whnf))
    | (refine call_some (new_ex 2000 hl) (fun _ => by first | exact .inl rfl | exact .inr ⟨rfl, rfl⟩) ?_; rintro ⟨tl, ta⟩ hT; (conv => whnf))
    | (refine call_some_if (start_ex 2000 4000 5000 (by decide) (by decide) (by decide)) (fun _ => by first | exact .inl rfl | exact .inr ⟨rfl, rfl⟩) (need_intro ?_ ?_); rintro ⟨gs0, b⟩ ⟨hq, h6⟩; (conv => whnf))
    | (refine bc_true (by assumption) ?_; (conv => whnf))
    | (refine bc_false (by assumption) ?_; (conv => whnf))
    | (refine bc_intro (fun _ => ?_) (fun _ => ?_) <;> (conv => whnf))
    | (refine need_intro ?_ ?_; (conv => whnf))
    | (refine wk_refl ?_; (conv => whnf))
    | (refine draw_intro (by kernel_rfl) ?_; (conv => whnf))
    | (refine ord_intro (by kernel_rfl) ?_; (conv => whnf))
  all_goals try first
    | assumption
    | exact ⟨hT, by omega, by omega⟩
    | exact ⟨LeS.refl _, trivial⟩
  have hkey : (key.length : Int) ≤ 64 := by
    have : (!decide ((key.length : Int) ≤ 64)) = false := by assumption
    simpa using this
  obtain ⟨⟨T0, hT0, _, bs, hbs, htop⟩, hle, hge⟩ := hq
  dsimp only at hle hge hbs htop h6
  have hI0 := tile_inv (tile_trunc hbs) (by rw [List.length_map]; exact htop)
  refine loop_auto [1, 5, 6] [] (fun z : (Nat × List GrpT × Int) × Nat => [(7, .d (.int .i64 z.1.1))]) (fun z => [(4000, .box [.osl 5000 3 0 gs0.length, .d (.int .i64 z.1.2.2)]), (5000, .row 34 3 gs0.length (cellOf encGrp z.1.2.1)), (2000, tapeB tl z.2)])
    (fun z => (z.1.1 ≤ 80 ∧ z.1.2.1.length = gs0.length ∧ (InvN z.1.2.2 (z.1.2.1.map truncG) ∧ One1 (z.1.2.1.map truncG)) ∧ z.1.2.2 ≤ z.1.1) ∧ TapeOk tl z.2) (fun z => 80 - z.1.1) ((0, gs0, 0), b) ?_ (fun z hz => ?_) ⟨⟨by simp, rfl, ⟨hI0, trunc_are hbs⟩, by simp⟩, h6⟩
  · conv => whnf
    repeat' first
      | (refine bc_true (by assumption) ?_; (conv => whnf))
      | (refine bc_false (by assumption) ?_; (conv => whnf))
      | (refine bc_intro (fun _ => ?_) (fun _ => ?_) <;> (conv => whnf))
      | (refine need_intro ?_ ?_; (conv => whnf))
      | (refine wk_refl ?_; (conv => whnf))
      | (refine draw_intro (by kernel_rfl) ?_; (conv => whnf))
      | (refine ord_intro (by kernel_rfl) ?_; (conv => whnf))
    all_goals first | exact trivial | exact DLe.refl _ | exact DLe.nil | exact RowLe.refl _ _ _ | exact ⟨rfl, rfl⟩ | exact ⟨rfl, rfl, rfl⟩ | trace_state
  obtain ⟨⟨k, gs, N⟩, b⟩ := z
  obtain ⟨⟨hk, hgl, ⟨hI, hO⟩, hNk⟩, hb⟩ := hz
  dsimp only at hk hgl hI hO hNk hb
  have hgm : (gs.map truncG).length = gs0.length := by rw [List.length_map]; exact hgl
  have hm1 : ∀ i, i < gs0.length → 1 ≤ (gs.getD i default).mem.length := fun i hi => by
    have := hO i (by rw [hgm]; exact hi)
    rw [getD_map1 (by omega)] at this
    have h2 : (List.take 1 (gs.getD i default).mem).length = 1 := this
    rw [List.length_take] at h2
    omega
  have hsk : IntKind.i64.wrap ((k : Int) + 1) = ((k + 1 : Nat) : Int) := wrap_succ (n := 100) (by omega) (by omega)
  conv => whnf
  repeat' first
    | (refine call_some_if (left_ex _) (fun _ => by first | exact .inl rfl | exact .inr ⟨rfl, rfl⟩) (need_intro ?_ ?_); rintro ⟨v, b⟩ h6; (conv => whnf))
    | (refine bc_true (by assumption) ?_; (conv => whnf))
    | (refine bc_false (by assumption) ?_; (conv => whnf))
    | (refine need_intro ?_ ?_; (conv => whnf))
    | (refine wk_refl ?_; (conv => whnf))
    | (refine draw_intro (by kernel_rfl) ?_; (conv => whnf))
    | (refine ord_intro (by kernel_rfl) ?_; (conv => whnf))
  all_goals try dsimp only at *
  all_goals try assumption
  refine bc_intro (fun hk80 => ?_) (fun hk80 => ?_)
  rotate_left
  · conv => whnf
    repeat' first
      | (refine call_intro (awake27_spec) ?_ (by first | exact .inl rfl | exact .inr ⟨rfl, rfl⟩); (conv => whnf))
      | (refine bc_true (by assumption) ?_; (conv => whnf))
      | (refine bc_false (by assumption) ?_; (conv => whnf))
      | (refine bc_intro (fun _ => ?_) (fun _ => ?_) <;> (conv => whnf))
      | (refine need_intro ?_ ?_; (conv => whnf))
      | (refine wk_refl ?_; (conv => whnf))
      | (refine draw_intro (by kernel_rfl) ?_; (conv => whnf))
      | (refine ord_intro (by kernel_rfl) ?_; (conv => whnf))
    all_goals first
      | exact ⟨LeS.refl _, trivial⟩
      | trace_state
  conv => whnf
  repeat' first
    | (refine call_some_if (left_ex _) (fun _ => by first | exact .inl rfl | exact .inr ⟨rfl, rfl⟩) (need_intro ?_ ?_); rintro ⟨v, b⟩ h6; (conv => whnf))
    | (refine call_intro (awake27_spec) ?_ (by first | exact .inl rfl | exact .inr ⟨rfl, rfl⟩); (conv => whnf))
    | (refine bc_true (by assumption) ?_; (conv => whnf))
    | (refine bc_false (by assumption) ?_; (conv => whnf))
    | (refine bc_intro (fun _ => ?_) (fun _ => ?_) <;> (conv => whnf))
    | (refine need_intro ?_ ?_; (conv => whnf))
    | (refine wk_refl ?_; (conv => whnf))
    | (refine draw_intro (by kernel_rfl) ?_; (conv => whnf))
    | (refine ord_intro (by kernel_rfl) ?_; (conv => whnf))
  all_goals try dsimp only at *
  all_goals try first
    | assumption
    | exact ⟨LeS.refl _, trivial⟩
  refine loop_auto [1, 5, 6, 7, 31, 32] [4000, 2000] (fun i : Nat => [(33, .d (.int .i64 i))]) (fun i => [(5000, .row 34 3 gs0.length (cellOf encGrp (trnL gs i)))]) (fun i => i ≤ gs0.length) (fun i => gs0.length - i) 0 ?_ (fun i hi => ?_) (by omega)
  · rw [trn_zero]
    conv => whnf
    repeat' first
      | (refine bc_true (by assumption) ?_; (conv => whnf))
      | (refine bc_false (by assumption) ?_; (conv => whnf))
      | (refine bc_intro (fun _ => ?_) (fun _ => ?_) <;> (conv => whnf))
      | (refine need_intro ?_ ?_; (conv => whnf))
      | (refine wk_refl ?_; (conv => whnf))
      | (refine draw_intro (by kernel_rfl) ?_; (conv => whnf))
      | (refine ord_intro (by kernel_rfl) ?_; (conv => whnf))
    all_goals first | exact trivial | exact DLe.refl _ | exact DLe.nil | exact RowLe.refl _ _ _ | exact ⟨rfl, rfl⟩ | exact ⟨rfl, rfl, rfl⟩ | trace_state
  have hs : IntKind.i64.wrap ((i : Int) + 1) = ((i + 1 : Nat) : Int) := wrap_succ (n := 2000) (by omega) (by omega)
  rcases Nat.lt_or_eq_of_le hi with hil | rfl
  · have hil' : decide ((i : Int) < ((gs0.length : Nat) : Int)) = true := decide_eq_true (by omega)
    have hlen : 1 ≤ ((trnL gs i).getD (0 + Int.toNat (i : Int)) default).mem.length := by
      rw [Nat.zero_add, Int.toNat_natCast, trn_get (by omega), if_neg (by omega)]
      exact hm1 i hil
    conv => whnf
    repeat' first
      | (refine NextVC.mk (i + 1) ?_ ?_ ?_; (conv => whnf))
      | (refine bc_true (by assumption) ?_; (conv => whnf))
      | (refine bc_false (by assumption) ?_; (conv => whnf))
      | (refine bc_intro (fun _ => ?_) (fun _ => ?_) <;> (conv => whnf))
      | (refine need_intro ?_ ?_; (conv => whnf))
      | (refine wk_refl ?_; (conv => whnf))
      | (refine draw_intro (by kernel_rfl) ?_; (conv => whnf))
      | (refine ord_intro (by kernel_rfl) ?_; (conv => whnf))
    all_goals first
      | exact trivial
      | exact DLe.refl _
      | exact DLe.of_eq (by rw [hs])
      | exact ⟨rfl, rfl, rfl⟩
      | omega
      | (simp only [Int.toNat_natCast]; omega)
      | exact ⟨by omega, by omega⟩
      | (simp only [Option.getD_none, Option.getD_some]; exact ⟨by omega, by omega, by omega⟩)
      | (simp only [Option.getD_none, Option.getD_some, bytesMem]; exact ⟨by omega, by omega⟩)
      | exact trn_row hgl hil hm1
      | trace_state
  · have hil' : decide (((gs0.length : Nat) : Int) < ((gs0.length : Nat) : Int)) = false := decide_eq_false (by omega)
    rw [← hgl, trn_all, hgl]
    generalize gs.map truncG = gt at hI hO hgm
    clear hm1
    have hE : ∀ u1 u2 ev, u1 < gs0.length → u2 < gs0.length → InvN (evN N ev) (evS N gt u1 u2 ev) := fun u1 u2 ev h1 h2 => inv_ev hI (by omega) (by omega)
    have hEl : ∀ u1 u2 ev, (evS N gt u1 u2 ev).length = gs0.length := fun u1 u2 ev => by rw [evS_len, hgm]
    have hEn : ∀ ev, evN N ev ≤ ((k + 1 : Nat) : Int) := fun ev => by have := (evN_le (N := N) (e := ev)).2; omega
    have hE1 : ∀ u1 u2 ev, u1 < gs0.length → One1 (evS N gt u1 u2 ev) := fun u1 u2 ev h1 => evS_one hO (by omega)
    have hEt : ∀ u1 u2 ev, u1 < gs0.length → (evS N gt u1 u2 ev).map truncG = evS N gt u1 u2 ev := fun u1 u2 ev h1 => trunc_all (hE1 u1 u2 ev h1)
    have hP : ∀ u1 u2 ev, u1 < gs0.length → u2 < gs0.length → ∀ q : List UInt8, (q.length : Int) ≤ 64 → cnt (plcA (evS N gt u1 u2 ev) q) (plcB (evS N gt u1 u2 ev) q) gs0.length = 1 := fun u1 u2 ev h1 h2 q hq => by
      have := plc_one (hE u1 u2 ev h1 h2) (one_own (hE u1 u2 ev h1 h2) (hE1 u1 u2 ev h1)) hq
      rwa [hEl] at this
    have hM : ∀ u1 u2 ev, u1 < gs0.length → ∀ i, i < gs0.length → ((evS N gt u1 u2 ev).getD i default).mem.length ≠ 0 := fun u1 u2 ev h1 i hi => by
      have := hE1 u1 u2 ev h1 i (by rw [hEl]; exact hi)
      omega
    conv => whnf
    repeat' first
      | (refine call_some_if (act_ex 4000 2000 5000 (by decide) (by decide) (by decide) gt N) (fun _ => by first | exact .inl rfl | exact .inr ⟨rfl, rfl⟩) (need_intro ?_ ?_); rintro ⟨⟨u1, u2, ev⟩, b⟩ ⟨⟨hu1, hu2⟩, h6⟩; (conv => whnf))
      | (refine call_if (sound_ex 4000 5000 (by decide) (evS N gt u1 u2 ev) (evN N ev) gs0.length) (by first | exact .inl rfl | exact .inr ⟨rfl, rfl⟩) (need_intro ?_ ?_); (conv => whnf))
      | (refine call_some_if (key_ex _) (fun _ => by first | exact .inl rfl | exact .inr ⟨rfl, rfl⟩) (need_intro ?_ ?_); rintro ⟨q, b⟩ ⟨hq, h6⟩; (conv => whnf))
      | (refine bc_true (by assumption) ?_; (conv => whnf))
      | (refine bc_false (by assumption) ?_; (conv => whnf))
      | (refine bc_intro (fun _ => ?_) (fun _ => ?_) <;> (conv => whnf))
      | (refine need_intro ?_ ?_; (conv => whnf))
      | (refine wk_refl ?_; (conv => whnf))
      | (refine draw_intro (by kernel_rfl) ?_; (conv => whnf))
      | (refine ord_intro (by kernel_rfl) ?_; (conv => whnf))
    all_goals try dsimp only at *
    all_goals try simp only [decide_eq_true_eq, decide_eq_false_iff_not] at *
    all_goals try first
      | assumption
      | exact ⟨hEl _ _ _, by omega, hM u1 u2 ev hu1⟩
      | exact ⟨by assumption, hgm, hge, by omega, hI, by omega⟩
    refine loop_auto [1, 5, 6, 7, 59, 60] [4000, 5000, 2000] (fun x : Nat × Unit => [(61, .d (.int .i64 x.1))]) (fun x => []) (fun x => x.1 ≤ 4) (fun x => 4 - x.1) (0, ()) ?_ (fun x hx => ?_) (by simp)
    · conv => whnf
      repeat' first
        | (refine bc_true (by assumption) ?_; (conv => whnf))
        | (refine bc_false (by assumption) ?_; (conv => whnf))
        | (refine bc_intro (fun _ => ?_) (fun _ => ?_) <;> (conv => whnf))
        | (refine need_intro ?_ ?_; (conv => whnf))
        | (refine wk_refl ?_; (conv => whnf))
        | (refine draw_intro (by kernel_rfl) ?_; (conv => whnf))
        | (refine ord_intro (by kernel_rfl) ?_; (conv => whnf))
      all_goals first | exact trivial | exact DLe.refl _ | exact DLe.nil | exact RowLe.refl _ _ _ | exact ⟨rfl, rfl⟩ | exact ⟨rfl, rfl, rfl⟩ | trace_state
    obtain ⟨x, _⟩ := x
    dsimp only at hx ⊢
    have hsx : IntKind.i64.wrap ((x : Int) + 1) = ((x + 1 : Nat) : Int) := wrap_succ (n := 100) (by omega) (by omega)
    match x, hx, hsx with
    | 0, _, hsx =>
      conv => whnf
      repeat' first
        | (refine call_if (places_at (evS N gt u1 u2 ev) key) (by first | exact .inl rfl | exact .inr ⟨rfl, rfl⟩) (need_intro ?_ ?_); (conv => whnf))
        | (refine NextVC.mk (1, ()) ?_ ?_ ?_; (conv => whnf))
        | (refine bc_true (by assumption) ?_; (conv => whnf))
        | (refine bc_false (by assumption) ?_; (conv => whnf))
        | (refine bc_intro (fun _ => ?_) (fun _ => ?_) <;> (conv => whnf))
        | (refine need_intro ?_ ?_; (conv => whnf))
        | (refine wk_refl ?_; (conv => whnf))
        | (refine draw_intro (by kernel_rfl) ?_; (conv => whnf))
        | (refine ord_intro (by kernel_rfl) ?_; (conv => whnf))
      all_goals try first
        | decide
        | exact ⟨by decide, by decide⟩
        | exact DLe.refl _
        | exact RowLe.refl _ _ _
        | exact trivial
        | exact DLe.of_eq (by rw [hsx])
        | exact ⟨rfl, rfl, rfl⟩
        | exact ⟨trivial, trivial, trivial⟩
      all_goals first
        | exact ⟨⟨(hEl _ _ _).symm, RowLe.of_eq (fun i j _ _ => by rw [Nat.zero_add])⟩, hP u1 u2 ev hu1 hu2 _ (by first | assumption | decide | omega), by rw [hEl]; omega, fun i hi => hM u1 u2 ev hu1 i (by rw [hEl] at hi; exact hi)⟩
        | trace_state
    | 1, _, hsx =>
      conv => whnf
      repeat' first
        | (refine call_if (places_at (evS N gt u1 u2 ev) ([] : List UInt8)) (by first | exact .inl rfl | exact .inr ⟨rfl, rfl⟩) (need_intro ?_ ?_); (conv => whnf))
        | (refine NextVC.mk (2, ()) ?_ ?_ ?_; (conv => whnf))
        | (refine bc_true (by assumption) ?_; (conv => whnf))
        | (refine bc_false (by assumption) ?_; (conv => whnf))
        | (refine bc_intro (fun _ => ?_) (fun _ => ?_) <;> (conv => whnf))
        | (refine need_intro ?_ ?_; (conv => whnf))
        | (refine wk_refl ?_; (conv => whnf))
        | (refine draw_intro (by kernel_rfl) ?_; (conv => whnf))
        | (refine ord_intro (by kernel_rfl) ?_; (conv => whnf))
      all_goals try first
        | decide
        | exact ⟨by decide, by decide⟩
        | exact DLe.refl _
        | exact RowLe.refl _ _ _
        | exact trivial
        | exact DLe.of_eq (by rw [hsx])
        | exact ⟨rfl, rfl, rfl⟩
        | exact ⟨trivial, trivial, trivial⟩
      all_goals first
        | exact ⟨⟨(hEl _ _ _).symm, RowLe.of_eq (fun i j _ _ => by rw [Nat.zero_add])⟩, hP u1 u2 ev hu1 hu2 _ (by first | assumption | decide | omega), by rw [hEl]; omega, fun i hi => hM u1 u2 ev hu1 i (by rw [hEl] at hi; exact hi)⟩
        | trace_state
    | 2, _, hsx =>
      conv => whnf
      repeat' first
        | (refine call_if (places_at (evS N gt u1 u2 ev) [98]) (by first | exact .inl rfl | exact .inr ⟨rfl, rfl⟩) (need_intro ?_ ?_); (conv => whnf))
        | (refine NextVC.mk (3, ()) ?_ ?_ ?_; (conv => whnf))
        | (refine bc_true (by assumption) ?_; (conv => whnf))
        | (refine bc_false (by assumption) ?_; (conv => whnf))
        | (refine bc_intro (fun _ => ?_) (fun _ => ?_) <;> (conv => whnf))
        | (refine need_intro ?_ ?_; (conv => whnf))
        | (refine wk_refl ?_; (conv => whnf))
        | (refine draw_intro (by kernel_rfl) ?_; (conv => whnf))
        | (refine ord_intro (by kernel_rfl) ?_; (conv => whnf))
      all_goals try first
        | decide
        | exact ⟨by decide, by decide⟩
        | exact DLe.refl _
        | exact RowLe.refl _ _ _
        | exact trivial
        | exact DLe.of_eq (by rw [hsx])
        | exact ⟨rfl, rfl, rfl⟩
        | exact ⟨trivial, trivial, trivial⟩
      all_goals first
        | exact ⟨⟨(hEl _ _ _).symm, RowLe.of_eq (fun i j _ _ => by rw [Nat.zero_add])⟩, hP u1 u2 ev hu1 hu2 _ (by first | assumption | decide | omega), by rw [hEl]; omega, fun i hi => hM u1 u2 ev hu1 i (by rw [hEl] at hi; exact hi)⟩
        | trace_state
    | 3, _, hsx =>
      conv => whnf
      repeat' first
        | (refine call_if (places_at (evS N gt u1 u2 ev) q) (by first | exact .inl rfl | exact .inr ⟨rfl, rfl⟩) (need_intro ?_ ?_); (conv => whnf))
        | (refine NextVC.mk (4, ()) ?_ ?_ ?_; (conv => whnf))
        | (refine bc_true (by assumption) ?_; (conv => whnf))
        | (refine bc_false (by assumption) ?_; (conv => whnf))
        | (refine bc_intro (fun _ => ?_) (fun _ => ?_) <;> (conv => whnf))
        | (refine need_intro ?_ ?_; (conv => whnf))
        | (refine wk_refl ?_; (conv => whnf))
        | (refine draw_intro (by kernel_rfl) ?_; (conv => whnf))
        | (refine ord_intro (by kernel_rfl) ?_; (conv => whnf))
      all_goals try first
        | decide
        | exact ⟨by decide, by decide⟩
        | exact DLe.refl _
        | exact RowLe.refl _ _ _
        | exact trivial
        | exact DLe.of_eq (by rw [hsx])
        | exact ⟨rfl, rfl, rfl⟩
        | exact ⟨trivial, trivial, trivial⟩
      all_goals first
        | exact ⟨⟨(hEl _ _ _).symm, RowLe.of_eq (fun i j _ _ => by rw [Nat.zero_add])⟩, hP u1 u2 ev hu1 hu2 _ (by first | assumption | decide | omega), by rw [hEl]; omega, fun i hi => hM u1 u2 ev hu1 i (by rw [hEl] at hi; exact hi)⟩
        | trace_state
    | 4, _, hsx =>
      conv => whnf
      repeat' first
        | (refine NextVC.mk ((k + 1, evS N gt u1 u2 ev, evN N ev), b) ?_ ?_ ?_; (conv => whnf))
        | (refine bc_true (by assumption) ?_; (conv => whnf))
        | (refine bc_false (by assumption) ?_; (conv => whnf))
        | (refine bc_intro (fun _ => ?_) (fun _ => ?_) <;> (conv => whnf))
        | (refine need_intro ?_ ?_; (conv => whnf))
        | (refine wk_refl ?_; (conv => whnf))
        | (refine draw_intro (by kernel_rfl) ?_; (conv => whnf))
        | (refine ord_intro (by kernel_rfl) ?_; (conv => whnf))
      all_goals try dsimp only at *
      all_goals try simp only [decide_eq_true_eq, decide_eq_false_iff_not] at *
      all_goals first
        | exact trivial
        | omega
        | exact DLe.refl _
        | exact RowLe.refl _ _ _
        | exact DLe.of_eq (by rw [hsk])
        | exact ⟨rfl, rfl, rfl⟩
        | exact ⟨trivial, trivial, trivial⟩
        | exact ⟨⟨by omega, hEl _ _ _, ⟨by rw [hEt _ _ _ hu1]; exact hE u1 u2 ev hu1 hu2, by rw [hEt _ _ _ hu1]; exact hE1 u1 u2 ev hu1⟩, hEn _⟩, by assumption⟩
        | (exfalso; simp at *; done)
        | trace_state
    | x + 5, hx, _ => omega
theorem handoverPlaces_all (dss : List (List D)) (h : All2 (wfT Tryz.prog reachBytes 12) [22, 9] dss) : Sx.Spec Tryz.prog GG 3 (svs Tryz.prog [22, 9] dss) [] (.d (.bool true)) [] := by
  obtain ⟨x, y, rfl, hx, hy⟩ := inv2 h
  obtain ⟨l, h1, h2, h3⟩ := ints_arg hx
  obtain ⟨_, _, rfl, _⟩ := hx
  obtain ⟨key, rfl, _⟩ := hy
  exact (handoverPlaces_law l key h1).arg (leL_app h2 (LeL.cons (LeS.refl _) LeL.nil))
end Go.Proofs.YtngdpchhogfhfaaGreatDoor
