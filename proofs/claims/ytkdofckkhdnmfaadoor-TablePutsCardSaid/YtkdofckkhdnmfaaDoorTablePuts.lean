/- TablePuts: Put and Delete of the program and of the reference agree on every list of rows and every row. -/
import Derived.Test.YtkdofckkhdnmfaaDoorLay
import Derived.Test.YtkdofckkhdnmfaaDoorPuts
namespace Go.Proofs.YtkdofckkhdnmfaaDoor
open Go Go.Sx Go.ChangeShapes Go.WideShapes Go.ChangeAt Go.WideMaps Go.WideElems Go.RowKit
set_option linter.unusedVariables false
set_option linter.unusedSimpArgs false
set_option maxRecDepth 100000
theorem put_len {rows : List Row} {k v : List UInt8} : (putF rows k v).1.length ≤ 1024 := by
  by_cases h1 : validT rows = true
  · by_cases h2 : rowOk (k, v) = true
    · by_cases h3 : (withF rows (k, v)).length > 1024
      · rw [put_full h1 h2 h3]; simp
      · rw [put_ok h1 h2 h3]; simp only; omega
    · rw [put_bad (.inr (by simpa using h2))]; simp
  · rw [put_bad (.inl (by simpa using h1))]; simp
theorem del_len {rows : List Row} {k : List UInt8} : (delF rows k).1.length ≤ 1024 := by
  unfold delF
  split
  · simp
  · rename_i h
    have hv : validT rows = true := by
      cases e : validT rows with
      | true => rfl
      | false => simp [e] at h
    split
    · exact Nat.le_trans without_len (validT_len hv)
    · simp
set_option maxHeartbeats 2000000 in
theorem tablePuts_law (l : List Int) (raw : List Row) (k v : List UInt8) (hl : ∀ x ∈ l, -9223372036854775808 ≤ x ∧ x < 9223372036854775808) : Sx.Spec Tryd.prog GG 6 [.d (encL encI 1 l), .d (encL encRow 2 raw), .agg [.d (.str k), .d (.str v)]] [] (.d (.bool true)) [] := by
  refine spec_intro (E := EE) (fn := Tryd.f6) eok (by kernel_rfl) (by kernel_rfl) Tryd.call6 (by kernel_rfl) (by kernel_rfl) ?_
  conv => whnf
  repeat' first
    | (refine call_intro (awake_spec) ?_ (by first | exact .inl rfl | exact .inr ⟨rfl, rfl⟩); (conv => whnf))
    | (refine call_some (new_ex 2000 hl) (fun _ => by first | exact .inl rfl | exact .inr ⟨rfl, rfl⟩) ?_; rintro ⟨tl, ta⟩ hT; (conv => whnf))
    | (refine call_some_if (rows_ex _) (fun _ => by first | exact .inl rfl | exact .inr ⟨rfl, rfl⟩) (need_intro ?_ ?_); rintro ⟨x, b⟩ ⟨⟨h1, h2⟩, h3⟩; (conv => whnf))
    | (refine call_some_if (oddRows_ex _) (fun _ => by first | exact .inl rfl | exact .inr ⟨rfl, rfl⟩) (need_intro ?_ ?_); rintro ⟨y, b⟩ ⟨h4, h5⟩; (conv => whnf))
    | (refine bc_true (by assumption) ?_; (conv => whnf))
    | (refine bc_false (by assumption) ?_; (conv => whnf))
    | (refine bc_intro (fun _ => ?_) (fun _ => ?_) <;> (conv => whnf))
    | (refine need_intro ?_ ?_; (conv => whnf))
    | (refine wk_refl ?_; (conv => whnf))
    | (refine draw_intro (by kernel_rfl) ?_; (conv => whnf))
    | (refine ord_intro (by kernel_rfl) ?_; (conv => whnf))
  all_goals try simp only [decide_eq_true_eq, decide_eq_false_iff_not] at *
  all_goals try first
    | omega
    | exact ⟨LeS.refl _, trivial⟩
    | exact ⟨by assumption, by omega, by omega⟩
    | exact ⟨by assumption, by omega⟩
    | assumption
  refine loop_auto [5, 7, 35] [5] (fun s : Nat × Nat => [(34, .d (encL encLL 1 [raw, x, y])), (36, .d (.int .i64 s.1))]) (fun s => [(2000, tapeB tl s.2)]) (fun s => s.1 ≤ 3 ∧ TapeOk tl s.2) (fun s => 3 - s.1) (0, b) ?_ (fun s hs => ?_) ⟨by simp, by assumption⟩
  · conv => whnf
    repeat' first
      | (refine bc_true (by assumption) ?_; (conv => whnf))
      | (refine bc_false (by assumption) ?_; (conv => whnf))
      | (refine bc_intro (fun _ => ?_) (fun _ => ?_) <;> (conv => whnf))
      | (refine need_intro ?_ ?_; (conv => whnf))
      | (refine wk_refl ?_; (conv => whnf))
      | (refine draw_intro (by kernel_rfl) ?_; (conv => whnf))
      | (refine ord_intro (by kernel_rfl) ?_; (conv => whnf))
    all_goals first | exact ⟨rfl, rfl⟩ | exact ⟨rfl, rfl, rfl⟩ | exact DLe.refl _ | exact RowLe.refl _ _ _ | exact trivial | (refine dle_lit (by kernel_rfl) rfl (.all ?_); (repeat' first | exact trivial | exact rfl | apply And.intro); done) | trace_state
  · obtain ⟨i, a⟩ := s
    obtain ⟨hi, ha⟩ := hs
    simp only at hi ha
    have hs : IntKind.i64.wrap ((i : Int) + 1) = ((i + 1 : Nat) : Int) := wrap_succ (n := 10) (by omega) (by omega)
    conv => whnf
    repeat' first
      | (refine call_some_if (row_ex _) (fun _ => by first | exact .inl rfl | exact .inr ⟨rfl, rfl⟩) (need_intro ?_ ?_); rintro ⟨k1, v1, c⟩ ⟨g1, g2, g3⟩; (conv => whnf))
      | (refine call_some_if (key_ex _) (fun _ => by first | exact .inl rfl | exact .inr ⟨rfl, rfl⟩) (need_intro ?_ ?_); rintro ⟨k2, c⟩ ⟨g4, g5⟩; (conv => whnf))
      | (refine call_some_if (value_ex _) (fun _ => by first | exact .inl rfl | exact .inr ⟨rfl, rfl⟩) (need_intro ?_ ?_); rintro ⟨v2, c⟩ ⟨g6, g7⟩; (conv => whnf))
      | (refine call_intro (awake_spec) ?_ (by first | exact .inl rfl | exact .inr ⟨rfl, rfl⟩); (conv => whnf))
      | (refine bc_true (by assumption) ?_; (conv => whnf))
      | (refine bc_false (by assumption) ?_; (conv => whnf))
      | (refine bc_intro (fun _ => ?_) (fun _ => ?_) <;> (conv => whnf))
      | (refine need_intro ?_ ?_; (conv => whnf))
      | (refine wk_refl ?_; (conv => whnf))
      | (refine draw_intro (by kernel_rfl) ?_; (conv => whnf))
      | (refine ord_intro (by kernel_rfl) ?_; (conv => whnf))
    all_goals try simp only [decide_eq_true_eq, decide_eq_false_iff_not] at *
    all_goals try first
      | omega
      | assumption
      | exact ⟨LeS.refl _, trivial⟩
      | exact ⟨by omega, by omega⟩
    have hs' := hs
    refine loop_auto [5, 7, 10, 34, 35, 36, 49] [2000, 5] (fun j : Nat => [(48, .d (encL encRow 2 [(k, v), (k1, v1), (k2, v2)])), (50, .d (.int .i64 j))]) (fun j => []) (fun j => j ≤ 3) (fun j => 3 - j) 0 ?_ (fun j hj => ?_) (by omega)
    · conv => whnf
      repeat' first
        | (refine bc_true (by assumption) ?_; (conv => whnf))
        | (refine bc_false (by assumption) ?_; (conv => whnf))
        | (refine bc_intro (fun _ => ?_) (fun _ => ?_) <;> (conv => whnf))
        | (refine need_intro ?_ ?_; (conv => whnf))
        | (refine wk_refl ?_; (conv => whnf))
        | (refine draw_intro (by kernel_rfl) ?_; (conv => whnf))
        | (refine ord_intro (by kernel_rfl) ?_; (conv => whnf))
      all_goals first | exact ⟨rfl, rfl⟩ | exact ⟨rfl, rfl, rfl⟩ | exact DLe.refl _ | exact RowLe.refl _ _ _ | exact trivial | (refine dle_lit (by kernel_rfl) rfl (.all ?_); (repeat' first | exact trivial | exact rfl | apply And.intro); done) | trace_state
    · have hs : IntKind.i64.wrap ((j : Int) + 1) = ((j + 1 : Nat) : Int) := wrap_succ (n := 10) (by omega) (by omega)
      conv => whnf
      repeat' first
        | (refine call_intro (putp_spec _ _ _) ?_ (by first | exact .inl rfl | exact .inr ⟨rfl, rfl⟩); (conv => whnf))
        | (refine call_intro (refPut_spec _ _ _) ?_ (by first | exact .inl rfl | exact .inr ⟨rfl, rfl⟩); (conv => whnf))
        | (refine call_intro (delp_spec _ _) ?_ (by first | exact .inl rfl | exact .inr ⟨rfl, rfl⟩); (conv => whnf))
        | (refine call_intro (delr_spec _ _) ?_ (by first | exact .inl rfl | exact .inr ⟨rfl, rfl⟩); (conv => whnf))
        | (refine call_if (sameR_spec _ _) (by first | exact .inl rfl | exact .inr ⟨rfl, rfl⟩) (need_intro ?_ ?_); (conv => whnf))
        | (refine NextVC.mk (i + 1, c) ?_ ?_ ?_; (conv => whnf))
        | (refine NextVC.mk (j + 1) ?_ ?_ ?_; (conv => whnf))
        | (refine bc_true (by assumption) ?_; (conv => whnf))
        | (refine bc_false (by assumption) ?_; (conv => whnf))
        | (refine bc_intro (fun _ => ?_) (fun _ => ?_) <;> (conv => whnf))
        | (refine need_intro ?_ ?_; (conv => whnf))
        | (refine wk_refl ?_; (conv => whnf))
        | (refine draw_intro (by kernel_rfl) ?_; (conv => whnf))
        | (refine ord_intro (by kernel_rfl) ?_; (conv => whnf))
      all_goals try simp only [decide_eq_true_eq, decide_eq_false_iff_not] at *
      all_goals first
        | omega
        | exact trivial
        | assumption
        | exact DLe.refl _
        | exact RowLe.refl _ _ _
        | exact DLe.of_eq (by rw [hs])
        | exact DLe.of_eq (by rw [hs'])
        | exact ⟨by omega, by omega⟩
        | exact ⟨by omega, by assumption⟩
        | exact ⟨Nat.le_trans put_len (by omega), Nat.le_trans put_len (by omega)⟩
        | exact ⟨Nat.le_trans del_len (by omega), Nat.le_trans del_len (by omega)⟩
        | (exfalso; try simp only [same_refl] at *
           simp at *; done)
        | trace_state
theorem tablePuts_all (dss : List (List D)) (h : All2 (wfT Tryd.prog reachBytes 12) [22, 23, 52] dss) : Sx.Spec Tryd.prog GG 6 (svs Tryd.prog [22, 23, 52] dss) [] (.d (.bool true)) [] := by
  obtain ⟨x, y, z, rfl, hx, hy, hz⟩ := inv3 h
  obtain ⟨l, h1, h2, h3⟩ := ints_arg hx
  obtain ⟨raw, h4, h5, h6, h7⟩ := rows_arg hy
  obtain ⟨_, _, rfl, _⟩ := hx
  obtain ⟨_, _, rfl, _⟩ := hy
  obtain ⟨_, _, rfl, ⟨k, rfl, _⟩, _, _, rfl, ⟨v, rfl, _⟩, rfl⟩ := hz
  exact (tablePuts_law l raw k v h1).arg (leL_app h2 (leL_app h6 (LeL.cons (LeS.refl _) LeL.nil)))
theorem tablePuts_lifted (os : Os) (started : os.Started) (H : Type) (enc : TypeId × Value → H) :
    ReturnsInHanded {} Tryd.checked os 6 .any (fun w args => (Rows.tablePutsSpec.pre enc Tryd.prog Tryd.f6 [] false w args ∧ laidMetH Tryd.prog laidL w) ∧ sizedMet enc Tryd.prog Tryd.f6 (OpenSpec.ofChange Rows.tablePutsSpec) false w args)
      (Rows.tablePutsSpec.post enc Tryd.prog Tryd.f6 false true false false) := by
  refine returnsInHanded_of_change_and (C := Tryd.checked) (X := fun w _ => laidMetH Tryd.prog laidL w) (fun _ _ _ hh h => h.of_heap hh) own started (by kernel_rfl) Tryd.func6
    (ChangeSpec.witness_shaped (enc := enc) (C := Tryd.checked) (os := os) (X := fun w _ => laidMetH Tryd.prog laidL w) false (World.doorLaid Tryd.prog 400 os) #[.slice none 0 0, .slice none 0 0, .agg #[.string ⟨#[]⟩, .string ⟨#[]⟩]] 8 rfl (World.shaped_of_RefB (by kernel_rfl) (by kernel_rfl)) (by kernel_rfl) (by kernel_rfl) (by kernel_rfl) (door_met os _)) ?_
  intro W base args ds gs before hval hW hcnd hsz hL _
  refine law_contract (P := Tryd.prog) (ts := [22, 23, 52]) (bt := 4) (G := GG) laidOut (by rw [Tryd.params6]) (by kernel_rfl) Tryd.underlying4 (by kernel_rfl) rfl ?_ tablePuts_all hval hW hsz (gok hL)
  intro ds h
  match ds, h with
  | [_, _, _], _ => rfl
theorem tablePuts_over : Rows.tablePutsRow.holds Tryd.pinned (OpenSpec.ofChange Rows.tablePutsSpec) :=
  OpenClaim.holds_of_wide 6 Tryd.f6 rfl rfl rfl rfl rfl rfl rfl ⟨rfl, rfl, rfl, rfl, rfl⟩ rfl rfl rfl rfl rfl (by kernel_rfl) Tryd.func6 (by kernel_rfl)
    (of_decide_eq_true (by kernel_rfl)) (by unfold Func.isWrapper; first | (rw [if_pos (by decide +kernel)]; kernel_rfl) | (rw [if_neg (by decide +kernel)]; exact ⟨rfl, rfl⟩))
    (fun os started H enc _ => tablePuts_lifted os started H enc)
theorem tablePuts_plain : ∀ t ∈ [22, 23, 52], Tryd.prog.wantsStandIn t = false := by
  intro t ht
  simp only [List.mem_cons, List.not_mem_nil, or_false] at ht
  rcases ht with rfl | rfl | rfl <;> kernel_rfl
theorem tablePuts_proved : Rows.TablePutsCardSaid :=
  Claim7.holds_tied_plain_at .later [] [.data] true (true, "510fec8f624df2fc206200128f363aab01a2d4b69791c4a506e6d0fecdf9ce0e") false
    tablePuts_over (fun _ h => by cases h) (by kernel_rfl) (fun _ h => by cases h) tablePuts_row_tie rfl ⟨rfl, rfl⟩ (by kernel_rfl) rfl
    (fun f fn hf hfn => by
      obtain rfl : f = 6 := Option.some.inj ((show Tryd.prog.funcNamed Rows.tablePutsRow.func = some 6 by kernel_rfl).symm.trans hf) |>.symm
      obtain rfl : fn = Tryd.f6 := (Option.some.inj (Tryd.func6.symm.trans hfn)).symm
      exact ⟨by kernel_rfl, fun j t ht => tablePuts_plain t (by
        rw [Tryd.params6] at ht
        exact List.mem_of_getElem? (by simpa using ht))⟩)
    (by kernel_rfl)
#print axioms tablePuts_proved

