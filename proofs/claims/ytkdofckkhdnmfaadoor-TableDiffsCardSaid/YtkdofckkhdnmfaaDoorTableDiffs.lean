/- Diff and Apply return what the reference returns, for every tape and every list of writes. -/
import Derived.Test.YtkdofckkhdnmfaaDoorLay
import Derived.Test.YtkdofckkhdnmfaaDoorApply
namespace Go.Proofs.YtkdofckkhdnmfaaDoor
open Go Go.Sx Go.ChangeShapes Go.WideShapes Go.ChangeAt Go.WideMaps Go.WideElems Go.RowKit
set_option linter.unusedVariables false
set_option linter.unusedSimpArgs false
set_option maxRecDepth 100000
theorem go_len {ws : List Wr} : ∀ {rows : List Row}, TabOk rows → (goF rows ws).1.length ≤ 1024 := by
  induction ws with
  | nil => intro rows h; simpa [goF] using h.len
  | cons w ws ih =>
    intro rows h
    simp only [goF]
    split
    · exact ih (do_tab h (by assumption))
    · simp
theorem apply_len {rows : List Row} {ws : List Wr} : (applyF rows ws).1.length ≤ 1024 := by
  unfold applyF
  split
  · exact go_len (validT_iff.1 (by assumption))
  · simp
theorem diff_len {a b : List Row} : (diffF a b).length ≤ a.length + b.length := by
  unfold diffF
  split
  · rw [List.length_append]
    exact Nat.add_le_add collect_len collect_len
  · simp
def encLW (x : List Wr) : List D := [encL encWr 3 x]
set_option maxHeartbeats 2000000 in
theorem tableDiffs_law (l : List Int) (raw : List Wr) (hl : ∀ x ∈ l, -9223372036854775808 ≤ x ∧ x < 9223372036854775808) : Sx.Spec Tryd.prog GG 8 [.d (encL encI 1 l), .d (encL encWr 3 raw)] [] (.d (.bool true)) [] := by
  refine spec_intro (E := EE) (fn := Tryd.f8) eok (by kernel_rfl) (by kernel_rfl) Tryd.call8 (by kernel_rfl) (by kernel_rfl) ?_
  conv => whnf
  repeat' first
    | (refine bc_true (by assumption) ?_; (conv => whnf))
    | (refine bc_false (by assumption) ?_; (conv => whnf))
    | (refine need_intro ?_ ?_; (conv => whnf))
    | (refine wk_refl ?_; (conv => whnf))
    | (refine draw_intro (by kernel_rfl) ?_; (conv => whnf))
    | (refine ord_intro (by kernel_rfl) ?_; (conv => whnf))
  refine bc_intro (fun _ => ?_) (fun hraw => ?_)
  · conv => whnf
    conv => whnf
    repeat' first
      | (refine call_intro (awake_spec) ?_ (by first | exact .inl rfl | exact .inr ⟨rfl, rfl⟩); (conv => whnf))
      | (refine bc_true (by assumption) ?_; (conv => whnf))
      | (refine bc_false (by assumption) ?_; (conv => whnf))
      | (refine bc_intro (fun _ => ?_) (fun _ => ?_) <;> (conv => whnf))
      | (refine need_intro ?_ ?_; (conv => whnf))
      | (refine wk_refl ?_; (conv => whnf))
      | (refine draw_intro (by kernel_rfl) ?_; (conv => whnf))
      | (refine ord_intro (by kernel_rfl) ?_; (conv => whnf))
    exact ⟨LeS.refl _, trivial⟩
  conv => whnf
  simp only [decide_eq_false_iff_not] at hraw
  conv => whnf
  repeat' first
    | (refine call_some (new_ex 2000 hl) (fun _ => by first | exact .inl rfl | exact .inr ⟨rfl, rfl⟩) ?_; rintro ⟨tl, ta⟩ hT; (conv => whnf))
    | (refine call_some_if (rows_ex _) (fun _ => by first | exact .inl rfl | exact .inr ⟨rfl, rfl⟩) (need_intro ?_ ?_); rintro ⟨x, b⟩ ⟨⟨h1, h2⟩, h3⟩; (conv => whnf))
    | (refine call_some_if (bool_ex _) (fun _ => by first | exact .inl rfl | exact .inr ⟨rfl, rfl⟩) (need_intro ?_ ?_); rintro ⟨v, c⟩ h1; (conv => whnf))
    | (refine bc_true (by assumption) ?_; (conv => whnf))
    | (refine bc_false (by assumption) ?_; (conv => whnf))
    | (refine need_intro ?_ ?_; (conv => whnf))
    | (refine wk_refl ?_; (conv => whnf))
    | (refine draw_intro (by kernel_rfl) ?_; (conv => whnf))
    | (refine ord_intro (by kernel_rfl) ?_; (conv => whnf))
  all_goals try first
    | assumption
    | exact ⟨by assumption, by omega, by omega⟩
  rename_i x1 b1 _ g1 g2 hTx
  have g2 : (x1.length : Int) ≤ 6 := g2
  have h2 : (x.length : Int) ≤ 6 := h2
  have g1 : TabOk x1 := g1
  refine join_auto [0, 1, 4, 5, 6] [] (fun z : List Row × Nat => [(7, .d (encL encRow 2 z.1))]) (fun z => [(2000, tapeB tl z.2)]) (fun z => (z.1.length : Int) ≤ 7 ∧ TapeOk tl z.2) (fun _ => ?_) (fun _ => ?_) ?_
  · conv => whnf
    repeat' first
      | (refine call_some_if (oddRows_ex _) (fun _ => by first | exact .inl rfl | exact .inr ⟨rfl, rfl⟩) (need_intro ?_ ?_); rintro ⟨y, b⟩ ⟨h4, h5⟩; (conv => whnf))
      | (refine JoinVC.mk (y, b) ?_ ?_; (conv => whnf))
      | (refine bc_true (by assumption) ?_; (conv => whnf))
      | (refine bc_false (by assumption) ?_; (conv => whnf))
      | (refine need_intro ?_ ?_; (conv => whnf))
      | (refine wk_refl ?_; (conv => whnf))
      | (refine draw_intro (by kernel_rfl) ?_; (conv => whnf))
      | (refine ord_intro (by kernel_rfl) ?_; (conv => whnf))
    all_goals try simp only [decide_eq_true_eq, decide_eq_false_iff_not] at *
    all_goals try first
      | exact trivial
      | assumption
      | omega
      | exact DLe.refl _
      | exact RowLe.refl _ _ _
      | exact ⟨LeS.refl _, trivial⟩
      | exact ⟨by assumption, by omega⟩
      | exact ⟨by omega, by assumption⟩
      | exact ⟨by omega, by omega⟩
      | exact ⟨by assumption, by omega, by omega⟩
      | exact ⟨by omega, by omega, by assumption⟩
      | (exfalso; simp at *; done)
  · conv => whnf
    repeat' first
      | (refine JoinVC.mk (x, c) ?_ ?_; (conv => whnf))
      | (refine bc_true (by assumption) ?_; (conv => whnf))
      | (refine bc_false (by assumption) ?_; (conv => whnf))
      | (refine need_intro ?_ ?_; (conv => whnf))
      | (refine wk_refl ?_; (conv => whnf))
      | (refine draw_intro (by kernel_rfl) ?_; (conv => whnf))
      | (refine ord_intro (by kernel_rfl) ?_; (conv => whnf))
    all_goals try simp only [decide_eq_true_eq, decide_eq_false_iff_not] at *
    all_goals try first
      | exact trivial
      | assumption
      | omega
      | exact DLe.refl _
      | exact RowLe.refl _ _ _
      | exact ⟨LeS.refl _, trivial⟩
      | exact ⟨by assumption, by omega⟩
      | exact ⟨by omega, by assumption⟩
      | exact ⟨by omega, by omega⟩
      | exact ⟨by assumption, by omega, by omega⟩
      | exact ⟨by omega, by omega, by assumption⟩
      | (exfalso; simp at *; done)
  rintro ⟨y, b⟩ ⟨hy, hb⟩
  simp only at hy hb
  conv => whnf
  repeat' first
    | (refine call_some_if (next_ex _) (fun _ => by first | exact .inl rfl | exact .inr ⟨rfl, rfl⟩) (need_intro ?_ ?_); rintro ⟨v, b⟩ ⟨⟨h1, h2⟩, h3⟩; (conv => whnf))
    | (refine bc_true (by assumption) ?_; (conv => whnf))
    | (refine bc_false (by assumption) ?_; (conv => whnf))
    | (refine need_intro ?_ ?_; (conv => whnf))
    | (refine wk_refl ?_; (conv => whnf))
    | (refine draw_intro (by kernel_rfl) ?_; (conv => whnf))
    | (refine ord_intro (by kernel_rfl) ?_; (conv => whnf))
  all_goals try simp only [decide_eq_true_eq, decide_eq_false_iff_not] at *
  all_goals try first
    | exact trivial
    | assumption
    | omega
    | exact DLe.refl _
    | exact RowLe.refl _ _ _
    | exact ⟨LeS.refl _, trivial⟩
    | exact ⟨by assumption, by omega⟩
    | exact ⟨by omega, by assumption⟩
    | exact ⟨by omega, by omega⟩
    | exact ⟨by assumption, by omega, by omega⟩
    | exact ⟨by omega, by omega, by assumption⟩
    | (exfalso; simp at *; done)
  refine loop_auto [0, 1, 4, 5, 6, 7] [] (fun s : Int × List Wr × Nat => [(8, .osl 500 3 0 s.2.1.length), (9, .d (.int .i64 s.1))]) (fun s => [(500, .row 25 3 s.2.1.length (cellOf encWr s.2.1)), (2000, tapeB tl s.2.2)]) (fun s => (0 ≤ s.1 ∧ s.1 ≤ 5) ∧ (s.2.1.length : Int) ≤ 5 - s.1 ∧ TapeOk tl s.2.2) (fun s => s.1.toNat) (v, [], b) ?_ (fun s hs => ?_) ⟨⟨h1, by omega⟩, by simp only [List.length_nil]; omega, h3⟩
  · conv => whnf
    repeat' first
      | (refine bc_true (by assumption) ?_; (conv => whnf))
      | (refine bc_false (by assumption) ?_; (conv => whnf))
      | (refine bc_intro (fun _ => ?_) (fun _ => ?_) <;> (conv => whnf))
      | (refine need_intro ?_ ?_; (conv => whnf))
      | (refine wk_refl ?_; (conv => whnf))
      | (refine draw_intro (by kernel_rfl) ?_; (conv => whnf))
      | (refine ord_intro (by kernel_rfl) ?_; (conv => whnf))
    all_goals first | exact ⟨rfl, rfl⟩ | exact ⟨rfl, rfl, rfl⟩ | exact DLe.refl _ | exact RowLe.refl _ _ _ | exact trivial
  · obtain ⟨i, ws, b⟩ := s
    obtain ⟨hi, hws, hb⟩ := hs
    simp only at hi hws hb
    have hs : 0 < i → IntKind.i64.wrap (i - 1) = i - 1 := fun _ => wrap_of (by omega) (by omega)
    conv => whnf
    repeat' first
      | (refine bc_true (by assumption) ?_; (conv => whnf))
      | (refine bc_false (by assumption) ?_; (conv => whnf))
      | (refine need_intro ?_ ?_; (conv => whnf))
      | (refine wk_refl ?_; (conv => whnf))
      | (refine draw_intro (by kernel_rfl) ?_; (conv => whnf))
      | (refine ord_intro (by kernel_rfl) ?_; (conv => whnf))
    refine bc_intro (fun hp => ?_) (fun hp => ?_)
    · conv => whnf
      conv => whnf
      repeat' first
        | (refine call_some_if (write_ex _) (fun _ => by first | exact .inl rfl | exact .inr ⟨rfl, rfl⟩) (need_intro ?_ ?_); rintro ⟨w, c⟩ ⟨⟨g1, g2⟩, g3⟩; (conv => whnf))
        | (refine NextVC.mk (i - 1, ws ++ [w], c) ?_ ?_ ?_; (conv => whnf))
        | (refine bc_true (by assumption) ?_; (conv => whnf))
        | (refine bc_false (by assumption) ?_; (conv => whnf))
        | (refine bc_intro (fun _ => ?_) (fun _ => ?_) <;> (conv => whnf))
        | (refine need_intro ?_ ?_; (conv => whnf))
        | (refine wk_refl ?_; (conv => whnf))
        | (refine draw_intro (by kernel_rfl) ?_; (conv => whnf))
        | (refine ord_intro (by kernel_rfl) ?_; (conv => whnf))
      all_goals try simp only [decide_eq_true_eq, decide_eq_false_iff_not] at *
      all_goals try first
        | exact trivial
        | assumption
        | omega
        | exact DLe.refl _
        | exact RowLe.refl _ _ _
        | exact ⟨LeS.refl _, trivial⟩
        | exact ⟨by assumption, by omega⟩
        | exact ⟨by omega, by assumption⟩
        | exact ⟨by omega, by omega⟩
        | exact ⟨by assumption, by omega, by omega⟩
        | exact ⟨by omega, by omega, by assumption⟩
        | (exfalso; simp at *; done)
      all_goals try simp only [cellsWr, bytesWr, true_and, and_true] at *
      all_goals first
        | exact ⟨by omega, by omega⟩
        | exact DLe.of_eq (by rw [hs (by omega)])
        | (simp only [List.length_append, List.length_singleton]; done)
        | (simp only [List.length_append, List.length_singleton]; exact row_snoc rfl (RowLe.refl _ _ _) (jlt3 (DLe.of_eq rfl) (DLe.of_eq rfl) (DLe.of_eq rfl)))
        | (refine ⟨⟨by omega, by omega⟩, ?_, by assumption⟩; simp only [List.length_append, List.length_singleton]; omega)
        | trace_state
    · conv => whnf
      simp only [decide_eq_false_iff_not] at hp
      have hw5 : (ws.length : Int) ≤ 5 := by omega
      conv => whnf
      repeat' first
        | (refine call_if (diffp_spec _ _) (by first | exact .inl rfl | exact .inr ⟨rfl, rfl⟩) (need_intro ?_ ?_); (conv => whnf))
        | (refine bc_true (by assumption) ?_; (conv => whnf))
        | (refine bc_false (by assumption) ?_; (conv => whnf))
        | (refine need_intro ?_ ?_; (conv => whnf))
        | (refine wk_refl ?_; (conv => whnf))
        | (refine draw_intro (by kernel_rfl) ?_; (conv => whnf))
        | (refine ord_intro (by kernel_rfl) ?_; (conv => whnf))
      all_goals try simp only [decide_eq_true_eq, decide_eq_false_iff_not] at *
      all_goals try first
        | exact trivial
        | assumption
        | omega
        | exact DLe.refl _
        | exact RowLe.refl _ _ _
        | exact ⟨LeS.refl _, trivial⟩
        | exact ⟨by assumption, by omega⟩
        | exact ⟨by omega, by assumption⟩
        | exact ⟨by omega, by omega⟩
        | exact ⟨by assumption, by omega, by omega⟩
        | exact ⟨by omega, by omega, by assumption⟩
        | (exfalso; simp at *; done)
      have hdl := diff_len (a := x1) (b := y)
      have hb3 := getD_len (L := [raw, ws, diffF x1 y]) (n := 60) (by intro z hz; simp only [List.mem_cons, List.not_mem_nil, or_false] at hz; rcases hz with rfl | rfl | rfl <;> omega)
      refine loop_auto [4, 6, 7, 48] [] (fun s : Nat => [(47, .d (encL encLW 1 [raw, ws, diffF x1 y])), (49, .d (.int .i64 s))]) (fun s => []) (fun s => s ≤ 3) (fun s => 3 - s) 0 ?_ (fun j hj => ?_) (by omega)
      · conv => whnf
        repeat' first
          | (refine bc_true (by assumption) ?_; (conv => whnf))
          | (refine bc_false (by assumption) ?_; (conv => whnf))
          | (refine bc_intro (fun _ => ?_) (fun _ => ?_) <;> (conv => whnf))
          | (refine need_intro ?_ ?_; (conv => whnf))
          | (refine wk_refl ?_; (conv => whnf))
          | (refine draw_intro (by kernel_rfl) ?_; (conv => whnf))
          | (refine ord_intro (by kernel_rfl) ?_; (conv => whnf))
        all_goals first | exact ⟨rfl, rfl⟩ | exact ⟨rfl, rfl, rfl⟩ | exact DLe.refl _ | exact RowLe.refl _ _ _ | exact trivial | (refine dle_lit (by kernel_rfl) rfl (.all ?_); (repeat' first | exact trivial | exact rfl | apply And.intro); done) | (refine dle_lit (by kernel_rfl) rfl (.allD ?_); (repeat' first | exact trivial | exact DLe.refl _ | exact DLe.rows rfl row_zero | apply And.intro); done) | trace_state
      · have hs : IntKind.i64.wrap ((j : Int) + 1) = ((j + 1 : Nat) : Int) := wrap_succ (n := 10) (by omega) (by omega)
        conv => whnf
        repeat' first
          | (refine call_if (applyp_spec _ _) (by first | exact .inl rfl | exact .inr ⟨rfl, rfl⟩) (need_intro ?_ ?_); (conv => whnf))
          | (refine call_if (applyr_spec _ _) (by first | exact .inl rfl | exact .inr ⟨rfl, rfl⟩) (need_intro ?_ ?_); (conv => whnf))
          | (refine call_if (sameR_spec _ _) (by first | exact .inl rfl | exact .inr ⟨rfl, rfl⟩) (need_intro ?_ ?_); (conv => whnf))
          | (refine call_if (diffp_spec _ _) (by first | exact .inl rfl | exact .inr ⟨rfl, rfl⟩) (need_intro ?_ ?_); (conv => whnf))
          | (refine call_if (diffr_spec _ _) (by first | exact .inl rfl | exact .inr ⟨rfl, rfl⟩) (need_intro ?_ ?_); (conv => whnf))
          | (refine call_if (sameW_spec _ _) (by first | exact .inl rfl | exact .inr ⟨rfl, rfl⟩) (need_intro ?_ ?_); (conv => whnf))
          | (refine call_intro (awake_spec) ?_ (by first | exact .inl rfl | exact .inr ⟨rfl, rfl⟩); (conv => whnf))
          | (refine NextVC.mk (j + 1) ?_ ?_ ?_; (conv => whnf))
          | (refine bc_true (by assumption) ?_; (conv => whnf))
          | (refine bc_false (by assumption) ?_; (conv => whnf))
          | (refine bc_intro (fun _ => ?_) (fun _ => ?_) <;> (conv => whnf))
          | (refine need_intro ?_ ?_; (conv => whnf))
          | (refine wk_refl ?_; (conv => whnf))
          | (refine draw_intro (by kernel_rfl) ?_; (conv => whnf))
          | (refine ord_intro (by kernel_rfl) ?_; (conv => whnf))
        all_goals try simp only [decide_eq_true_eq, decide_eq_false_iff_not] at *
        all_goals first
          | omega
          | exact trivial
          | assumption
          | exact DLe.refl _
          | exact RowLe.refl _ _ _
          | exact DLe.of_eq (by rw [hs])
          | exact ⟨LeS.refl _, trivial⟩
          | exact ⟨by omega, by omega⟩
          | (refine Nat.le_trans (hb3 _) ?_; omega)
          | exact ⟨Nat.le_trans apply_len (by omega), Nat.le_trans apply_len (by omega)⟩
          | exact ⟨Nat.le_trans diff_len (by omega), Nat.le_trans diff_len (by omega)⟩
          | (exfalso; try simp only [same_refl] at *
             simp at *; done)
          | skip
theorem writes_arg {R : Nat} {ds : List D} (h : wfT Tryd.prog R 12 66 ds) : ∃ xs : List Wr, xs.length ≤ maxLen ∧ (∀ x ∈ xs, x.1.length ≤ R ∧ x.2.1.length ≤ R) ∧ LeL (match ds with | [x] => [.d x] | _ => []) [.d (encL encWr 3 xs)] ∧ svOf Tryd.prog 66 ds = (match ds with | [x] => .d x | _ => .junk) := by
  obtain ⟨len, get, rfl, hlen, _, hel⟩ := h
  have c : Tryd.prog.cellsOf 25 = 3 := by kernel_rfl
  obtain ⟨xs, h1, h2, h3⟩ := list_of (α := Wr) (enc := encWr) (Q := fun x => x.1.length ≤ R ∧ x.2.1.length ≤ R) (k := 3) (fun _ => rfl) (len := len) (get := get) (fun i hi => by
    have := hel i hi
    rw [c] at this
    obtain ⟨a, r1, e1, ⟨k, rfl, _, hk⟩, b, r2, rfl, ⟨v, rfl, _, hv⟩, b2, r3, rfl, ⟨d, rfl⟩, rfl⟩ := this
    exact ⟨(k, v, d), ⟨hk, hv⟩, e1⟩)
  refine ⟨xs, by omega, h2, ?_, rfl⟩
  show LeL [.d (.list len (Tryd.prog.cellsOf 25) get)] _
  rw [c]
  exact LeL.cons (LeS.d h3) LeL.nil
theorem tableDiffs_all (dss : List (List D)) (h : All2 (wfT Tryd.prog reachBytes 12) [22, 66] dss) : Sx.Spec Tryd.prog GG 8 (svs Tryd.prog [22, 66] dss) [] (.d (.bool true)) [] := by
  obtain ⟨x, y, rfl, hx, hy⟩ := inv2 h
  obtain ⟨l, h1, h2, h3⟩ := ints_arg hx
  obtain ⟨raw, h4, h5, h6, h7⟩ := writes_arg hy
  obtain ⟨_, _, rfl, _⟩ := hx
  obtain ⟨_, _, rfl, _⟩ := hy
  exact (tableDiffs_law l raw h1).arg (leL_app h2 h6)
theorem tableDiffs_lifted (os : Os) (started : os.Started) (H : Type) (enc : TypeId × Value → H) :
    ReturnsInHanded {} Tryd.checked os 8 .any (fun w args => (Rows.tableDiffsSpec.pre enc Tryd.prog Tryd.f8 [] false w args ∧ laidMetH Tryd.prog laidL w) ∧ sizedMet enc Tryd.prog Tryd.f8 (OpenSpec.ofChange Rows.tableDiffsSpec) false w args)
      (Rows.tableDiffsSpec.post enc Tryd.prog Tryd.f8 false true false false) := by
  refine returnsInHanded_of_change_and (C := Tryd.checked) (X := fun w _ => laidMetH Tryd.prog laidL w) (fun _ _ _ hh h => h.of_heap hh) own started (by kernel_rfl) Tryd.func8
    (ChangeSpec.witness_shaped (enc := enc) (C := Tryd.checked) (os := os) (X := fun w _ => laidMetH Tryd.prog laidL w) false (World.doorLaid Tryd.prog 400 os) #[.slice none 0 0, .slice none 0 0] 8 rfl (World.shaped_of_RefB (by kernel_rfl) (by kernel_rfl)) (by kernel_rfl) (by kernel_rfl) (by kernel_rfl) (door_met os _)) ?_
  intro W base args ds gs before hval hW hcnd hsz hL _
  refine law_contract (P := Tryd.prog) (ts := [22, 66]) (bt := 4) (G := GG) laidOut (by rw [Tryd.params8]) (by kernel_rfl) Tryd.underlying4 (by kernel_rfl) rfl ?_ tableDiffs_all hval hW hsz (gok hL)
  intro ds h
  match ds, h with
  | [_, _], _ => rfl
theorem tableDiffs_over : Rows.tableDiffsRow.holds Tryd.pinned (OpenSpec.ofChange Rows.tableDiffsSpec) :=
  OpenClaim.holds_of_wide 8 Tryd.f8 rfl rfl rfl rfl rfl rfl rfl ⟨rfl, rfl, rfl, rfl, rfl⟩ rfl rfl rfl rfl rfl (by kernel_rfl) Tryd.func8 (by kernel_rfl)
    (of_decide_eq_true (by kernel_rfl)) (by unfold Func.isWrapper; first | (rw [if_pos (by decide +kernel)]; kernel_rfl) | (rw [if_neg (by decide +kernel)]; exact ⟨rfl, rfl⟩))
    (fun os started H enc _ => tableDiffs_lifted os started H enc)
theorem tableDiffs_plain : ∀ t ∈ [22, 66], Tryd.prog.wantsStandIn t = false := by
  intro t ht
  simp only [List.mem_cons, List.not_mem_nil, or_false] at ht
  rcases ht with rfl | rfl <;> kernel_rfl
theorem tableDiffs_proved : Rows.TableDiffsCardSaid :=
  Claim7.holds_tied_plain_at .later [] [.data] true (true, "510fec8f624df2fc206200128f363aab01a2d4b69791c4a506e6d0fecdf9ce0e") false
    tableDiffs_over (fun _ h => by cases h) (by kernel_rfl) (fun _ h => by cases h) tableDiffs_row_tie rfl ⟨rfl, rfl⟩ (by kernel_rfl) rfl
    (fun f fn hf hfn => by
      obtain rfl : f = 8 := Option.some.inj ((show Tryd.prog.funcNamed Rows.tableDiffsRow.func = some 8 by kernel_rfl).symm.trans hf) |>.symm
      obtain rfl : fn = Tryd.f8 := (Option.some.inj (Tryd.func8.symm.trans hfn)).symm
      exact ⟨by kernel_rfl, fun j t ht => tableDiffs_plain t (by
        rw [Tryd.params8] at ht
        exact List.mem_of_getElem? (by simpa using ht))⟩)
    (by kernel_rfl)
#print axioms tableDiffs_proved

