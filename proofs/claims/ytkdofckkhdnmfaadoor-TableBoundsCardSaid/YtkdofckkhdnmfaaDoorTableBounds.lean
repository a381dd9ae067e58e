/- TableBounds: Above, Below and Cut of the program and of the reference agree on every list of rows, every bound and every number. -/
import Derived.Test.YtkdofckkhdnmfaaDoorLay
import Derived.Test.YtkdofckkhdnmfaaDoorPlace
namespace Go.Proofs.YtkdofckkhdnmfaaDoor
open Go Go.Sx Go.ChangeShapes Go.WideShapes Go.ChangeAt Go.WideMaps Go.WideElems Go.RowKit
set_option linter.unusedVariables false
set_option linter.unusedSimpArgs false
set_option maxRecDepth 100000
theorem getD_all {α : Type} [Inhabited α] {L : List α} {Q : α → Prop} (h : ∀ x ∈ L, Q x) (h0 : Q default) (i : Nat) : Q (L.getD i default) := by
  rcases Nat.lt_or_ge i L.length with hi | hi
  · have e : L.getD i default = L[i] := by simp [List.getD, hi]
    rw [e]; exact h _ (List.getElem_mem hi)
  · have e : L.getD i default = default := by simp [List.getD, hi]
    rw [e]; exact h0
theorem tableBounds_law (l : List Int) (raw : List Row) (n : Int) (hl : ∀ x ∈ l, -9223372036854775808 ≤ x ∧ x < 9223372036854775808) (hn : -9223372036854775808 ≤ n ∧ n < 9223372036854775808) : Sx.Spec Tryd.prog GG 5 [.d (encL encI 1 l), .d (encL encRow 2 raw), .d (.int .i64 n)] [] (.d (.bool true)) [] := by
  refine spec_intro (E := EE) (fn := Tryd.f5) eok (by kernel_rfl) (by kernel_rfl) Tryd.call5 (by kernel_rfl) (by kernel_rfl) ?_
  conv => whnf
  repeat' first
    | (refine call_intro (awake_spec) ?_ (by first | exact .inl rfl | exact .inr ⟨rfl, rfl⟩); (conv => whnf))
    | (refine call_some (new_ex 2000 hl) (fun _ => by first | exact .inl rfl | exact .inr ⟨rfl, rfl⟩) ?_; rintro ⟨tl, ta⟩ hT; (conv => whnf))
    | (refine call_some_if (rows_ex _) (fun _ => by first | exact .inl rfl | exact .inr ⟨rfl, rfl⟩) (need_intro ?_ ?_); rintro ⟨x, b⟩ ⟨⟨h1, h2⟩, h3⟩; (conv => whnf))
    | (refine call_some_if (oddRows_ex _) (fun _ => by first | exact .inl rfl | exact .inr ⟨rfl, rfl⟩) (need_intro ?_ ?_); rintro ⟨y, b⟩ ⟨h4, h5⟩; (conv => whnf))
    | (refine bc_true (by assumption) ?_; (conv => whnf))
    | (refine bc_false (by assumption) ?_; (conv => whnf))
    | (refine bc_intro (fun _ => ?_) (fun _ => ?_) <;> (conv => whnf))
    | (refine need_intro ?_ ?_; (conv => whnf))
    | (refine wk_refl ?_; (conv => whnf))
    | (refine draw_intro (by kernel_rfl) ?_; (conv => whnf))
    | (refine ord_intro (by kernel_rfl) ?_; (conv => whnf))
  all_goals try simp only [decide_eq_true_eq, decide_eq_false_iff_not] at *
  all_goals try first
    | omega
    | exact ⟨LeS.refl _, trivial⟩
    | exact ⟨by assumption, by omega, by omega⟩
    | exact ⟨by assumption, by omega⟩
    | assumption
  have hb := getD_len (L := [raw, x, y]) (n := 60) (by intro z hz; simp only [List.mem_cons, List.not_mem_nil, or_false] at hz; rcases hz with rfl | rfl | rfl <;> omega)
  refine loop_auto [2, 7, 41] [] (fun s : Nat × Nat => [(40, .d (encL encLL 1 [raw, x, y])), (42, .d (.int .i64 s.1))]) (fun s => [(2000, tapeB tl s.2)]) (fun s => s.1 ≤ 3 ∧ TapeOk tl s.2) (fun s => 3 - s.1) (0, b) ?_ (fun s hs => ?_) ⟨by simp, by assumption⟩
  · conv => whnf
    repeat' first
      | (refine bc_true (by assumption) ?_; (conv => whnf))
      | (refine bc_false (by assumption) ?_; (conv => whnf))
      | (refine bc_intro (fun _ => ?_) (fun _ => ?_) <;> (conv => whnf))
      | (refine need_intro ?_ ?_; (conv => whnf))
      | (refine wk_refl ?_; (conv => whnf))
      | (refine draw_intro (by kernel_rfl) ?_; (conv => whnf))
      | (refine ord_intro (by kernel_rfl) ?_; (conv => whnf))
    all_goals first | exact ⟨rfl, rfl⟩ | exact ⟨rfl, rfl, rfl⟩ | exact DLe.refl _ | exact RowLe.refl _ _ _ | exact trivial | (refine dle_lit (by kernel_rfl) rfl (.all ?_); (repeat' first | exact trivial | exact rfl | apply And.intro); done) | trace_state
  · obtain ⟨i, a⟩ := s
    obtain ⟨hi, ha⟩ := hs
    simp only at hi ha
    have hs : IntKind.i64.wrap ((i : Int) + 1) = ((i + 1 : Nat) : Int) := wrap_succ (n := 10) (by omega) (by omega)
    conv => whnf
    repeat' first
      | (refine call_some_if (bound_ex _) (fun _ => by first | exact .inl rfl | exact .inr ⟨rfl, rfl⟩) (need_intro ?_ ?_); rintro ⟨k1, t1, c⟩ ⟨h6, h7⟩; (conv => whnf))
      | (refine call_intro (awake_spec) ?_ (by first | exact .inl rfl | exact .inr ⟨rfl, rfl⟩); (conv => whnf))
      | (refine bc_true (by assumption) ?_; (conv => whnf))
      | (refine bc_false (by assumption) ?_; (conv => whnf))
      | (refine bc_intro (fun _ => ?_) (fun _ => ?_) <;> (conv => whnf))
      | (refine need_intro ?_ ?_; (conv => whnf))
      | (refine wk_refl ?_; (conv => whnf))
      | (refine draw_intro (by kernel_rfl) ?_; (conv => whnf))
      | (refine ord_intro (by kernel_rfl) ?_; (conv => whnf))
    all_goals try simp only [decide_eq_true_eq, decide_eq_false_iff_not] at *
    all_goals try first
      | omega
      | assumption
      | exact ⟨LeS.refl _, trivial⟩
      | exact ⟨by omega, by omega⟩
    rename_i k2 t2 _ _ _ _
    have hs' := hs
    refine loop_auto [2, 7, 10, 40, 41, 42, 51] [2000] (fun j : Nat => [(50, .d (encL encBnd 2 [(k2, t2), (k1, t1)])), (52, .d (.int .i64 j))]) (fun j => []) (fun j => j ≤ 2) (fun j => 2 - j) 0 ?_ (fun j hj => ?_) (by omega)
    · conv => whnf
      repeat' first
        | (refine bc_true (by assumption) ?_; (conv => whnf))
        | (refine bc_false (by assumption) ?_; (conv => whnf))
        | (refine bc_intro (fun _ => ?_) (fun _ => ?_) <;> (conv => whnf))
        | (refine need_intro ?_ ?_; (conv => whnf))
        | (refine wk_refl ?_; (conv => whnf))
        | (refine draw_intro (by kernel_rfl) ?_; (conv => whnf))
        | (refine ord_intro (by kernel_rfl) ?_; (conv => whnf))
      all_goals first | exact ⟨rfl, rfl⟩ | exact ⟨rfl, rfl, rfl⟩ | exact DLe.refl _ | exact RowLe.refl _ _ _ | exact trivial | (refine dle_lit (by kernel_rfl) rfl (.all ?_); (repeat' first | exact trivial | exact rfl | apply And.intro); done) | trace_state
    · have hs : IntKind.i64.wrap ((j : Int) + 1) = ((j + 1 : Nat) : Int) := wrap_succ (n := 10) (by omega) (by omega)
      conv => whnf
      repeat' first
        | (refine call_intro (abovep_spec _ _ _) ?_ (by first | exact .inl rfl | exact .inr ⟨rfl, rfl⟩); (conv => whnf))
        | (refine call_intro (abover_spec _ _ _) ?_ (by first | exact .inl rfl | exact .inr ⟨rfl, rfl⟩); (conv => whnf))
        | (refine call_intro (belowp_spec _ _ _) ?_ (by first | exact .inl rfl | exact .inr ⟨rfl, rfl⟩); (conv => whnf))
        | (refine call_intro (belowr_spec _ _ _) ?_ (by first | exact .inl rfl | exact .inr ⟨rfl, rfl⟩); (conv => whnf))
        | (refine call_some_if (next_ex _) (fun _ => by first | exact .inl rfl | exact .inr ⟨rfl, rfl⟩) (need_intro ?_ ?_); rintro ⟨w, d⟩ ⟨⟨g1, g2⟩, g3⟩; (conv => whnf))
        | (refine NextVC.mk (j + 1) ?_ ?_ ?_; (conv => whnf))
        | (refine bc_true (by assumption) ?_; (conv => whnf))
        | (refine bc_false (by assumption) ?_; (conv => whnf))
        | (refine bc_intro (fun _ => ?_) (fun _ => ?_) <;> (conv => whnf))
        | (refine need_intro ?_ ?_; (conv => whnf))
        | (refine wk_refl ?_; (conv => whnf))
        | (refine draw_intro (by kernel_rfl) ?_; (conv => whnf))
        | (refine ord_intro (by kernel_rfl) ?_; (conv => whnf))
      all_goals try simp only [decide_eq_true_eq, decide_eq_false_iff_not] at *
      all_goals try first
        | omega
        | exact trivial
        | assumption
        | exact DLe.refl _
        | exact RowLe.refl _ _ _
        | exact DLe.of_eq (by rw [hs])
        | exact ⟨by omega, by omega⟩
        | exact ⟨by assumption, by omega, by omega⟩
        | (exfalso; simp at *; done)
      clear hs hj
      refine loop_auto [2, 7, 10, 40, 41, 42, 108] [2000] (fun j : Nat => [(107, .d (encL encI 1 [n, -1, ((([raw, x, y].getD (i : Int).toNat default).length : Nat) : Int), IntKind.i64.wrap (((([raw, x, y].getD (i : Int).toNat default).length : Nat) : Int) + 1), w])), (109, .d (.int .i64 j))]) (fun j => []) (fun j => j ≤ 5) (fun j => 5 - j) 0 ?_ (fun j hj => ?_) (by omega)
      · conv => whnf
        repeat' first
          | (refine bc_true (by assumption) ?_; (conv => whnf))
          | (refine bc_false (by assumption) ?_; (conv => whnf))
          | (refine bc_intro (fun _ => ?_) (fun _ => ?_) <;> (conv => whnf))
          | (refine need_intro ?_ ?_; (conv => whnf))
          | (refine wk_refl ?_; (conv => whnf))
          | (refine draw_intro (by kernel_rfl) ?_; (conv => whnf))
          | (refine ord_intro (by kernel_rfl) ?_; (conv => whnf))
        all_goals first | exact ⟨rfl, rfl⟩ | exact ⟨rfl, rfl, rfl⟩ | exact DLe.refl _ | exact RowLe.refl _ _ _ | exact trivial | (refine dle_lit (by kernel_rfl) rfl (.all ?_); (repeat' first | exact trivial | exact rfl | apply And.intro); done) | trace_state
      · have hs : IntKind.i64.wrap ((j : Int) + 1) = ((j + 1 : Nat) : Int) := wrap_succ (n := 10) (by omega) (by omega)
        have hlen := hb (i : Int).toNat
        have hq := getD_all (L := [n, -1, ((([raw, x, y].getD (i : Int).toNat default).length : Nat) : Int), IntKind.i64.wrap (((([raw, x, y].getD (i : Int).toNat default).length : Nat) : Int) + 1), w]) (Q := fun v => -9223372036854775808 ≤ v ∧ v < 9223372036854775808) (by
          intro v hv
          simp only [List.mem_cons, List.not_mem_nil, or_false] at hv
          rw [wrap_of (by omega) (by omega)] at hv
          rcases hv with rfl | rfl | rfl | rfl | rfl <;> omega) (by simp only [show (default : Int) = 0 from rfl]; omega)
        conv => whnf
        repeat' first
          | (refine call_if (cutp_spec _ _) (by first | exact .inl rfl | exact .inr ⟨rfl, rfl⟩) (need_intro ?_ ?_); (conv => whnf))
          | (refine call_if (cutr_spec _ _) (by first | exact .inl rfl | exact .inr ⟨rfl, rfl⟩) (need_intro ?_ ?_); (conv => whnf))
          | (refine NextVC.mk (i + 1, d) ?_ ?_ ?_; (conv => whnf))
          | (refine NextVC.mk (j + 1) ?_ ?_ ?_; (conv => whnf))
          | (refine bc_true (by assumption) ?_; (conv => whnf))
          | (refine bc_false (by assumption) ?_; (conv => whnf))
          | (refine bc_intro (fun _ => ?_) (fun _ => ?_) <;> (conv => whnf))
          | (refine need_intro ?_ ?_; (conv => whnf))
          | (refine wk_refl ?_; (conv => whnf))
          | (refine draw_intro (by kernel_rfl) ?_; (conv => whnf))
          | (refine ord_intro (by kernel_rfl) ?_; (conv => whnf))
        all_goals try simp only [decide_eq_true_eq, decide_eq_false_iff_not] at *
        all_goals first
          | omega
          | exact trivial
          | exact DLe.refl _
          | exact RowLe.refl _ _ _
          | exact DLe.of_eq (by rw [hs])
          | exact DLe.of_eq (by rw [hs'])
          | exact hq _
          | exact ⟨by omega, by omega⟩
          | exact ⟨by omega, by assumption⟩
          | (exfalso; simp at *; done)
          | skip
theorem tableBounds_all (dss : List (List D)) (h : All2 (wfT Tryd.prog reachBytes 12) [22, 23, 3] dss) : Sx.Spec Tryd.prog GG 5 (svs Tryd.prog [22, 23, 3] dss) [] (.d (.bool true)) [] := by
  obtain ⟨x, y, z, rfl, hx, hy, hz⟩ := inv3 h
  obtain ⟨l, h1, h2, h3⟩ := ints_arg hx
  obtain ⟨raw, h4, h5, h6, h7⟩ := rows_arg hy
  obtain ⟨_, _, rfl, _⟩ := hx
  obtain ⟨_, _, rfl, _⟩ := hy
  obtain ⟨n, rfl, hn⟩ := hz
  exact (tableBounds_law l raw n h1 (wf_i64 hn)).arg (leL_app h2 (leL_app h6 (LeL.cons (LeS.refl _) LeL.nil)))
theorem tableBounds_lifted (os : Os) (started : os.Started) (H : Type) (enc : TypeId × Value → H) :
    ReturnsInHanded {} Tryd.checked os 5 .any (fun w args => (Rows.tableBoundsSpec.pre enc Tryd.prog Tryd.f5 [] false w args ∧ laidMetH Tryd.prog laidL w) ∧ sizedMet enc Tryd.prog Tryd.f5 (OpenSpec.ofChange Rows.tableBoundsSpec) false w args)
      (Rows.tableBoundsSpec.post enc Tryd.prog Tryd.f5 false true false false) := by
  refine returnsInHanded_of_change_and (C := Tryd.checked) (X := fun w _ => laidMetH Tryd.prog laidL w) (fun _ _ _ hh h => h.of_heap hh) own started (by kernel_rfl) Tryd.func5
    (ChangeSpec.witness_shaped (enc := enc) (C := Tryd.checked) (os := os) (X := fun w _ => laidMetH Tryd.prog laidL w) false (World.doorLaid Tryd.prog 400 os) #[.slice none 0 0, .slice none 0 0, .int .i64 0] 8 rfl (World.shaped_of_RefB (by kernel_rfl) (by kernel_rfl)) (by kernel_rfl) (by kernel_rfl) (by kernel_rfl) (door_met os _)) ?_
  intro W base args ds gs before hval hW hcnd hsz hL _
  refine law_contract (P := Tryd.prog) (ts := [22, 23, 3]) (bt := 4) (G := GG) laidOut (by rw [Tryd.params5]) (by kernel_rfl) Tryd.underlying4 (by kernel_rfl) rfl ?_ tableBounds_all hval hW hsz (gok hL)
  intro ds h
  match ds, h with
  | [_, _, _], _ => rfl
theorem tableBounds_over : Rows.tableBoundsRow.holds Tryd.pinned (OpenSpec.ofChange Rows.tableBoundsSpec) :=
  OpenClaim.holds_of_wide 5 Tryd.f5 rfl rfl rfl rfl rfl rfl rfl ⟨rfl, rfl, rfl, rfl, rfl⟩ rfl rfl rfl rfl rfl (by kernel_rfl) Tryd.func5 (by kernel_rfl)
    (of_decide_eq_true (by kernel_rfl)) (by unfold Func.isWrapper; first | (rw [if_pos (by decide +kernel)]; kernel_rfl) | (rw [if_neg (by decide +kernel)]; exact ⟨rfl, rfl⟩))
    (fun os started H enc _ => tableBounds_lifted os started H enc)
theorem tableBounds_plain : ∀ t ∈ [22, 23, 3], Tryd.prog.wantsStandIn t = false := by
  intro t ht
  simp only [List.mem_cons, List.not_mem_nil, or_false] at ht
  rcases ht with rfl | rfl | rfl <;> kernel_rfl
theorem tableBounds_proved : Rows.TableBoundsCardSaid :=
  Claim7.holds_tied_plain_at .later [] [.data] true (true, "510fec8f624df2fc206200128f363aab01a2d4b69791c4a506e6d0fecdf9ce0e") false
    tableBounds_over (fun _ h => by cases h) (by kernel_rfl) (fun _ h => by cases h) tableBounds_row_tie rfl ⟨rfl, rfl⟩ (by kernel_rfl) rfl
    (fun f fn hf hfn => by
      obtain rfl : f = 5 := Option.some.inj ((show Tryd.prog.funcNamed Rows.tableBoundsRow.func = some 5 by kernel_rfl).symm.trans hf) |>.symm
      obtain rfl : fn = Tryd.f5 := (Option.some.inj (Tryd.func5.symm.trans hfn)).symm
      exact ⟨by kernel_rfl, fun j t ht => tableBounds_plain t (by
        rw [Tryd.params5] at ht
        exact List.mem_of_getElem? (by simpa using ht))⟩)
    (by kernel_rfl)
#print axioms tableBounds_proved

