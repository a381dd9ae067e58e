/- TableCuts: for every table and every number of its rows, Cut, Above, Below and Slice agree. -/
import Derived.Test.YtkdofckkhdnmfaaDoorLay
import Derived.Test.YtkdofckkhdnmfaaDoorPlace
import Derived.Test.YtkdofckkhdnmfaaDoorSxTabC
namespace Go.Proofs.YtkdofckkhdnmfaaDoor
open Go Go.Sx Go.ChangeShapes Go.WideShapes Go.ChangeAt Go.WideMaps Go.WideElems Go.RowKit
set_option linter.unusedVariables false
set_option linter.unusedSimpArgs false
set_option maxRecDepth 100000
theorem last_true {rows : List Row} {n : Nat} (h : (lastF rows n).2 = true) : 0 < n := by
  rcases Nat.eq_zero_or_pos n with e | e
  · subst e; cases h
  · exact e
theorem cutK_spec (rows : List Row) (n : Nat) : (TabOk rows ∧ n ≤ rows.length) → Sx.Spec Tryd.prog GG 35 [.d (encL encRow 2 rows), .d (.int .i64 n)] [] (.tup [.agg [.d (.str (bndK rows n)), .d (.bool (bndT rows n))], .d (.bool true)]) [] := by
  rintro ⟨h, hn⟩
  have := cutp_spec rows n (by have := h.len; omega)
  rw [bnd_cut h hn] at this
  exact this
theorem aboveK_spec (rows : List Row) (n : Nat) : (TabOk rows ∧ n ≤ rows.length) → Sx.Spec Tryd.prog GG 30 [.d (encL encRow 2 rows), .agg [.d (.str (bndK rows n)), .d (.bool (bndT rows n))]] [] (.tup [.agg [.d (.str (if n < rows.length then (rows.getD n default).1 else [])), .d (.str (if n < rows.length then (rows.getD n default).2 else []))], .d (.bool (decide (n < rows.length)))]) [] := by
  rintro ⟨h, hn⟩
  have := abovep_spec rows (bndK rows n) (bndT rows n)
  have e : aboveF rows (bndK rows n) (bndT rows n) = if n < rows.length then (rows.getD n default, true) else (([], []), false) := by
    unfold aboveF
    rw [bnd_place h hn, validT_iff.2 h, bnd_valid h n]
    simp
  rw [e] at this
  by_cases hl : n < rows.length
  · simp only [hl, if_true] at this ⊢
    exact this
  · simp only [hl, if_false] at this ⊢
    exact this
theorem belowK_spec (rows : List Row) (n : Nat) : (TabOk rows ∧ n ≤ rows.length) → Sx.Spec Tryd.prog GG 32 [.d (encL encRow 2 rows), .agg [.d (.str (bndK rows n)), .d (.bool (bndT rows n))]] [] (.tup [.agg [.d (.str (lastF rows n).1.1), .d (.str (lastF rows n).1.2)], .d (.bool (lastF rows n).2)]) [] := by
  rintro ⟨h, hn⟩
  have := belowp_spec rows (bndK rows n) (bndT rows n)
  rw [below_ok (validT_iff.2 h) (bnd_valid h n), bnd_place h hn] at this
  exact this
theorem tableCuts_law (l : List Int) (hl : ∀ x ∈ l, -9223372036854775808 ≤ x ∧ x < 9223372036854775808) : Sx.Spec Tryd.prog GG 10 [.d (encL encI 1 l)] [] (.d (.bool true)) [] := by
  refine spec_intro (E := EE) (fn := Tryd.f10) eok (by kernel_rfl) (by kernel_rfl) Tryd.call10 (by kernel_rfl) (by kernel_rfl) ?_
  conv => whnf
  repeat' first
    | (refine call_some (new_ex 2000 hl) (fun _ => by first | exact .inl rfl | exact .inr ⟨rfl, rfl⟩) ?_; rintro ⟨tl, ta⟩ hT; (conv => whnf))
    | (refine call_some_if (rows_ex _) (fun _ => by first | exact .inl rfl | exact .inr ⟨rfl, rfl⟩) (need_intro ?_ ?_); rintro ⟨x, b⟩ ⟨⟨h1, h2⟩, h3⟩; (conv => whnf))
    | (refine bc_true (by assumption) ?_; (conv => whnf))
    | (refine bc_false (by assumption) ?_; (conv => whnf))
    | (refine bc_intro (fun _ => ?_) (fun _ => ?_) <;> (conv => whnf))
    | (refine need_intro ?_ ?_; (conv => whnf))
    | (refine wk_refl ?_; (conv => whnf))
    | (refine draw_intro (by kernel_rfl) ?_; (conv => whnf))
    | (refine ord_intro (by kernel_rfl) ?_; (conv => whnf))
  all_goals try first
    | omega
    | exact ⟨by assumption, by omega, by omega⟩
  have h2 : (x.length : Int) ≤ 8 := h2
  refine loop_auto [4] [] (fun i : Nat => [(5, .d (.int .i64 i))]) (fun i => []) (fun i => i ≤ x.length + 1) (fun i => x.length + 1 - i) 0 ?_ (fun i hi => ?_) (by omega)
  · conv => whnf
    repeat' first
      | (refine bc_true (by assumption) ?_; (conv => whnf))
      | (refine bc_false (by assumption) ?_; (conv => whnf))
      | (refine bc_intro (fun _ => ?_) (fun _ => ?_) <;> (conv => whnf))
      | (refine need_intro ?_ ?_; (conv => whnf))
      | (refine wk_refl ?_; (conv => whnf))
      | (refine draw_intro (by kernel_rfl) ?_; (conv => whnf))
      | (refine ord_intro (by kernel_rfl) ?_; (conv => whnf))
    all_goals first | exact ⟨rfl, rfl⟩ | exact ⟨rfl, rfl, rfl⟩ | exact DLe.refl _ | exact RowLe.refl _ _ _ | exact trivial
  · have hs : i ≤ x.length → IntKind.i64.wrap ((i : Int) + 1) = ((i + 1 : Nat) : Int) := fun h => wrap_succ (n := 1000) (by omega) (by omega)
    have hw : 0 < i → i ≤ x.length → IntKind.i64.wrap ((i : Int) - 1) = ((i - 1 : Nat) : Int) := fun h h' => by rw [wrap_of (by omega) (by omega)]; omega
    conv => whnf
    repeat' first
      | (refine call_if (cutK_spec _ _) (by first | exact .inl rfl | exact .inr ⟨rfl, rfl⟩) (need_intro ?_ ?_); (conv => whnf))
      | (refine call_if (slicep_spec _ _ _ _ _) (by first | exact .inl rfl | exact .inr ⟨rfl, rfl⟩) (need_intro ?_ ?_); (conv => whnf))
      | (refine call_intro (validBoundr_spec _ _) ?_ (by first | exact .inl rfl | exact .inr ⟨rfl, rfl⟩); (conv => whnf))
      | (refine call_if (aboveK_spec _ _) (by first | exact .inl rfl | exact .inr ⟨rfl, rfl⟩) (need_intro ?_ ?_); (conv => whnf))
      | (refine call_if (belowK_spec _ _) (by first | exact .inl rfl | exact .inr ⟨rfl, rfl⟩) (need_intro ?_ ?_); (conv => whnf))
      | (refine call_intro (awake_spec) ?_ (by first | exact .inl rfl | exact .inr ⟨rfl, rfl⟩); (conv => whnf))
      | (refine NextVC.mk (i + 1) ?_ ?_ ?_; (conv => whnf))
      | (refine bc_true (by assumption) ?_; (conv => whnf))
      | (refine bc_false (by assumption) ?_; (conv => whnf))
      | (refine bc_intro (fun _ => ?_) (fun _ => ?_) <;> (conv => whnf))
      | (refine need_intro ?_ ?_; (conv => whnf))
      | (refine wk_refl ?_; (conv => whnf))
      | (refine draw_intro (by kernel_rfl) ?_; (conv => whnf))
      | (refine ord_intro (by kernel_rfl) ?_; (conv => whnf))
    all_goals try simp only [decide_eq_true_eq, decide_eq_false_iff_not, Bool.not_eq_true', Bool.not_eq_false'] at *
    all_goals first
      | omega
      | exact trivial
      | exact DLe.refl _
      | exact DLe.of_eq (by rw [hs (by omega)])
      | exact ⟨by omega, by omega⟩
      | exact ⟨by assumption, by omega⟩
      | exact ⟨LeS.refl _, trivial⟩
      | (have e := last_true ‹(lastF _ _).2 = true›; rw [hw (by omega) (by omega)]; exact ⟨by omega, by omega⟩)
      | (exfalso
         have e1 := bnd_slice h1 (n := i) (by omega)
         have e2 := bnd_valid h1 i
         simp_all; done)
      | (exfalso
         rcases Nat.eq_zero_or_pos i with e | e
         · subst e; simp_all [last_zero]
         · have e3 := last_pos (rows := x) e
           have e4 := hw e (by omega)
           simp only [e3, e4, Int.toNat_natCast, BEq.rfl, Bool.and_self] at *
           simp_all; done)
      | trace_state
theorem tableCuts_all (dss : List (List D)) (h : All2 (wfT Tryd.prog reachBytes 12) [22] dss) : Sx.Spec Tryd.prog GG 10 (svs Tryd.prog [22] dss) [] (.d (.bool true)) [] := by
  obtain ⟨y, rfl, hy⟩ := inv1 h
  obtain ⟨l, h1, h2, h3⟩ := ints_arg hy
  obtain ⟨_, _, rfl, _⟩ := hy
  exact (tableCuts_law l h1).arg h2
theorem tableCuts_lifted (os : Os) (started : os.Started) (H : Type) (enc : TypeId × Value → H) :
    ReturnsInHanded {} Tryd.checked os 10 .any (fun w args => (Rows.tableCutsSpec.pre enc Tryd.prog Tryd.f10 [] false w args ∧ laidMetH Tryd.prog laidL w) ∧ sizedMet enc Tryd.prog Tryd.f10 (OpenSpec.ofChange Rows.tableCutsSpec) false w args)
      (Rows.tableCutsSpec.post enc Tryd.prog Tryd.f10 false true false false) := by
  refine returnsInHanded_of_change_and (C := Tryd.checked) (X := fun w _ => laidMetH Tryd.prog laidL w) (fun _ _ _ hh h => h.of_heap hh) own started (by kernel_rfl) Tryd.func10
    (ChangeSpec.witness_shaped (enc := enc) (C := Tryd.checked) (os := os) (X := fun w _ => laidMetH Tryd.prog laidL w) false (World.doorLaid Tryd.prog 400 os) #[.slice none 0 0] 8 rfl (World.shaped_of_RefB (by kernel_rfl) (by kernel_rfl)) (by kernel_rfl) (by kernel_rfl) (by kernel_rfl) (door_met os _)) ?_
  intro W base args ds gs before hval hW hcnd hsz hL _
  refine law_contract (P := Tryd.prog) (ts := [22]) (bt := 4) (G := GG) laidOut (by rw [Tryd.params10]) (by kernel_rfl) Tryd.underlying4 (by kernel_rfl) rfl ?_ tableCuts_all hval hW hsz (gok hL)
  intro ds h
  match ds, h with
  | [_], _ => rfl
theorem tableCuts_over : Rows.tableCutsRow.holds Tryd.pinned (OpenSpec.ofChange Rows.tableCutsSpec) :=
  OpenClaim.holds_of_wide 10 Tryd.f10 rfl rfl rfl rfl rfl rfl rfl ⟨rfl, rfl, rfl, rfl, rfl⟩ rfl rfl rfl rfl rfl (by kernel_rfl) Tryd.func10 (by kernel_rfl)
    (of_decide_eq_true (by kernel_rfl)) (by unfold Func.isWrapper; first | (rw [if_pos (by decide +kernel)]; kernel_rfl) | (rw [if_neg (by decide +kernel)]; exact ⟨rfl, rfl⟩))
    (fun os started H enc _ => tableCuts_lifted os started H enc)
theorem tableCuts_plain : ∀ t ∈ [22], Tryd.prog.wantsStandIn t = false := by
  intro t ht
  simp only [List.mem_cons, List.not_mem_nil, or_false] at ht
  rcases ht with rfl <;> kernel_rfl
theorem tableCuts_proved : Rows.TableCutsCardSaid :=
  Claim7.holds_tied_plain_at .later [] [.data] true (true, "510fec8f624df2fc206200128f363aab01a2d4b69791c4a506e6d0fecdf9ce0e") false
    tableCuts_over (fun _ h => by cases h) (by kernel_rfl) (fun _ h => by cases h) tableCuts_row_tie rfl ⟨rfl, rfl⟩ (by kernel_rfl) rfl
    (fun f fn hf hfn => by
      obtain rfl : f = 10 := Option.some.inj ((show Tryd.prog.funcNamed Rows.tableCutsRow.func = some 10 by kernel_rfl).symm.trans hf) |>.symm
      obtain rfl : fn = Tryd.f10 := (Option.some.inj (Tryd.func10.symm.trans hfn)).symm
      exact ⟨by kernel_rfl, fun j t ht => tableCuts_plain t (by
        rw [Tryd.params10] at ht
        exact List.mem_of_getElem? (by simpa using ht))⟩)
    (by kernel_rfl)
#print axioms tableCuts_proved

