/- The law CompositeDecodes: the walk through its code and the claim. -/
import Derived.Test.YtoommeeolmfepaaDoorKLay
import Derived.Test.YtoommeeolmfepaaDoorK14
namespace Go.Proofs.YtoommeeolmfepaaDoor
open Go Go.Sx Go.ChangeShapes Go.WideShapes Go.ChangeAt Go.WideMaps Go.WideElems Go.RowKit
set_option linter.unusedVariables false
set_option linter.unusedSimpArgs false
set_option maxRecDepth 100000
set_option maxHeartbeats 2000000 in
theorem compositeDecodes_law (l : List Int) (s0 : List Col) (key0 : List UInt8) (hl : ∀ x ∈ l, -9223372036854775808 ≤ x ∧ x < 9223372036854775808) (hk : key0.length ≤ 140737488351232) : Sx.Spec Tryd.prog GG 3 [.d (encL encI 1 l), .d (encL encCol 2 s0), .d (.str key0)] [] (.d (.bool true)) [] := by
  refine spec_intro (E := EE) (fn := Tryd.f3) eok (by kernel_rfl) (by kernel_rfl) Tryd.call3 (by kernel_rfl) (by kernel_rfl) ?_
  conv => whnf
  repeat' first
    | (refine call_some (new_ex 2000 hl) (fun _ => by first | exact .inl rfl | exact .inr ⟨rfl, rfl⟩) ?_; rintro ⟨tl, ta⟩ hT; (conv => whnf))
    | (refine bc_true (by assumption) ?_; (conv => whnf))
    | (refine bc_false (by assumption) ?_; (conv => whnf))
    | (refine bc_intro (fun _ => ?_) (fun _ => ?_) <;> (conv => whnf))
    | (refine need_intro ?_ ?_; (conv => whnf))
    | (refine wk_refl ?_; (conv => whnf))
    | (refine draw_intro (by kernel_rfl) ?_; (conv => whnf))
    | (refine ord_intro (by kernel_rfl) ?_; (conv => whnf))
  refine loop_auto [0, 1, 2, 7] [] (fun x : Nat × Nat => [(8, .d (.int .i64 x.1))]) (fun x => [(2000, tapeB tl x.2)]) (fun x => x.1 ≤ 5 ∧ TapeOk tl x.2) (fun x => 5 - x.1) (0, ta) ?_ (fun x hx => ?_) ⟨by simp, hT⟩
  · conv => whnf
    repeat' first
      | (refine bc_true (by assumption) ?_; (conv => whnf))
      | (refine bc_false (by assumption) ?_; (conv => whnf))
      | (refine bc_intro (fun _ => ?_) (fun _ => ?_) <;> (conv => whnf))
      | (refine need_intro ?_ ?_; (conv => whnf))
      | (refine wk_refl ?_; (conv => whnf))
      | (refine draw_intro (by kernel_rfl) ?_; (conv => whnf))
      | (refine ord_intro (by kernel_rfl) ?_; (conv => whnf))
    all_goals first | exact trivial | exact DLe.refl _ | exact DLe.nil | exact RowLe.refl _ _ _ | exact ⟨rfl, rfl⟩ | exact ⟨rfl, rfl, rfl⟩ | trace_state
  · obtain ⟨i, a⟩ := x
    obtain ⟨hi, ha⟩ := hx
    simp only at hi ha
    simp only
    have hs : IntKind.i64.wrap ((i : Int) + 1) = ((i + 1 : Nat) : Int) := wrap_succ (n := 2000) (by omega) (by omega)
    conv => whnf
    repeat' first
      | (refine call_some_if (schema_ex 2000) (fun _ => by first | exact .inl rfl | exact .inr ⟨rfl, rfl⟩) (need_intro ?_ ?_); rintro ⟨s, b⟩ ⟨g1, g2⟩; (conv => whnf))
      | (refine call_some_if (fields_ex 2000) (fun _ => by first | exact .inl rfl | exact .inr ⟨rfl, rfl⟩) (need_intro ?_ ?_); rintro ⟨fs, b⟩ ⟨⟨g3, g4⟩, g5⟩; (conv => whnf))
      | (refine call_if (encr_spec _ _) (by first | exact .inl rfl | exact .inr ⟨rfl, rfl⟩) (need_intro ?_ ?_); (conv => whnf))
      | (refine call_some_if (damage_ex 2000) (fun _ => by first | exact .inl rfl | exact .inr ⟨rfl, rfl⟩) (need_intro ?_ ?_); rintro ⟨key, b⟩ ⟨g6, g7⟩; (conv => whnf))
      | (refine call_if (decp_spec _ _) (by first | exact .inl rfl | exact .inr ⟨rfl, rfl⟩) (need_intro ?_ ?_); (conv => whnf))
      | (refine call_if (decr_spec _ _) (by first | exact .inl rfl | exact .inr ⟨rfl, rfl⟩) (need_intro ?_ ?_); (conv => whnf))
      | (refine call_if (same_spec _ _) (by first | exact .inl rfl | exact .inr ⟨rfl, rfl⟩) (need_intro ?_ ?_); (conv => whnf))
      | (refine call_intro (sane_spec) ?_ (by first | exact .inl rfl | exact .inr ⟨rfl, rfl⟩); (conv => whnf))
      | (refine NextVC.mk (i + 1, b) ?_ ?_ ?_; (conv => whnf))
      | (refine bc_true (by assumption) ?_; (conv => whnf))
      | (refine bc_false (by assumption) ?_; (conv => whnf))
      | (refine bc_intro (fun _ => ?_) (fun _ => ?_) <;> (conv => whnf))
      | (refine need_intro ?_ ?_; (conv => whnf))
      | (refine wk_refl ?_; (conv => whnf))
      | (refine draw_intro (by kernel_rfl) ?_; (conv => whnf))
      | (refine ord_intro (by kernel_rfl) ?_; (conv => whnf))
    all_goals try simp only [decide_eq_true_eq, decide_eq_false_iff_not, Bool.not_eq_true', Bool.not_eq_false', bne_iff_ne, ne_eq, not_true_eq_false] at *
    all_goals first
      | exact trivial
      | assumption
      | exact DLe.refl _
      | exact DLe.of_eq (by rw [hs])
      | exact ⟨by omega, by assumption⟩
      | omega
      | exact ⟨LeS.refl _, trivial⟩
      | (have hd1 := @decodeS_len; exact ⟨Nat.le_trans decodeS_len (by omega), Nat.le_trans decodeS_len (by omega)⟩)
      | (have hg := g1.len; exact ⟨Nat.le_trans decodeS_len (by omega), Nat.le_trans decodeS_len (by omega)⟩)
      | (have hg := g1.len; exact ⟨by omega, by omega⟩)
      | (have hg := g1.len; have he := @encodeS_len s fs; exact ⟨by omega, by omega⟩)
      | (have hg := g1.len; exact ⟨by omega, by omega, g4.num⟩)
      | exact ⟨by assumption, g1, by omega, by omega⟩
      | exact ⟨by assumption, encodeS_len⟩
      | trace_state
theorem compositeDecodes_all (dss : List (List D)) (h : All2 (wfT Tryd.prog reachBytes 12) [22, 23, 9] dss) : Sx.Spec Tryd.prog GG 3 (svs Tryd.prog [22, 23, 9] dss) [] (.d (.bool true)) [] := by
  obtain ⟨x, y, z, rfl, hx, hy, hz⟩ := inv3 h
  obtain ⟨l, h1, h2, h3⟩ := ints_arg hx
  obtain ⟨s, h4, h5, h6⟩ := cols_arg hy
  obtain ⟨_, _, rfl, _⟩ := hx
  obtain ⟨_, _, rfl, _⟩ := hy
  obtain ⟨k, rfl, _, hk⟩ := hz
  exact (compositeDecodes_law l s k h1 (Nat.le_trans hk (by decide))).arg (leL_app h2 (leL_app h5 (LeL.cons (LeS.refl _) LeL.nil)))
theorem compositeDecodes_lifted (os : Os) (started : os.Started) (H : Type) (enc : TypeId × Value → H) :
    ReturnsInHanded {} Tryd.checked os 3 .any (fun w args => (Rows.compositeDecodesSpec.pre enc Tryd.prog Tryd.f3 [] false w args ∧ laidMetH Tryd.prog laidL w) ∧ sizedMet enc Tryd.prog Tryd.f3 (OpenSpec.ofChange Rows.compositeDecodesSpec) false w args)
      (Rows.compositeDecodesSpec.post enc Tryd.prog Tryd.f3 false true false false) := by
  refine returnsInHanded_of_change_and (C := Tryd.checked) (X := fun w _ => laidMetH Tryd.prog laidL w) (fun _ _ _ hh h => h.of_heap hh) own started (by kernel_rfl) Tryd.func3
    (ChangeSpec.witness_shaped (enc := enc) (C := Tryd.checked) (os := os) (X := fun w _ => laidMetH Tryd.prog laidL w) false (World.doorLaid Tryd.prog 400 os) #[.slice none 0 0, .slice none 0 0, .string ⟨#[]⟩] 8 rfl (World.shaped_of_RefB (by kernel_rfl) (by kernel_rfl)) (by kernel_rfl) (by kernel_rfl) (by kernel_rfl) (door_met os _)) ?_
  intro W base args ds gs before hval hW hcnd hsz hL _
  refine law_contract (P := Tryd.prog) (ts := [22, 23, 9]) (bt := 4) (G := GG) laidOut (by rw [Tryd.params3]) (by kernel_rfl) Tryd.underlying4 (by kernel_rfl) rfl ?_ compositeDecodes_all hval hW hsz (gok hL)
  intro ds h
  match ds, h with
  | [_, _, _], _ => rfl
theorem compositeDecodes_over : Rows.compositeDecodesRow.holds Tryd.pinned (OpenSpec.ofChange Rows.compositeDecodesSpec) :=
  OpenClaim.holds_of_wide 3 Tryd.f3 rfl rfl rfl rfl rfl rfl rfl ⟨rfl, rfl, rfl, rfl, rfl⟩ rfl rfl rfl rfl rfl (by kernel_rfl) Tryd.func3 (by kernel_rfl)
    (of_decide_eq_true (by kernel_rfl)) (by unfold Func.isWrapper; first | (rw [if_pos (by decide +kernel)]; kernel_rfl) | (rw [if_neg (by decide +kernel)]; exact ⟨rfl, rfl⟩))
    (fun os started H enc _ => compositeDecodes_lifted os started H enc)
theorem compositeDecodes_plain : ∀ t ∈ [22, 23, 9], Tryd.prog.wantsStandIn t = false := by
  intro t ht
  simp only [List.mem_cons, List.not_mem_nil, or_false] at ht
  rcases ht with rfl | rfl | rfl <;> kernel_rfl
theorem compositeDecodes_proved : Rows.CompositeDecodesCardSaid :=
  Claim7.holds_tied_plain_at .later [] [.data] true (true, "0e52a8286e7c94b2c9a14399cff66ddebaac7128c5ef4013cc4fad5231b30964") false
    compositeDecodes_over (fun _ h => by cases h) (by kernel_rfl) (fun _ h => by cases h) compositeDecodes_row_tie rfl ⟨rfl, rfl⟩ (by kernel_rfl) rfl
    (fun f fn hf hfn => by
      obtain rfl : f = 3 := Option.some.inj ((show Tryd.prog.funcNamed Rows.compositeDecodesRow.func = some 3 by kernel_rfl).symm.trans hf) |>.symm
      obtain rfl : fn = Tryd.f3 := (Option.some.inj (Tryd.func3.symm.trans hfn)).symm
      exact ⟨by kernel_rfl, fun j t ht => compositeDecodes_plain t (by
        rw [Tryd.params3] at ht
        exact List.mem_of_getElem? (by simpa using ht))⟩)
    (by kernel_rfl)
#print axioms compositeDecodes_proved
end Go.Proofs.YtoommeeolmfepaaDoor
