/- The law CompositeRoundTrip: the walk through its code and the claim. -/
import Derived.Test.YtoommeeolmfepaaDoorKLay
import Derived.Test.YtoommeeolmfepaaDoorK14
import Derived.Test.YtoommeeolmfepaaDoorSxCmp
namespace Go.Proofs.YtoommeeolmfepaaDoor
open Go Go.Sx Go.ChangeShapes Go.WideShapes Go.ChangeAt Go.WideMaps Go.WideElems Go.RowKit
set_option linter.unusedVariables false
set_option linter.unusedSimpArgs false
set_option maxRecDepth 100000
set_option maxHeartbeats 2000000 in
theorem compositeRoundTrip_law (l : List Int) (hl : ∀ x ∈ l, -9223372036854775808 ≤ x ∧ x < 9223372036854775808) : Sx.Spec Tryd.prog GG 4 [.d (encL encI 1 l)] [] (.d (.bool true)) [] := by
  refine spec_intro (E := EE) (fn := Tryd.f4) eok (by kernel_rfl) (by kernel_rfl) Tryd.call4 (by kernel_rfl) (by kernel_rfl) ?_
  conv => whnf
  repeat' first
    | (refine call_some (new_ex 2000 hl) (fun _ => by first | exact .inl rfl | exact .inr ⟨rfl, rfl⟩) ?_; rintro ⟨tl, ta⟩ hT; (conv => whnf))
    | (refine call_some_if (schema_ex 2000) (fun _ => by first | exact .inl rfl | exact .inr ⟨rfl, rfl⟩) (need_intro ?_ ?_); rintro ⟨s, b⟩ ⟨g1, g2⟩; (conv => whnf))
    | (refine call_some_if (fields_ex 2000) (fun _ => by first | exact .inl rfl | exact .inr ⟨rfl, rfl⟩) (need_intro ?_ ?_); rintro ⟨fs, b⟩ ⟨⟨g3, g4⟩, g5⟩; (conv => whnf))
    | (refine call_if (encp_spec _ _) (by first | exact .inl rfl | exact .inr ⟨rfl, rfl⟩) (need_intro ?_ ?_); (conv => whnf))
    | (refine bc_true (by assumption) ?_; (conv => whnf))
    | (refine bc_false (by assumption) ?_; (conv => whnf))
    | (refine need_intro ?_ ?_; (conv => whnf))
    | (refine wk_refl ?_; (conv => whnf))
    | (refine draw_intro (by kernel_rfl) ?_; (conv => whnf))
    | (refine ord_intro (by kernel_rfl) ?_; (conv => whnf))
  · simp only at g1 g2 g3 g4 g5 hT
    have hsl := g1.len
    have hf : fitsL s fs = true := g4.fits g1.valid (by omega)
    have hfl : fs.length = s.length := by omega
    rcases enc_cases hf with h0 | h0
    · have hb := enc_back hf hfl g4.num h0
      have he := (enc_zero hf h0).2
      obtain ⟨key, hkey⟩ : ∃ key, (encodeS s fs).1 = key := ⟨_, rfl⟩
      have hkl : key.length ≤ 64 := by rw [← hkey]; exact encodeS_len
      rw [hkey] at hb
      simp only [h0, hkey]
      conv => whnf
      repeat' first
        | (refine call_intro (sane_spec) ?_ (by first | exact .inl rfl | exact .inr ⟨rfl, rfl⟩); (conv => whnf))
        | (refine call_if (same_spec _ _) (by first | exact .inl rfl | exact .inr ⟨rfl, rfl⟩) (need_intro ?_ ?_); (conv => whnf))
        | (refine call_some_if (damage_ex 2000) (fun _ => by first | exact .inl rfl | exact .inr ⟨rfl, rfl⟩) (need_intro ?_ ?_); rintro ⟨y, b⟩ ⟨g6, g7⟩; (conv => whnf))
        | (refine call_if (decp_spec _ _) (by first | exact .inl rfl | exact .inr ⟨rfl, rfl⟩) (need_intro ?_ ?_); (conv => whnf))
        | (refine call_if (encp_spec _ _) (by first | exact .inl rfl | exact .inr ⟨rfl, rfl⟩) (need_intro ?_ ?_); (conv => whnf))
        | (refine bc_true (by assumption) ?_; (conv => whnf))
        | (refine bc_false (by assumption) ?_; (conv => whnf))
        | (refine bc_intro (fun _ => ?_) (fun _ => ?_) <;> (conv => whnf))
        | (refine need_intro ?_ ?_; (conv => whnf))
        | (refine wk_refl ?_; (conv => whnf))
        | (refine draw_intro (by kernel_rfl) ?_; (conv => whnf))
        | (refine ord_intro (by kernel_rfl) ?_; (conv => whnf))
      all_goals try simp only [beq_iff_eq, beq_eq_false_iff_ne, bne_iff_ne, bne_eq_false_iff_eq, ne_eq, Bool.not_eq_true', Bool.not_eq_false', decide_eq_true_eq, decide_eq_false_iff_not, hb, not_true_eq_false] at *
      all_goals first
        | exact trivial
        | assumption
        | exact ⟨LeS.refl _, trivial⟩
        | (exfalso
           have f1 := (dec_fail (y := y) g1.valid (by assumption)).1
           omega)
        | (exfalso
           have f1 := (dec_fail (y := y) g1.valid (by assumption)).2
           omega)
        | (exfalso
           have f1 := dec_back (s := s) (y := y) (by assumption)
           simp [f1] at *
           done)
        | (have hd := @decodeS_len s y
           exact ⟨by omega, by omega, decodeS_num⟩)
        | (have hd := @decodeS_len s key
           exact ⟨by omega, by omega⟩)
        | exact ⟨by omega, by omega⟩
        | exact ⟨by assumption, by omega⟩
        | trace_state
    · simp only [h0]
      conv => whnf
      repeat' first
        | (refine call_intro (sane_spec) ?_ (by first | exact .inl rfl | exact .inr ⟨rfl, rfl⟩); (conv => whnf))
        | (refine bc_true (by assumption) ?_; (conv => whnf))
        | (refine bc_false (by assumption) ?_; (conv => whnf))
        | (refine bc_intro (fun _ => ?_) (fun _ => ?_) <;> (conv => whnf))
        | (refine need_intro ?_ ?_; (conv => whnf))
        | (refine wk_refl ?_; (conv => whnf))
        | (refine draw_intro (by kernel_rfl) ?_; (conv => whnf))
        | (refine ord_intro (by kernel_rfl) ?_; (conv => whnf))
      all_goals first
        | exact ⟨LeS.refl _, trivial⟩
        | trace_state
  all_goals first
    | (have hsl := g1.len
       simp only at g3 hsl ⊢
       exact ⟨by omega, by omega, g4.num⟩)
    | exact ⟨by assumption, g1, by omega, by omega⟩
    | assumption
    | trace_state
theorem compositeRoundTrip_all (dss : List (List D)) (h : All2 (wfT Tryd.prog reachBytes 12) [22] dss) : Sx.Spec Tryd.prog GG 4 (svs Tryd.prog [22] dss) [] (.d (.bool true)) [] := by
  obtain ⟨x, rfl, hx⟩ := inv1 h
  obtain ⟨l, h1, h2, h3⟩ := ints_arg hx
  obtain ⟨_, _, rfl, _⟩ := hx
  exact (compositeRoundTrip_law l h1).arg h2
theorem compositeRoundTrip_lifted (os : Os) (started : os.Started) (H : Type) (enc : TypeId × Value → H) :
    ReturnsInHanded {} Tryd.checked os 4 .any (fun w args => (Rows.compositeRoundTripSpec.pre enc Tryd.prog Tryd.f4 [] false w args ∧ laidMetH Tryd.prog laidL w) ∧ sizedMet enc Tryd.prog Tryd.f4 (OpenSpec.ofChange Rows.compositeRoundTripSpec) false w args)
      (Rows.compositeRoundTripSpec.post enc Tryd.prog Tryd.f4 false true false false) := by
  refine returnsInHanded_of_change_and (C := Tryd.checked) (X := fun w _ => laidMetH Tryd.prog laidL w) (fun _ _ _ hh h => h.of_heap hh) own started (by kernel_rfl) Tryd.func4
    (ChangeSpec.witness_shaped (enc := enc) (C := Tryd.checked) (os := os) (X := fun w _ => laidMetH Tryd.prog laidL w) false (World.doorLaid Tryd.prog 400 os) #[.slice none 0 0] 8 rfl (World.shaped_of_RefB (by kernel_rfl) (by kernel_rfl)) (by kernel_rfl) (by kernel_rfl) (by kernel_rfl) (door_met os _)) ?_
  intro W base args ds gs before hval hW hcnd hsz hL _
  refine law_contract (P := Tryd.prog) (ts := [22]) (bt := 4) (G := GG) laidOut (by rw [Tryd.params4]) (by kernel_rfl) Tryd.underlying4 (by kernel_rfl) rfl ?_ compositeRoundTrip_all hval hW hsz (gok hL)
  intro ds h
  match ds, h with
  | [_], _ => rfl
theorem compositeRoundTrip_over : Rows.compositeRoundTripRow.holds Tryd.pinned (OpenSpec.ofChange Rows.compositeRoundTripSpec) :=
  OpenClaim.holds_of_wide 4 Tryd.f4 rfl rfl rfl rfl rfl rfl rfl ⟨rfl, rfl, rfl, rfl, rfl⟩ rfl rfl rfl rfl rfl (by kernel_rfl) Tryd.func4 (by kernel_rfl)
    (of_decide_eq_true (by kernel_rfl)) (by unfold Func.isWrapper; first | (rw [if_pos (by decide +kernel)]; kernel_rfl) | (rw [if_neg (by decide +kernel)]; exact ⟨rfl, rfl⟩))
    (fun os started H enc _ => compositeRoundTrip_lifted os started H enc)
theorem compositeRoundTrip_plain : ∀ t ∈ [22], Tryd.prog.wantsStandIn t = false := by
  intro t ht
  simp only [List.mem_cons, List.not_mem_nil, or_false] at ht
  rcases ht with rfl <;> kernel_rfl
theorem compositeRoundTrip_proved : Rows.CompositeRoundTripCardSaid :=
  Claim7.holds_tied_plain_at .later [] [.data] true (true, "0e52a8286e7c94b2c9a14399cff66ddebaac7128c5ef4013cc4fad5231b30964") false
    compositeRoundTrip_over (fun _ h => by cases h) (by kernel_rfl) (fun _ h => by cases h) compositeRoundTrip_row_tie rfl ⟨rfl, rfl⟩ (by kernel_rfl) rfl
    (fun f fn hf hfn => by
      obtain rfl : f = 4 := Option.some.inj ((show Tryd.prog.funcNamed Rows.compositeRoundTripRow.func = some 4 by kernel_rfl).symm.trans hf) |>.symm
      obtain rfl : fn = Tryd.f4 := (Option.some.inj (Tryd.func4.symm.trans hfn)).symm
      exact ⟨by kernel_rfl, fun j t ht => compositeRoundTrip_plain t (by
        rw [Tryd.params4] at ht
        exact List.mem_of_getElem? (by simpa using ht))⟩)
    (by kernel_rfl)
#print axioms compositeRoundTrip_proved
end Go.Proofs.YtoommeeolmfepaaDoor
