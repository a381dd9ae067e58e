/- The law FoldValid of chapter 21 holds, its card tied: for every input the call returns true and each argument reads behind the call as it read before. No condition but that the listed variable reads as the program's text lays it. -/
import Derived.Test.YtnpemjhllmfedaaDoorLay
import Derived.Test.YtnpemjhllmfedaaDoorFold
namespace Go.Proofs.YtnpemjhllmfedaaDoor
open Go Go.Sx Go.ChangeShapes Go.WideShapes Go.ChangeAt Go.WideMaps Go.WideElems Go.RowKit
set_option linter.unusedVariables false
set_option linter.unusedSimpArgs false
set_option maxRecDepth 100000
/-! FoldValid -/
theorem validp_spec (c n s l h : Int) (f la : List UInt8) : Sx.Spec Tryd.prog GG 16 [foldA c n s l h f la] [] (.d (.bool (validF ⟨c, n, s, l, h, f, la⟩))) [] := by
  refine spec_intro (E := EE) (fn := Tryd.f16) eok (by kernel_rfl) (by kernel_rfl) Tryd.call16 (by kernel_rfl) (by kernel_rfl) ?_
  conv => whnf
  repeat' first
    | (refine call_intro (validKeyp_spec _) ?_ (by first | exact .inl rfl | exact .inr ⟨rfl, rfl⟩); (conv => whnf))
    | (refine bc_true (by assumption) ?_; (conv => whnf))
    | (refine bc_false (by assumption) ?_; (conv => whnf))
    | (refine bc_intro (fun _ => ?_) (fun _ => ?_) <;> (conv => whnf))
    | (refine need_intro ?_ ?_; (conv => whnf))
    | (refine wk_refl ?_; (conv => whnf))
    | (refine draw_intro (by kernel_rfl) ?_; (conv => whnf))
    | (refine ord_intro (by kernel_rfl) ?_; (conv => whnf))
  all_goals try simp only [decide_eq_true_eq, decide_eq_false_iff_not, beq_iff_eq, beq_eq_false_iff_ne, bne_iff_ne, bne_eq_false_iff_eq, bl_leq, ne_eq] at *
  all_goals try simp only [gt_iff_lt] at *
  all_goals first
    | (refine ⟨LeS.of_eq ?_, trivial⟩
       simp only [validF, *, eq_self, List.length_nil, gt_iff_lt, Int.natCast_zero, Int.cast_ofNat_Int, and_self, true_and, and_true, true_or, or_true, or_false, false_or, and_false, false_and, if_true, if_false, not_true_eq_false, not_false_eq_true, reduceIte, reduceCtorEq, Bool.false_eq_true, Int.reduceEq, Int.reduceLT, Int.reduceLE, Int.reduceGT, Int.reduceGE, beq_self_eq_true, Bool.true_and, Bool.false_and, decide_true, decide_false, ne_eq, Bool.not_true, Bool.not_false, bl_irrefl]; done)
    | (refine ⟨LeS.of_eq ?_, trivial⟩
       have e1 : (f == []) = false := by simp [*]
       simp only [validF, *, eq_self, List.length_nil, gt_iff_lt, Int.natCast_zero, Int.cast_ofNat_Int, and_self, true_and, and_true, true_or, or_true, or_false, false_or, and_false, false_and, if_true, if_false, not_true_eq_false, not_false_eq_true, reduceIte, reduceCtorEq, Bool.false_eq_true, Int.reduceEq, Int.reduceLT, Int.reduceLE, Int.reduceGT, Int.reduceGE, beq_self_eq_true, Bool.true_and, Bool.false_and, decide_true, decide_false, ne_eq, Bool.not_true, Bool.not_false]; done)
    | (exfalso; omega)
    | trace_state
theorem validr_spec (c n s l h : Int) (f la : List UInt8) : Sx.Spec Tryd.prog GG 17 [foldA c n s l h f la] [] (.d (.bool (validF ⟨c, n, s, l, h, f, la⟩))) [] := by
  refine spec_intro (E := EE) (fn := Tryd.f17) eok (by kernel_rfl) (by kernel_rfl) Tryd.call17 (by kernel_rfl) (by kernel_rfl) ?_
  conv => whnf
  repeat' first
    | (refine call_intro (validKeyr_spec _) ?_ (by first | exact .inl rfl | exact .inr ⟨rfl, rfl⟩); (conv => whnf))
    | (refine bc_true (by assumption) ?_; (conv => whnf))
    | (refine bc_false (by assumption) ?_; (conv => whnf))
    | (refine bc_intro (fun _ => ?_) (fun _ => ?_) <;> (conv => whnf))
    | (refine need_intro ?_ ?_; (conv => whnf))
    | (refine wk_refl ?_; (conv => whnf))
    | (refine draw_intro (by kernel_rfl) ?_; (conv => whnf))
    | (refine ord_intro (by kernel_rfl) ?_; (conv => whnf))
  all_goals try simp only [decide_eq_true_eq, decide_eq_false_iff_not, beq_iff_eq, beq_eq_false_iff_ne, bne_iff_ne, bne_eq_false_iff_eq, bl_leq, ne_eq] at *
  all_goals try simp only [gt_iff_lt] at *
  all_goals first
    | (refine ⟨LeS.of_eq ?_, trivial⟩
       simp only [validF, *, eq_self, List.length_nil, gt_iff_lt, Int.natCast_zero, Int.cast_ofNat_Int, and_self, true_and, and_true, true_or, or_true, or_false, false_or, and_false, false_and, if_true, if_false, not_true_eq_false, not_false_eq_true, reduceIte, reduceCtorEq, Bool.false_eq_true, Int.reduceEq, Int.reduceLT, Int.reduceLE, Int.reduceGT, Int.reduceGE, beq_self_eq_true, Bool.true_and, Bool.false_and, decide_true, decide_false, ne_eq, Bool.not_true, Bool.not_false, bl_irrefl]; done)
    | (refine ⟨LeS.of_eq ?_, trivial⟩
       have e1 : (f == []) = false := by simp [*]
       simp only [validF, *, eq_self, List.length_nil, gt_iff_lt, Int.natCast_zero, Int.cast_ofNat_Int, and_self, true_and, and_true, true_or, or_true, or_false, false_or, and_false, false_and, if_true, if_false, not_true_eq_false, not_false_eq_true, reduceIte, reduceCtorEq, Bool.false_eq_true, Int.reduceEq, Int.reduceLT, Int.reduceLE, Int.reduceGT, Int.reduceGE, beq_self_eq_true, Bool.true_and, Bool.false_and, decide_true, decide_false, ne_eq, Bool.not_true, Bool.not_false]; done)
    | (exfalso; omega)
    | trace_state
theorem foldValid_law (c n s lo h : Int) (f la : List UInt8) (l : List Int) (hl : ∀ x ∈ l, -9223372036854775808 ≤ x ∧ x < 9223372036854775808) : Sx.Spec Tryd.prog GG 4 [foldA c n s lo h f la, .d (encL encI 1 l)] [] (.d (.bool true)) [] := by
  refine spec_intro (E := EE) (fn := Tryd.f4) eok (by kernel_rfl) (by kernel_rfl) Tryd.call4 (by kernel_rfl) (by kernel_rfl) ?_
  conv => whnf
  repeat' first
    | (refine call_intro (awake_spec) ?_ (by first | exact .inl rfl | exact .inr ⟨rfl, rfl⟩); (conv => whnf))
    | (refine call_some (new_ex 2000 hl) (fun _ => by first | exact .inl rfl | exact .inr ⟨rfl, rfl⟩) ?_; rintro ⟨tl, ta⟩ hT; (conv => whnf))
    | (refine call_some_if (rows_ex _) (fun _ => by first | exact .inl rfl | exact .inr ⟨rfl, rfl⟩) (need_intro ?_ ?_); rintro ⟨x, b⟩ ⟨⟨h1, h2⟩, h3⟩; (conv => whnf))
    | (refine call_if (of_spec _) (by first | exact .inl rfl | exact .inr ⟨rfl, rfl⟩) (need_intro ?_ ?_); (conv => whnf))
    | (refine call_some_if (next_ex _) (fun _ => by first | exact .inl rfl | exact .inr ⟨rfl, rfl⟩) (need_intro ?_ ?_); rintro ⟨v, b⟩ ⟨⟨h4, h5⟩, h6⟩; (conv => whnf))
    | (refine call_some_if (oddKey_ex _) (fun _ => by first | exact .inl rfl | exact .inr ⟨rfl, rfl⟩) (need_intro ?_ ?_); rintro ⟨k, b⟩ ⟨h4, h6⟩; (conv => whnf))
    | (refine call_some_if (pick_ex _ [1000000000000, 1000000000001, 0] (.all (by repeat' first | exact trivial | exact rfl | apply And.intro))) (fun _ => by first | exact .inl rfl | exact .inr ⟨rfl, rfl⟩) (need_intro ?_ ?_); rintro ⟨v, b⟩ ⟨h4, h6⟩; (conv => whnf))
    | (refine call_intro (validp_spec _ _ _ _ _ _ _) ?_ (by first | exact .inl rfl | exact .inr ⟨rfl, rfl⟩); (conv => whnf))
    | (refine call_intro (validr_spec _ _ _ _ _ _ _) ?_ (by first | exact .inl rfl | exact .inr ⟨rfl, rfl⟩); (conv => whnf))
    | (refine call_intro (validTr_spec _) ?_ (by first | exact .inl rfl | exact .inr ⟨rfl, rfl⟩); (conv => whnf))
    | (refine bc_true (by assumption) ?_; (conv => whnf))
    | (refine bc_false (by assumption) ?_; (conv => whnf))
    | (refine bc_intro (fun _ => ?_) (fun _ => ?_) <;> (conv => whnf))
    | (refine need_intro ?_ ?_; (conv => whnf))
    | (refine wk_refl ?_; (conv => whnf))
    | (refine draw_intro (by kernel_rfl) ?_; (conv => whnf))
    | (refine ord_intro (by kernel_rfl) ?_; (conv => whnf))
  all_goals try simp only [decide_eq_true_eq, decide_eq_false_iff_not] at *
  all_goals first
    | omega
    | exact ⟨LeS.refl _, trivial⟩
    | (exfalso; simp at *; done)
    | exact ⟨by assumption, by omega, by omega⟩
    | exact ⟨by simp, by assumption, by simp, by simp⟩
    | assumption
    | (exfalso
       have e1 := validT_iff.2 h1
       have e2 := of_valid h1 (by omega)
       simp_all; done)
    | trace_state
theorem foldValid_all (dss : List (List D)) (h : All2 (wfT Tryd.prog reachBytes 12) [30, 22] dss) : Sx.Spec Tryd.prog GG 4 (svs Tryd.prog [30, 22] dss) [] (.d (.bool true)) [] := by
  obtain ⟨x, y, rfl, hx, hy⟩ := inv2 h
  obtain ⟨_, _, rfl, ⟨c, rfl, _⟩, _, _, rfl, ⟨n, rfl, _⟩, _, _, rfl, ⟨s, rfl, _⟩, _, _, rfl, ⟨lo, rfl, _⟩, _, _, rfl, ⟨hi, rfl, _⟩, _, _, rfl, ⟨f, rfl, _⟩, _, _, rfl, ⟨la, rfl, _⟩, rfl⟩ := hx
  obtain ⟨l, h1, h2, h3⟩ := ints_arg hy
  obtain ⟨_, _, rfl, _⟩ := hy
  exact (foldValid_law c n s lo hi f la l h1).arg (LeL.cons (LeS.refl _) h2)
theorem foldValid_lifted (os : Os) (started : os.Started) (H : Type) (enc : TypeId × Value → H) :
    ReturnsInHanded {} Tryd.checked os 4 .any (fun w args => (Rows.foldValidSpec.pre enc Tryd.prog Tryd.f4 [] false w args ∧ laidMetH Tryd.prog laidL w) ∧ sizedMet enc Tryd.prog Tryd.f4 (OpenSpec.ofChange Rows.foldValidSpec) false w args)
      (Rows.foldValidSpec.post enc Tryd.prog Tryd.f4 false true false false) := by
  refine returnsInHanded_of_change_and (C := Tryd.checked) (X := fun w _ => laidMetH Tryd.prog laidL w) (fun _ _ _ hh h => h.of_heap hh) own started (by kernel_rfl) Tryd.func4
    (ChangeSpec.witness_shaped (enc := enc) (C := Tryd.checked) (os := os) (X := fun w _ => laidMetH Tryd.prog laidL w) false (World.doorLaid Tryd.prog 400 os) #[.agg #[.int .i64 0, .int .i64 0, .int .i64 0, .int .i64 0, .int .i64 0, .string ⟨#[]⟩, .string ⟨#[]⟩], .slice none 0 0] 8 rfl (World.shaped_of_RefB (by kernel_rfl) (by kernel_rfl)) (by kernel_rfl) (by kernel_rfl) (by kernel_rfl) (door_met os _)) ?_
  intro W base args ds gs before hval hW hcnd hsz hL _
  refine law_contract (P := Tryd.prog) (ts := [30, 22]) (bt := 4) (G := GG) laidOut (by rw [Tryd.params4]) (by kernel_rfl) Tryd.underlying4 (by kernel_rfl) rfl ?_ foldValid_all hval hW hsz (gok hL)
  intro ds h
  match ds, h with
  | [_, _], _ => rfl
theorem foldValid_over : Rows.foldValidRow.holds Tryd.pinned (OpenSpec.ofChange Rows.foldValidSpec) :=
  OpenClaim.holds_of_wide 4 Tryd.f4 rfl rfl rfl rfl rfl rfl rfl ⟨rfl, rfl, rfl, rfl, rfl⟩ rfl rfl rfl rfl rfl (by kernel_rfl) Tryd.func4 (by kernel_rfl)
    (of_decide_eq_true (by kernel_rfl)) (by unfold Func.isWrapper; first | (rw [if_pos (by decide +kernel)]; kernel_rfl) | (rw [if_neg (by decide +kernel)]; exact ⟨rfl, rfl⟩))
    (fun os started H enc _ => foldValid_lifted os started H enc)
theorem foldValid_plain : ∀ t ∈ [30, 22], Tryd.prog.wantsStandIn t = false := by
  intro t ht
  simp only [List.mem_cons, List.not_mem_nil, or_false] at ht
  rcases ht with rfl | rfl <;> kernel_rfl
theorem foldValid_proved : Rows.FoldValidCardSaid :=
  Claim7.holds_tied_plain_at .later [] [.data] true (true, "dddf54568fe74be658ed6077bea82da1adb5b8bb0a88a9339d462c5810c9159a") false
    foldValid_over (fun _ h => by cases h) (by kernel_rfl) (fun _ h => by cases h) foldValid_row_tie rfl ⟨rfl, rfl⟩ (by kernel_rfl) rfl
    (fun f fn hf hfn => by
      obtain rfl : f = 4 := Option.some.inj ((show Tryd.prog.funcNamed Rows.foldValidRow.func = some 4 by kernel_rfl).symm.trans hf) |>.symm
      obtain rfl : fn = Tryd.f4 := (Option.some.inj (Tryd.func4.symm.trans hfn)).symm
      exact ⟨by kernel_rfl, fun j t ht => foldValid_plain t (by
        rw [Tryd.params4] at ht
        exact List.mem_of_getElem? (by simpa using ht))⟩)
    (by kernel_rfl)
#print axioms foldValid_proved

