/- The law FoldMonoid of chapter 21 holds, its card tied: for every input the call returns true and each argument reads behind the call as it read before. No condition but that the listed variable reads as the program's text lays it. -/
import Derived.Test.YtnpemjhllmfedaaDoorLay
import Derived.Test.YtnpemjhllmfedaaDoorFold
namespace Go.Proofs.YtnpemjhllmfedaaDoor
open Go Go.Sx Go.ChangeShapes Go.WideShapes Go.ChangeAt Go.WideMaps Go.WideElems Go.RowKit
set_option linter.unusedVariables false
set_option linter.unusedSimpArgs false
set_option maxRecDepth 100000
/-! FoldValid -/
/-! FoldMonoid -/
theorem of_row (xs : List Row) {n : Nat} {g : Nat → Nat → D} : (n = xs.length ∧ RowLe n 2 g (cellOf encRow xs) ∧ n ≤ 9000000) → Sx.Spec Tryd.prog GG 11 [.d (.list n 2 g)] [] (encFold (foldOf xs)) [] := by
  rintro ⟨rfl, hg, hn⟩
  exact (of_spec xs (by omega)).arg (LeL.cons (LeS.d (DLe.rows rfl hg)) LeL.nil)
theorem join_of (a b : List Row) : a.length + b.length < 4000000 → Sx.Spec Tryd.prog GG 19 [encFold (foldOf a), encFold (foldOf b)] [] (encFold (foldOf (a ++ b))) [] := fun h => by
  rw [foldOf_append h]
  exact joinp_spec _ _
theorem join_z1 (a : List Row) : a.length < 4000000 → Sx.Spec Tryd.prog GG 19 [encFold (foldOf a), foldA 0 0 0 0 0 [] []] [] (encFold (foldOf a)) [] := fun h => by
  have := join_of a [] (by simpa using h)
  rwa [List.append_nil] at this
theorem join_z2 (a : List Row) : a.length < 4000000 → Sx.Spec Tryd.prog GG 19 [foldA 0 0 0 0 0 [] [], encFold (foldOf a)] [] (encFold (foldOf a)) [] := fun h => join_of [] a (by simpa using h)
theorem all3 (x y z : List Row) {g : Nat → Nat → D} : (x.length + y.length + z.length < 4000000 ∧ RowLe 3 7 g (cellOf encFoldD [foldOf x, foldOf y, foldOf z])) → Sx.Spec Tryd.prog GG 20 [.d (.list 3 7 g)] [] (encFold (foldOf (x ++ y ++ z))) [] := by
  rintro ⟨h, hg⟩
  rw [foldOf_append (by simp; omega), foldOf_append (by omega)]
  exact (allp_spec [foldOf x, foldOf y, foldOf z] (by simp)).arg (LeL.cons (LeS.d (DLe.rows rfl hg)) LeL.nil)
theorem foldMonoid_law (l : List Int) (hl : ∀ x ∈ l, -9223372036854775808 ≤ x ∧ x < 9223372036854775808) : Sx.Spec Tryd.prog GG 5 [.d (encL encI 1 l)] [] (.d (.bool true)) [] := by
  refine spec_intro (E := EE) (fn := Tryd.f5) eok (by kernel_rfl) (by kernel_rfl) Tryd.call5 (by kernel_rfl) (by kernel_rfl) ?_
  conv => whnf
  repeat' first
    | (refine call_intro (awake_spec) ?_ (by first | exact .inl rfl | exact .inr ⟨rfl, rfl⟩); (conv => whnf))
    | (refine call_some (new_ex 2000 hl) (fun _ => by first | exact .inl rfl | exact .inr ⟨rfl, rfl⟩) ?_; rintro ⟨tl, ta⟩ hT; (conv => whnf))
    | (refine call_some_if (rows_ex _) (fun _ => by first | exact .inl rfl | exact .inr ⟨rfl, rfl⟩) (need_intro ?_ ?_); rintro ⟨x, b⟩ ⟨⟨h1, h2⟩, h3⟩; (conv => whnf))
    | (refine call_if (join_of _ _) (by first | exact .inl rfl | exact .inr ⟨rfl, rfl⟩) (need_intro ?_ ?_); (conv => whnf))
    | (refine call_if (join_z1 _) (by first | exact .inl rfl | exact .inr ⟨rfl, rfl⟩) (need_intro ?_ ?_); (conv => whnf))
    | (refine call_if (join_z2 _) (by first | exact .inl rfl | exact .inr ⟨rfl, rfl⟩) (need_intro ?_ ?_); (conv => whnf))
    | (refine call_if (of_spec _) (by first | exact .inl rfl | exact .inr ⟨rfl, rfl⟩) (need_intro ?_ ?_); (conv => whnf))
    | (refine bc_true (by assumption) ?_; (conv => whnf))
    | (refine bc_false (by assumption) ?_; (conv => whnf))
    | (refine bc_intro (fun _ => ?_) (fun _ => ?_) <;> (conv => whnf))
    | (refine need_intro ?_ ?_; (conv => whnf))
    | (refine wk_refl ?_; (conv => whnf))
    | (refine draw_intro (by kernel_rfl) ?_; (conv => whnf))
    | (refine ord_intro (by kernel_rfl) ?_; (conv => whnf))
  all_goals try simp only [decide_eq_true_eq, decide_eq_false_iff_not, cellsRow, bytesRow] at *
  all_goals first
    | omega
    | exact ⟨LeS.refl _, trivial⟩
    | (exfalso; simp [List.append_assoc] at *; done)
    | exact ⟨by assumption, by omega, by omega⟩
    | exact ⟨trivial, by omega, by omega⟩
    | exact ⟨by omega, by omega⟩
    | (simp only [List.length_append]; omega)
    | skip
  rename_i u b1 g1 g2 g3 v b2 g4 g5 g6 q1 q2
  clear q1 q2
  refine call_if (of_row (u ++ v ++ x)) (.inr ⟨rfl, rfl⟩) (need_intro ?_ ?_)
  · conv => whnf
    repeat' first
      | (refine call_if (all3 u v x) (by first | exact .inl rfl | exact .inr ⟨rfl, rfl⟩) (need_intro ?_ ?_); (conv => whnf))
      | (refine call_intro (awake_spec) ?_ (by first | exact .inl rfl | exact .inr ⟨rfl, rfl⟩); (conv => whnf))
      | (refine bc_true (by assumption) ?_; (conv => whnf))
      | (refine bc_false (by assumption) ?_; (conv => whnf))
      | (refine bc_intro (fun _ => ?_) (fun _ => ?_) <;> (conv => whnf))
      | (refine need_intro ?_ ?_; (conv => whnf))
      | (refine wk_refl ?_; (conv => whnf))
      | (refine draw_intro (by kernel_rfl) ?_; (conv => whnf))
      | (refine ord_intro (by kernel_rfl) ?_; (conv => whnf))
    all_goals first
      | omega
      | exact ⟨LeS.refl _, trivial⟩
      | exact ⟨by omega, .all (by repeat' first | exact trivial | exact rfl | apply And.intro)⟩
      | (exfalso; simp at *; done)
      | trace_state
  · refine ⟨by simp only [List.length_append], ⟨fun i j hi hj => ?_⟩, by omega⟩
    have := (row_append (enc := encRow) (k := 2) (xs := u ++ v) (ys := x) (by simp only [List.length_append]) (row_append (enc := encRow) (k := 2) (xs := u) (ys := v) rfl (RowLe.refl _ _ _) (RowLe.refl _ _ _)) (RowLe.refl _ _ _)).le i j hi hj
    simpa only [Nat.zero_add] using this
theorem foldMonoid_all (dss : List (List D)) (h : All2 (wfT Tryd.prog reachBytes 12) [22] dss) : Sx.Spec Tryd.prog GG 5 (svs Tryd.prog [22] dss) [] (.d (.bool true)) [] := by
  obtain ⟨y, rfl, hy⟩ := inv1 h
  obtain ⟨l, h1, h2, h3⟩ := ints_arg hy
  obtain ⟨_, _, rfl, _⟩ := hy
  exact (foldMonoid_law l h1).arg h2

theorem foldMonoid_lifted (os : Os) (started : os.Started) (H : Type) (enc : TypeId × Value → H) :
    ReturnsInHanded {} Tryd.checked os 5 .any (fun w args => (Rows.foldMonoidSpec.pre enc Tryd.prog Tryd.f5 [] false w args ∧ laidMetH Tryd.prog laidL w) ∧ sizedMet enc Tryd.prog Tryd.f5 (OpenSpec.ofChange Rows.foldMonoidSpec) false w args)
      (Rows.foldMonoidSpec.post enc Tryd.prog Tryd.f5 false true false false) := by
  refine returnsInHanded_of_change_and (C := Tryd.checked) (X := fun w _ => laidMetH Tryd.prog laidL w) (fun _ _ _ hh h => h.of_heap hh) own started (by kernel_rfl) Tryd.func5
    (ChangeSpec.witness_shaped (enc := enc) (C := Tryd.checked) (os := os) (X := fun w _ => laidMetH Tryd.prog laidL w) false (World.doorLaid Tryd.prog 400 os) #[.slice none 0 0] 8 rfl (World.shaped_of_RefB (by kernel_rfl) (by kernel_rfl)) (by kernel_rfl) (by kernel_rfl) (by kernel_rfl) (door_met os _)) ?_
  intro W base args ds gs before hval hW hcnd hsz hL _
  refine law_contract (P := Tryd.prog) (ts := [22]) (bt := 4) (G := GG) laidOut (by rw [Tryd.params5]) (by kernel_rfl) Tryd.underlying4 (by kernel_rfl) rfl ?_ foldMonoid_all hval hW hsz (gok hL)
  intro ds h
  match ds, h with
  | [_], _ => rfl
theorem foldMonoid_over : Rows.foldMonoidRow.holds Tryd.pinned (OpenSpec.ofChange Rows.foldMonoidSpec) :=
  OpenClaim.holds_of_wide 5 Tryd.f5 rfl rfl rfl rfl rfl rfl rfl ⟨rfl, rfl, rfl, rfl, rfl⟩ rfl rfl rfl rfl rfl (by kernel_rfl) Tryd.func5 (by kernel_rfl)
    (of_decide_eq_true (by kernel_rfl)) (by unfold Func.isWrapper; first | (rw [if_pos (by decide +kernel)]; kernel_rfl) | (rw [if_neg (by decide +kernel)]; exact ⟨rfl, rfl⟩))
    (fun os started H enc _ => foldMonoid_lifted os started H enc)
theorem foldMonoid_plain : ∀ t ∈ [22], Tryd.prog.wantsStandIn t = false := by
  intro t ht
  simp only [List.mem_cons, List.not_mem_nil, or_false] at ht
  rcases ht with rfl <;> kernel_rfl
theorem foldMonoid_proved : Rows.FoldMonoidCardSaid :=
  Claim7.holds_tied_plain_at .later [] [.data] true (true, "dddf54568fe74be658ed6077bea82da1adb5b8bb0a88a9339d462c5810c9159a") false
    foldMonoid_over (fun _ h => by cases h) (by kernel_rfl) (fun _ h => by cases h) foldMonoid_row_tie rfl ⟨rfl, rfl⟩ (by kernel_rfl) rfl
    (fun f fn hf hfn => by
      obtain rfl : f = 5 := Option.some.inj ((show Tryd.prog.funcNamed Rows.foldMonoidRow.func = some 5 by kernel_rfl).symm.trans hf) |>.symm
      obtain rfl : fn = Tryd.f5 := (Option.some.inj (Tryd.func5.symm.trans hfn)).symm
      exact ⟨by kernel_rfl, fun j t ht => foldMonoid_plain t (by
        rw [Tryd.params5] at ht
        exact List.mem_of_getElem? (by simpa using ht))⟩)
    (by kernel_rfl)
#print axioms foldMonoid_proved

