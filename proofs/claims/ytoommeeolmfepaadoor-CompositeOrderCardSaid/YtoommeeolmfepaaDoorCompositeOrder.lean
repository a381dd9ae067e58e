/- The law CompositeOrder: the walk through its code and the claim. -/
import Derived.Test.YtoommeeolmfepaaDoorKLay
import Derived.Test.YtoommeeolmfepaaDoorK14
import Derived.Test.YtoommeeolmfepaaDoorSxCmp
namespace Go.Proofs.YtoommeeolmfepaaDoor
open Go Go.Sx Go.ChangeShapes Go.WideShapes Go.ChangeAt Go.WideMaps Go.WideElems Go.RowKit
set_option linter.unusedVariables false
set_option linter.unusedSimpArgs false
set_option maxRecDepth 100000
theorem FitsB.cut {s : List Col} {a b : List Fld} {m : Nat} (ha : FitsB s a) (hb : FitsB s b) (h : m ≤ a.length) : FitsB s (a.take m ++ b.drop m) where
  fit := by
    intro j hj
    have hl : (a.take m).length = m := by rw [List.length_take]; omega
    by_cases e : j < m
    · rw [getD_append_left (by omega)]
      have : (a.take m).getD j default = a.getD j default := by simp [List.getD, List.getElem?_take, e]
      rw [this]; exact ha.fit j (by omega)
    · rw [getD_append_right (by omega), hl]
      have : (b.drop m).getD (j - m) default = b.getD j default := by
        simp only [List.getD, List.getElem?_drop]
        congr 2; omega
      rw [this]
      refine hb.fit j ?_
      simp only [List.length_append, hl, List.length_drop] at hj
      omega
  num := by
    intro f hf
    rcases List.mem_append.1 hf with hf | hf
    · exact ha.num f (List.mem_of_mem_take hf)
    · exact hb.num f (List.mem_of_mem_drop hf)
theorem FitsB.cat {s : List Col} {a b : List Fld} {m : Nat} (ha : FitsB s a) (hb : FitsB s b) (h : m = min a.length b.length) : FitsB s (a ++ b.drop m) := by
  rcases Nat.lt_or_ge b.length a.length with h1 | h1
  · have : b.drop m = [] := List.drop_of_length_le (by omega)
    rw [this, List.append_nil]; exact ha
  · have hc := ha.cut hb (m := m) (by omega)
    rwa [show a.take m = a from List.take_of_length_le (by omega)] at hc
theorem encp_lit (s : List Col) {n K : Nat} {g : Nat → Nat → D} (l : List Fld) (hd : DLe (.list n K g) (encL encFld 3 l)) : (s.length ≤ 1000 ∧ l.length ≤ 1000 ∧ ∀ f ∈ l, FldB f) → Sx.Spec Tryd.prog GG 21 [.d (encL encCol 2 s), .d (.list n K g)] [] (.tup [.d (.str (encodeS s l).1), .d (.int .i64 (encodeS s l).2)]) [] := fun h =>
  (encp_spec s l h).arg (LeL.cons (LeS.refl _) (LeL.cons (LeS.d hd) LeL.nil))
theorem comparep_lit1 (s : List Col) {n K : Nat} {g : Nat → Nat → D} (a b : List Fld) (hd : DLe (.list n K g) (encL encFld 3 a)) : (s.length ≤ 1000 ∧ a.length ≤ 1000 ∧ b.length ≤ 1000) → Sx.Spec Tryd.prog GG 31 [.d (encL encCol 2 s), .d (.list n K g), .d (encL encFld 3 b)] [] (.d (.int .i64 (compareL s a b))) [] := fun h =>
  (comparep_spec2 s a b h).arg (LeL.cons (LeS.refl _) (LeL.cons (LeS.d hd) (LeL.cons (LeS.refl _) LeL.nil)))
theorem comparep_lit2 (s : List Col) {n K : Nat} {g : Nat → Nat → D} (a b : List Fld) (hd : DLe (.list n K g) (encL encFld 3 b)) : (s.length ≤ 1000 ∧ a.length ≤ 1000 ∧ b.length ≤ 1000) → Sx.Spec Tryd.prog GG 31 [.d (encL encCol 2 s), .d (encL encFld 3 a), .d (.list n K g)] [] (.d (.int .i64 (compareL s a b))) [] := fun h =>
  (comparep_spec2 s a b h).arg (LeL.cons (LeS.refl _) (LeL.cons (LeS.refl _) (LeL.cons (LeS.d hd) LeL.nil)))
theorem dle_cat {T : Nat → Nat → D} (fa fs : List Fld) {M : Int} {K : Nat} (hK : K = 3) (h0 : 0 ≤ M) (hM : M ≤ fs.length) : DLe (.list (0 + fa.length + (none.getD (fs.length : Int) - (some M).getD 0).toNat) K (fun i j =>
    if 0 + i < 0 + fa.length then (if 0 + i < 0 then T (0 + i) j else cellOf encFld fa (0 + i - 0) j) else cellOf encFld fs (((some M).getD 0).toNat + (0 + i - (0 + fa.length))) j)) (encL encFld 3 (fa ++ fs.drop M.toNat)) := by
  subst hK
  simp only [Option.getD]
  refine DLe.rows (by simp only [List.length_append, List.length_drop]; omega) (.of_eq fun i j _ _ => ?_)
  by_cases e : i < fa.length
  · rw [if_pos (by omega), if_neg (by omega)]
    simp only [cellOf]
    rw [getD_append_left e, show 0 + i - 0 = i by omega]
  · rw [if_neg (by omega)]
    simp only [cellOf]
    rw [getD_append_right e, show 0 + i - (0 + fa.length) = i - fa.length by omega]
    simp only [List.getD, List.getElem?_drop]
abbrev minI (a b : Nat) : Int := if (b : Int) < a then (b : Int) else a
theorem w01 : IntKind.i64.wrap (0 - -1) = 1 := by decide
theorem w02 : IntKind.i64.wrap (0 - 1) = -1 := by decide
theorem w03 : IntKind.i64.wrap (0 - 0) = 0 := by decide
theorem cmpT_lt {x y : List UInt8} (h : Op.bytesLess x y = true) : cmpT x y = -1 := by simp [cmpT, h]
theorem cmpT_gt {x y : List UInt8} (h : Op.bytesLess x y = false) (h2 : Op.bytesLess y x = true) : cmpT x y = 1 := by simp [cmpT, h, h2]
theorem cmpT_eq {x y : List UInt8} (h : Op.bytesLess x y = false) (h2 : Op.bytesLess y x = false) : cmpT x y = 0 := by simp [cmpT, h, h2]
theorem minI_ok (a b : Nat) : 0 ≤ minI a b ∧ minI a b ≤ b ∧ (minI a b).toNat = min a b := by
  unfold minI
  split
  · exact ⟨by omega, by omega, by omega⟩
  · exact ⟨by omega, by omega, by omega⟩
set_option maxHeartbeats 4000000 in
theorem compositeOrder_law (l : List Int) (hl : ∀ x ∈ l, -9223372036854775808 ≤ x ∧ x < 9223372036854775808) : Sx.Spec Tryd.prog GG 7 [.d (encL encI 1 l)] [] (.d (.bool true)) [] := by
  refine spec_intro (E := EL) (fn := Tryd.f7) eokL (by kernel_rfl) (by kernel_rfl) Tryd.call7 (by kernel_rfl) (by kernel_rfl) ?_
  conv => whnf
  repeat' first
    | (refine call_some (new_ex 2000 hl) (fun _ => by first | exact .inl rfl | exact .inr ⟨rfl, rfl⟩) ?_; rintro ⟨tl, ta⟩ hT; (conv => whnf))
    | (refine call_some_if (schema_ex 2000) (fun _ => by first | exact .inl rfl | exact .inr ⟨rfl, rfl⟩) (need_intro ?_ ?_); rintro ⟨s, b⟩ ⟨g1, g2⟩; (conv => whnf))
    | (refine call_some_if (next_ex 2000) (fun _ => by first | exact .inl rfl | exact .inr ⟨rfl, rfl⟩) (need_intro ?_ ?_); rintro ⟨v, b⟩ ⟨⟨h1, h2⟩, h3⟩; (conv => whnf))
    | (refine call_some_if (fields_ex 2000) (fun _ => by first | exact .inl rfl | exact .inr ⟨rfl, rfl⟩) (need_intro ?_ ?_); rintro ⟨fs, b⟩ ⟨⟨g3, g4⟩, g5⟩; (conv => whnf))
    | (refine call_some_if (bool_ex 2000) (fun _ => by first | exact .inl rfl | exact .inr ⟨rfl, rfl⟩) (need_intro ?_ ?_); rintro ⟨w, b⟩ h4; (conv => whnf))
    | (refine bc_true (by assumption) ?_; (conv => whnf))
    | (refine bc_false (by assumption) ?_; (conv => whnf))
    | (refine need_intro ?_ ?_; (conv => whnf))
    | (refine wk_refl ?_; (conv => whnf))
    | (refine draw_intro (by kernel_rfl) ?_; (conv => whnf))
    | (refine ord_intro (by kernel_rfl) ?_; (conv => whnf))
  · rename_i b1 v1 b2 k3 k1 k2 fa b3 ga5 ga3 ga4 b4 b5
    simp only at g1 g2 g3 g4 g5 ga3 ga4 hT h1 h2 h3 h4 k1 k2 k3
    have hsl := g1.len
    have hw : IntKind.i64.wrap ((s.length : Int) + 1) = (s.length : Int) + 1 := wrap_of (by omega) (by omega)
    rw [hw] at h2 k2
    simp only
    cases w with
    | true =>
      have hm : 0 ≤ minI fa.length fs.length ∧ minI fa.length fs.length ≤ fs.length ∧ (minI fa.length fs.length).toNat = min fa.length fs.length := minI_ok _ _
      have hcat := dle_cat (T := tabF (fun x j => [D.int IntKind.i64 0, D.int IntKind.i64 0, D.str []].getD j default) []) fa fs (M := minI fa.length fs.length) cellsF hm.1 hm.2.1
      obtain ⟨fc, hfc⟩ : ∃ fc, fa ++ fs.drop (minI fa.length fs.length).toNat = fc := ⟨_, rfl⟩
      have hcf : FitsB s fc := by rw [← hfc]; exact ga4.cat g4 hm.2.2
      have hcl : fc.length ≤ s.length := by rw [← hfc, List.length_append, List.length_drop, hm.2.2]; omega
      rw [hfc] at hcat
      have q1 := ga4.fits g1.valid (by omega)
      have q2 := hcf.fits g1.valid (by omega)
      conv => whnf
      repeat' first
        | (refine call_if (encp_spec s fa) (by first | exact .inl rfl | exact .inr ⟨rfl, rfl⟩) (need_intro ?_ ?_); (conv => whnf))
        | (refine call_if (encp_lit s fc hcat) (by first | exact .inl rfl | exact .inr ⟨rfl, rfl⟩) (need_intro ?_ ?_); (conv => whnf))
        | (refine call_if (comparep_lit1 s fc fa hcat) (by first | exact .inl rfl | exact .inr ⟨rfl, rfl⟩) (need_intro ?_ ?_); (conv => whnf))
        | (refine call_if (comparep_lit2 s fa fc hcat) (by first | exact .inl rfl | exact .inr ⟨rfl, rfl⟩) (need_intro ?_ ?_); (conv => whnf))
        | (refine call_intro (sane_spec) ?_ (by first | exact .inl rfl | exact .inr ⟨rfl, rfl⟩); (conv => whnf))
        | (refine bc_true (by assumption) ?_; (conv => whnf))
        | (refine bc_false (by assumption) ?_; (conv => whnf))
        | (refine bc_intro (fun _ => ?_) (fun _ => ?_) <;> (conv => whnf))
        | (refine need_intro ?_ ?_; (conv => whnf))
        | (refine wk_refl ?_; (conv => whnf))
        | (refine draw_intro (by kernel_rfl) ?_; (conv => whnf))
        | (refine ord_intro (by kernel_rfl) ?_; (conv => whnf))
      all_goals try simp only [bl_gtr, w01, w02, w03, beq_iff_eq, beq_eq_false_iff_ne, bne_iff_ne, bne_eq_false_iff_eq, ne_eq] at *
      all_goals first
        | exact ⟨LeS.refl _, trivial⟩
        | exact ⟨by omega, by omega, by omega⟩
        | exact ⟨by omega, by omega, ga4.num⟩
        | exact ⟨by omega, by omega, hcf.num⟩
        | exact ⟨by omega, by rw [bytesF]; omega, by omega⟩
        | exact ⟨trivial, by rw [bytesF]; omega, by omega⟩
        | (simp only [Option.getD, bytesF]; refine ⟨trivial, ?_, ?_⟩ <;> (split <;> omega))
        | exact ⟨hm.1, hm.2.1, by simp only [Option.getD]; omega⟩
        | (exfalso
           rcases enc_cases q1 with e1 | e1
           · rcases enc_cases q2 with e2 | e2
             · omega
             · omega
           · omega)
        | (exfalso
           have ho := order_eq q1 q2 ga4.num hcf.num (by assumption) (by assumption)
           have hn := compare_neg (s := s) (a := fa) (b := fc)
           first
             | (rw [cmpT_lt (by assumption)] at ho; simp_all; done)
             | (rw [cmpT_gt (by assumption) (by assumption)] at ho; simp_all; done)
             | (rw [cmpT_eq (by assumption) (by assumption)] at ho; simp_all; done))
        | trace_state
    | false =>
      have q1 := ga4.fits g1.valid (by omega)
      have q2 := g4.fits g1.valid (by omega)
      conv => whnf
      repeat' first
        | (refine call_if (encp_spec s _) (by first | exact .inl rfl | exact .inr ⟨rfl, rfl⟩) (need_intro ?_ ?_); (conv => whnf))
        | (refine call_if (comparep_spec2 s _ _) (by first | exact .inl rfl | exact .inr ⟨rfl, rfl⟩) (need_intro ?_ ?_); (conv => whnf))
        | (refine call_intro (sane_spec) ?_ (by first | exact .inl rfl | exact .inr ⟨rfl, rfl⟩); (conv => whnf))
        | (refine bc_true (by assumption) ?_; (conv => whnf))
        | (refine bc_false (by assumption) ?_; (conv => whnf))
        | (refine bc_intro (fun _ => ?_) (fun _ => ?_) <;> (conv => whnf))
        | (refine need_intro ?_ ?_; (conv => whnf))
        | (refine wk_refl ?_; (conv => whnf))
        | (refine draw_intro (by kernel_rfl) ?_; (conv => whnf))
        | (refine ord_intro (by kernel_rfl) ?_; (conv => whnf))
      all_goals try simp only [bl_gtr, w01, w02, w03, beq_iff_eq, beq_eq_false_iff_ne, bne_iff_ne, bne_eq_false_iff_eq, ne_eq] at *
      all_goals first
        | exact ⟨LeS.refl _, trivial⟩
        | exact ⟨by omega, by omega, by omega⟩
        | exact ⟨by omega, by omega, ga4.num⟩
        | exact ⟨by omega, by omega, g4.num⟩
        | exact ⟨by omega, by rw [bytesF]; omega, by omega⟩
        | exact ⟨trivial, by rw [bytesF]; omega, by omega⟩
        | (simp only [Option.getD, bytesF]; refine ⟨trivial, ?_, ?_⟩ <;> (split <;> omega))
        | exact ⟨hm.1, hm.2.1, by simp only [Option.getD]; omega⟩
        | (exfalso
           rcases enc_cases q1 with e1 | e1
           · rcases enc_cases q2 with e2 | e2
             · omega
             · omega
           · omega)
        | (exfalso
           have ho := order_eq q1 q2 ga4.num g4.num (by assumption) (by assumption)
           have hn := compare_neg (s := s) (a := fa) (b := fs)
           first
             | (rw [cmpT_lt (by assumption)] at ho; simp_all; done)
             | (rw [cmpT_gt (by assumption) (by assumption)] at ho; simp_all; done)
             | (rw [cmpT_eq (by assumption) (by assumption)] at ho; simp_all; done))
        | trace_state
  all_goals first
    | exact ⟨by assumption, by omega, by omega⟩
    | (have hsl := g1.len
       simp only at hsl ⊢
       rw [wrap_of (by omega) (by omega)]
       exact ⟨by assumption, by omega, by omega⟩)
    | (have hsl := g1.len
       simp only at hsl
       have hw : IntKind.i64.wrap ((s.length : Int) + 1) = (s.length : Int) + 1 := wrap_of (by omega) (by omega)
       simp only [hw] at *
       exact ⟨by assumption, g1, by omega, by omega⟩)
    | assumption
    | trace_state
theorem compositeOrder_all (dss : List (List D)) (h : All2 (wfT Tryd.prog reachBytes 12) [22] dss) : Sx.Spec Tryd.prog GG 7 (svs Tryd.prog [22] dss) [] (.d (.bool true)) [] := by
  obtain ⟨x, rfl, hx⟩ := inv1 h
  obtain ⟨l, h1, h2, h3⟩ := ints_arg hx
  obtain ⟨_, _, rfl, _⟩ := hx
  exact (compositeOrder_law l h1).arg h2
theorem compositeOrder_lifted (os : Os) (started : os.Started) (H : Type) (enc : TypeId × Value → H) :
    ReturnsInHanded {} Tryd.checked os 7 .any (fun w args => (Rows.compositeOrderSpec.pre enc Tryd.prog Tryd.f7 [] false w args ∧ laidMetH Tryd.prog laidL w) ∧ sizedMet enc Tryd.prog Tryd.f7 (OpenSpec.ofChange Rows.compositeOrderSpec) false w args)
      (Rows.compositeOrderSpec.post enc Tryd.prog Tryd.f7 false true false false) := by
  refine returnsInHanded_of_change_and (C := Tryd.checked) (X := fun w _ => laidMetH Tryd.prog laidL w) (fun _ _ _ hh h => h.of_heap hh) own started (by kernel_rfl) Tryd.func7
    (ChangeSpec.witness_shaped (enc := enc) (C := Tryd.checked) (os := os) (X := fun w _ => laidMetH Tryd.prog laidL w) false (World.doorLaid Tryd.prog 400 os) #[.slice none 0 0] 8 rfl (World.shaped_of_RefB (by kernel_rfl) (by kernel_rfl)) (by kernel_rfl) (by kernel_rfl) (by kernel_rfl) (door_met os _)) ?_
  intro W base args ds gs before hval hW hcnd hsz hL _
  refine law_contract (P := Tryd.prog) (ts := [22]) (bt := 4) (G := GG) laidOut (by rw [Tryd.params7]) (by kernel_rfl) Tryd.underlying4 (by kernel_rfl) rfl ?_ compositeOrder_all hval hW hsz (gok hL)
  intro ds h
  match ds, h with
  | [_], _ => rfl
theorem compositeOrder_over : Rows.compositeOrderRow.holds Tryd.pinned (OpenSpec.ofChange Rows.compositeOrderSpec) :=
  OpenClaim.holds_of_wide 7 Tryd.f7 rfl rfl rfl rfl rfl rfl rfl ⟨rfl, rfl, rfl, rfl, rfl⟩ rfl rfl rfl rfl rfl (by kernel_rfl) Tryd.func7 (by kernel_rfl)
    (of_decide_eq_true (by kernel_rfl)) (by unfold Func.isWrapper; first | (rw [if_pos (by decide +kernel)]; kernel_rfl) | (rw [if_neg (by decide +kernel)]; exact ⟨rfl, rfl⟩))
    (fun os started H enc _ => compositeOrder_lifted os started H enc)
theorem compositeOrder_plain : ∀ t ∈ [22], Tryd.prog.wantsStandIn t = false := by
  intro t ht
  simp only [List.mem_cons, List.not_mem_nil, or_false] at ht
  rcases ht with rfl <;> kernel_rfl
theorem compositeOrder_proved : Rows.CompositeOrderCardSaid :=
  Claim7.holds_tied_plain_at .later [] [.data] true (true, "0e52a8286e7c94b2c9a14399cff66ddebaac7128c5ef4013cc4fad5231b30964") false
    compositeOrder_over (fun _ h => by cases h) (by kernel_rfl) (fun _ h => by cases h) compositeOrder_row_tie rfl ⟨rfl, rfl⟩ (by kernel_rfl) rfl
    (fun f fn hf hfn => by
      obtain rfl : f = 7 := Option.some.inj ((show Tryd.prog.funcNamed Rows.compositeOrderRow.func = some 7 by kernel_rfl).symm.trans hf) |>.symm
      obtain rfl : fn = Tryd.f7 := (Option.some.inj (Tryd.func7.symm.trans hfn)).symm
      exact ⟨by kernel_rfl, fun j t ht => compositeOrder_plain t (by
        rw [Tryd.params7] at ht
        exact List.mem_of_getElem? (by simpa using ht))⟩)
    (by kernel_rfl)
#print axioms compositeOrder_proved
end Go.Proofs.YtoommeeolmfepaaDoor
