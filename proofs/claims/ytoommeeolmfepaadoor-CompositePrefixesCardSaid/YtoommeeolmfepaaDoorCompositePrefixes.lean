/- The law CompositePrefixes: the walk through its code and the claim. -/
import Derived.Test.YtoommeeolmfepaaDoorKLay
import Derived.Test.YtoommeeolmfepaaDoorK14
import Derived.Test.YtoommeeolmfepaaDoorSxCmp
namespace Go.Proofs.YtoommeeolmfepaaDoor
open Go Go.Sx Go.ChangeShapes Go.WideShapes Go.ChangeAt Go.WideMaps Go.WideElems Go.RowKit
set_option linter.unusedVariables false
set_option linter.unusedSimpArgs false
set_option maxRecDepth 100000
theorem FitsB.cut {s : List Col} {a b : List Fld} {m : Nat} (ha : FitsB s a) (hb : FitsB s b) (h : m ≤ a.length) : FitsB s (a.take m ++ b.drop m) where
  fit := by
    intro j hj
    have hl : (a.take m).length = m := by rw [List.length_take]; omega
    by_cases e : j < m
    · rw [getD_append_left (by omega)]
      have : (a.take m).getD j default = a.getD j default := by simp [List.getD, List.getElem?_take, e]
      rw [this]; exact ha.fit j (by omega)
    · rw [getD_append_right (by omega), hl]
      have : (b.drop m).getD (j - m) default = b.getD j default := by
        simp only [List.getD, List.getElem?_drop]
        congr 2; omega
      rw [this]
      refine hb.fit j ?_
      simp only [List.length_append, hl, List.length_drop] at hj
      omega
  num := by
    intro f hf
    rcases List.mem_append.1 hf with hf | hf
    · exact ha.num f (List.mem_of_mem_take hf)
    · exact hb.num f (List.mem_of_mem_drop hf)
theorem FitsB.cat {s : List Col} {a b : List Fld} {m : Nat} (ha : FitsB s a) (hb : FitsB s b) (h : m = min a.length b.length) : FitsB s (a ++ b.drop m) := by
  rcases Nat.lt_or_ge b.length a.length with h1 | h1
  · have : b.drop m = [] := List.drop_of_length_le (by omega)
    rw [this, List.append_nil]; exact ha
  · have hc := ha.cut hb (m := m) (by omega)
    rwa [show a.take m = a from List.take_of_length_le (by omega)] at hc
theorem encp_lit (s : List Col) {n K : Nat} {g : Nat → Nat → D} (l : List Fld) (hd : DLe (.list n K g) (encL encFld 3 l)) : (s.length ≤ 1000 ∧ l.length ≤ 1000 ∧ ∀ f ∈ l, FldB f) → Sx.Spec Tryd.prog GG 21 [.d (encL encCol 2 s), .d (.list n K g)] [] (.tup [.d (.str (encodeS s l).1), .d (.int .i64 (encodeS s l).2)]) [] := fun h =>
  (encp_spec s l h).arg (LeL.cons (LeS.refl _) (LeL.cons (LeS.d hd) LeL.nil))
theorem comparep_lit1 (s : List Col) {n K : Nat} {g : Nat → Nat → D} (a b : List Fld) (hd : DLe (.list n K g) (encL encFld 3 a)) : (s.length ≤ 1000 ∧ a.length ≤ 1000 ∧ b.length ≤ 1000) → Sx.Spec Tryd.prog GG 31 [.d (encL encCol 2 s), .d (.list n K g), .d (encL encFld 3 b)] [] (.d (.int .i64 (compareL s a b))) [] := fun h =>
  (comparep_spec2 s a b h).arg (LeL.cons (LeS.refl _) (LeL.cons (LeS.d hd) (LeL.cons (LeS.refl _) LeL.nil)))
theorem comparep_lit2 (s : List Col) {n K : Nat} {g : Nat → Nat → D} (a b : List Fld) (hd : DLe (.list n K g) (encL encFld 3 b)) : (s.length ≤ 1000 ∧ a.length ≤ 1000 ∧ b.length ≤ 1000) → Sx.Spec Tryd.prog GG 31 [.d (encL encCol 2 s), .d (encL encFld 3 a), .d (.list n K g)] [] (.d (.int .i64 (compareL s a b))) [] := fun h =>
  (comparep_spec2 s a b h).arg (LeL.cons (LeS.refl _) (LeL.cons (LeS.refl _) (LeL.cons (LeS.d hd) LeL.nil)))
theorem dle_sub {l : List Fld} {k n K o : Nat} {G : Nat → Nat → D} (h : RowLe l.length 3 G (cellOf encFld l)) (hk : k ≤ l.length) (e : n = k ∧ K = 3 ∧ o = 0) : DLe (.list n K fun i j => G (o + i) j) (encL encFld 3 (l.take k)) := by
  obtain ⟨rfl, rfl, rfl⟩ := e
  have hl : n = (l.take n).length := by rw [List.length_take]; omega
  refine DLe.rows hl ⟨fun i j hi hj => ?_⟩
  rw [Nat.zero_add]
  rw [← hl] at hi
  have := h.le i j (by omega) hj
  have e : cellOf encFld (l.take n) i j = cellOf encFld l i j := by simp [cellOf, List.getD, List.getElem?_take, hi]
  rw [e]; exact this
theorem encp_sub (s : List Col) (l : List Fld) {n K o : Nat} {G : Nat → Nat → D} (h : RowLe l.length 3 G (cellOf encFld l)) : ((n = l.length ∧ K = 3 ∧ o = 0) ∧ s.length ≤ 1000 ∧ l.length ≤ 1000 ∧ ∀ f ∈ l, FldB f) → Sx.Spec Tryd.prog GG 21 [.d (encL encCol 2 s), .d (.list n K fun i j => G (o + i) j)] [] (.tup [.d (.str (encodeS s l).1), .d (.int .i64 (encodeS s l).2)]) [] := fun hp => by
  have hd := dle_sub h (Nat.le_refl _) hp.1
  rw [List.take_length] at hd
  exact encp_lit s l hd hp.2
theorem pref_sub (s : List Col) (l : List Fld) (k : Nat) {n K o : Nat} {G : Nat → Nat → D} (h : RowLe l.length 3 G (cellOf encFld l)) : (k ≤ l.length ∧ (n = k ∧ K = 3 ∧ o = 0) ∧ s.length ≤ 1000 ∧ l.length ≤ 1000 ∧ ∀ f ∈ l, FldB f) → Sx.Spec Tryd.prog GG 24 [.d (encL encCol 2 s), .d (.list n K fun i j => G (o + i) j)] [] (.tup [rng2 s (l.take k), .d (.int .i64 (encodeS s (l.take k)).2)]) [] := fun hp =>
  (pref2p_spec s (l.take k) ⟨hp.2.2.1, by rw [List.length_take]; have := hp.2.2.2.1; omega, fun f hf => hp.2.2.2.2 f (List.mem_of_mem_take hf)⟩).arg (LeL.cons (LeS.refl _) (LeL.cons (LeS.d (dle_sub h hp.1 hp.2.1)) LeL.nil))
theorem same_sub (a b : List Fld) (k : Nat) {n1 K1 o1 n2 K2 o2 : Nat} {G1 G2 : Nat → Nat → D} (h1 : RowLe a.length 3 G1 (cellOf encFld a)) (h2 : RowLe b.length 3 G2 (cellOf encFld b)) : ((k ≤ a.length ∧ k ≤ b.length) ∧ (n1 = k ∧ K1 = 3 ∧ o1 = 0) ∧ (n2 = k ∧ K2 = 3 ∧ o2 = 0) ∧ k ≤ 1000) → Sx.Spec Tryd.prog GG 19 [.d (.list n1 K1 fun i j => G1 (o1 + i) j), .d (.list n2 K2 fun i j => G2 (o2 + i) j)] [] (.d (.bool (decide (a.take k = b.take k)))) [] := fun hp =>
  (same_spec (a.take k) (b.take k) ⟨by rw [List.length_take]; have := hp.2.2.2; omega, by rw [List.length_take]; have := hp.2.2.2; omega⟩).arg (LeL.cons (LeS.d (dle_sub h1 hp.1.1 hp.2.1)) (LeL.cons (LeS.d (dle_sub h2 hp.1.2 hp.2.2.1)) LeL.nil))
theorem row_cut {T : Nat → Nat → D} (fa fs : List Fld) {m : Int} (h0 : 0 ≤ m ∧ m ≤ fa.length ∧ m ≤ fs.length) : RowLe (fa.take m.toNat ++ fs.drop m.toNat).length 3 (fun i j =>
    if i < 0 + ((some m).getD (fa.length : Int) - none.getD 0).toNat then (if i < 0 then T i j else cellOf encFld fa ((none.getD (0 : Int)).toNat + (i - 0)) j) else cellOf encFld fs (((some m).getD 0).toNat + (i - (0 + ((some m).getD (fa.length : Int) - none.getD 0).toNat))) j) (cellOf encFld (fa.take m.toNat ++ fs.drop m.toNat)) := .of_eq fun i j hi hj => by
  simp only [Option.getD]
  have hl : (fa.take m.toNat).length = m.toNat := by rw [List.length_take]; omega
  by_cases e : i < m.toNat
  · rw [if_pos (by omega), if_neg (by omega)]
    simp only [cellOf]
    rw [getD_append_left (by omega), show Int.toNat 0 + (i - 0) = i by simp]
    simp [List.getD, List.getElem?_take, e]
  · rw [if_neg (by omega)]
    simp only [cellOf]
    rw [getD_append_right (by omega), hl, show i - (0 + (m - 0).toNat) = i - m.toNat by omega]
    simp only [List.getD, List.getElem?_drop]
theorem prefix_law {s : List Col} {a b : List Fld} {k : Nat} (hv : validS s = true) (ha : FitsB s a) (hb : FitsB s b) (hka : k ≤ a.length) (hkb : k ≤ b.length) (hla : a.length ≤ s.length) (hlb : b.length ≤ s.length) (h1 : (encodeS s b).2 = 0) (h2 : (encodeS s (a.take k)).2 = 0) :
    containsR (pref2 s (a.take k)).1.1 (pref2 s (a.take k)).1.2 (pref2 s (a.take k)).2.1 (pref2 s (a.take k)).2.2 (encodeS s b).1 = decide (a.take k = b.take k) := by
  have fa := ha.fits hv hla
  have fb := hb.fits hv hlb
  have fk : fitsL s (a.take k) = true := by
    have := (FitsB.cut (m := k) ha ha hka)
    refine fitsL_true hv (by rw [List.length_take]; omega) fun j hj => ?_
    have hj2 : j < k := by rw [List.length_take] at hj; omega
    have e : (a.take k).getD j default = a.getD j default := by simp [List.getD, List.getElem?_take, hj2]
    rw [e]; exact ha.fit j (by omega)
  obtain ⟨x1, x2⟩ := enc_zero fb h1
  obtain ⟨p1, p2⟩ := enc_zero fk h2
  rw [pref2_ok h2, x1, p1]
  obtain ⟨_, _, _, m1, m2⟩ := fitsL_six fa
  obtain ⟨_, _, _, _, m3⟩ := fitsL_six fb
  have hh := pref_has (p := encS s (a.take k)) (x := encS s b) p2 x2
  have hq := encS_prefix (m := k) m1 m2 m3 ha.num hb.num hka hkb hlb
  rw [Bool.eq_iff_iff, hh, hq, decide_eq_true_eq]
set_option maxHeartbeats 4000000 in
theorem compositePrefixes_law (l : List Int) (n : Int) (hl : ∀ x ∈ l, -9223372036854775808 ≤ x ∧ x < 9223372036854775808) (hn : -9223372036854775808 ≤ n ∧ n < 9223372036854775808) : Sx.Spec Tryd.prog GG 5 [.d (encL encI 1 l), .d (.int .i64 n)] [] (.d (.bool true)) [] := by
  refine spec_intro (E := EL) (fn := Tryd.f5) eokL (by kernel_rfl) (by kernel_rfl) Tryd.call5 (by kernel_rfl) (by kernel_rfl) ?_
  conv => whnf
  repeat' first
    | (refine call_some (new_ex 2000 hl) (fun _ => by first | exact .inl rfl | exact .inr ⟨rfl, rfl⟩) ?_; rintro ⟨tl, ta⟩ hT; (conv => whnf))
    | (refine call_some_if (schema_ex 2000) (fun _ => by first | exact .inl rfl | exact .inr ⟨rfl, rfl⟩) (need_intro ?_ ?_); rintro ⟨s, b⟩ ⟨g1, g2⟩; (conv => whnf))
    | (refine call_some_if (fields_ex 2000) (fun _ => by first | exact .inl rfl | exact .inr ⟨rfl, rfl⟩) (need_intro ?_ ?_); rintro ⟨fs, b⟩ ⟨⟨g3, g4⟩, g5⟩; (conv => whnf))
    | (refine call_if (mod_spec _ _) (by first | exact .inl rfl | exact .inr ⟨rfl, rfl⟩) (need_intro ?_ ?_); (conv => whnf))
    | (refine call_some_if (bool_ex 2000) (fun _ => by first | exact .inl rfl | exact .inr ⟨rfl, rfl⟩) (need_intro ?_ ?_); rintro ⟨w, b⟩ h4; (conv => whnf))
    | (refine bc_true (by assumption) ?_; (conv => whnf))
    | (refine bc_false (by assumption) ?_; (conv => whnf))
    | (refine need_intro ?_ ?_; (conv => whnf))
    | (refine wk_refl ?_; (conv => whnf))
    | (refine draw_intro (by kernel_rfl) ?_; (conv => whnf))
    | (refine ord_intro (by kernel_rfl) ?_; (conv => whnf))
  · rename_i b1 fa b2 ga5 ga3 ga4 b3
    simp only at g1 g2 g3 g4 g5 ga3 ga4 hT h4
    have hsl := g1.len
    have hw : IntKind.i64.wrap ((s.length : Int) + 1) = (s.length : Int) + 1 := wrap_of (by omega) (by omega)
    simp only [hw]
    obtain ⟨m, hm⟩ : ∃ m, n % ((s.length : Int) + 1) = m := ⟨_, rfl⟩
    have hm0 : 0 ≤ m ∧ m ≤ s.length := by
      have k1 := Int.emod_nonneg n (b := (s.length : Int) + 1) (by omega)
      have k2 := Int.emod_lt_of_pos n (b := (s.length : Int) + 1) (by omega)
      omega
    rw [hm]
    cases w with
    | true =>
      have hcat := row_cut (T := tabF (fun x j => [D.int IntKind.i64 0, D.int IntKind.i64 0, D.str []].getD j default) []) fa fs (m := m) ⟨by omega, by omega, by omega⟩
      obtain ⟨fc, hfc⟩ : ∃ fc, fa.take m.toNat ++ fs.drop m.toNat = fc := ⟨_, rfl⟩
      have hcf : FitsB s fc := by rw [← hfc]; exact ga4.cut g4 (by omega)
      have hcl : fc.length = s.length := by rw [← hfc, List.length_append, List.length_drop, List.length_take]; omega
      rw [hfc] at hcat
      conv => whnf
      repeat' first
        | (refine call_if (encp_sub s fc hcat) (by first | exact .inl rfl | exact .inr ⟨rfl, rfl⟩) (need_intro ?_ ?_); (conv => whnf))
        | (refine call_if (pref_sub s fa m.toNat (RowLe.refl _ _ _)) (by first | exact .inl rfl | exact .inr ⟨rfl, rfl⟩) (need_intro ?_ ?_); (conv => whnf))
        | (refine call_intro (containsRp_spec _ _ _ _ _) ?_ (by first | exact .inl rfl | exact .inr ⟨rfl, rfl⟩); (conv => whnf))
        | (refine call_if (same_sub fa fc m.toNat (RowLe.refl _ _ _) hcat) (by first | exact .inl rfl | exact .inr ⟨rfl, rfl⟩) (need_intro ?_ ?_); (conv => whnf))
        | (refine call_intro (sane_spec) ?_ (by first | exact .inl rfl | exact .inr ⟨rfl, rfl⟩); (conv => whnf))
        | (refine bc_true (by assumption) ?_; (conv => whnf))
        | (refine bc_false (by assumption) ?_; (conv => whnf))
        | (refine bc_intro (fun _ => ?_) (fun _ => ?_) <;> (conv => whnf))
        | (refine need_intro ?_ ?_; (conv => whnf))
        | (refine wk_refl ?_; (conv => whnf))
        | (refine draw_intro (by kernel_rfl) ?_; (conv => whnf))
        | (refine ord_intro (by kernel_rfl) ?_; (conv => whnf))
      all_goals try simp only [beq_iff_eq, beq_eq_false_iff_ne, bne_iff_ne, bne_eq_false_iff_eq, ne_eq] at *
      all_goals first
        | exact ⟨LeS.refl _, trivial⟩
        | exact ⟨by omega, by omega, ga4.num⟩
        | exact ⟨by omega, by omega, hcf.num⟩
        | (simp only [Option.getD, bytesF]; exact ⟨trivial, by omega, by omega⟩)
        | (simp only [Option.getD, bytesF]; exact ⟨by omega, by omega, by omega⟩)
        | (simp only [Option.getD, cellsF]
           repeat' apply And.intro
           all_goals first
             | trivial
             | omega
             | exact ga4.num
             | exact hcf.num
             | rfl
           done)
        | (exfalso
           have hp := prefix_law (k := m.toNat) g1.valid ga4 hcf (by omega) (by omega) (by omega) (by omega) (by assumption) (by assumption)
           simp_all
           done)
        | trace_state
    | false =>
      conv => whnf
      repeat' first
        | (refine call_if (encp_spec s fs) (by first | exact .inl rfl | exact .inr ⟨rfl, rfl⟩) (need_intro ?_ ?_); (conv => whnf))
        | (refine call_if (pref_sub s fa m.toNat (RowLe.refl _ _ _)) (by first | exact .inl rfl | exact .inr ⟨rfl, rfl⟩) (need_intro ?_ ?_); (conv => whnf))
        | (refine call_intro (containsRp_spec _ _ _ _ _) ?_ (by first | exact .inl rfl | exact .inr ⟨rfl, rfl⟩); (conv => whnf))
        | (refine call_if (same_sub fa fs m.toNat (RowLe.refl _ _ _) (RowLe.refl _ _ _)) (by first | exact .inl rfl | exact .inr ⟨rfl, rfl⟩) (need_intro ?_ ?_); (conv => whnf))
        | (refine call_intro (sane_spec) ?_ (by first | exact .inl rfl | exact .inr ⟨rfl, rfl⟩); (conv => whnf))
        | (refine bc_true (by assumption) ?_; (conv => whnf))
        | (refine bc_false (by assumption) ?_; (conv => whnf))
        | (refine bc_intro (fun _ => ?_) (fun _ => ?_) <;> (conv => whnf))
        | (refine need_intro ?_ ?_; (conv => whnf))
        | (refine wk_refl ?_; (conv => whnf))
        | (refine draw_intro (by kernel_rfl) ?_; (conv => whnf))
        | (refine ord_intro (by kernel_rfl) ?_; (conv => whnf))
      all_goals try simp only [beq_iff_eq, beq_eq_false_iff_ne, bne_iff_ne, bne_eq_false_iff_eq, ne_eq] at *
      all_goals first
        | exact ⟨LeS.refl _, trivial⟩
        | exact ⟨by omega, by omega, ga4.num⟩
        | exact ⟨by omega, by omega, g4.num⟩
        | (simp only [Option.getD, bytesF]; exact ⟨trivial, by omega, by omega⟩)
        | (simp only [Option.getD, bytesF]; exact ⟨by omega, by omega, by omega⟩)
        | (simp only [Option.getD, cellsF]
           repeat' apply And.intro
           all_goals first
             | trivial
             | omega
             | exact ga4.num
             | exact g4.num
             | rfl
           done)
        | (exfalso
           have hp := prefix_law (k := m.toNat) g1.valid ga4 g4 (by omega) (by omega) (by omega) (by omega) (by assumption) (by assumption)
           simp_all
           done)
        | trace_state
  all_goals first
    | exact ⟨by assumption, by omega, by omega⟩
    | exact ⟨by assumption, g1, by omega, by omega⟩
    | (have hsl := g1.len
       simp only at hsl ⊢
       rw [wrap_of (by omega) (by omega)]
       exact ⟨⟨by omega, by omega⟩, hn⟩)
    | assumption
    | trace_state
theorem compositePrefixes_all (dss : List (List D)) (h : All2 (wfT Tryd.prog reachBytes 12) [22, 3] dss) : Sx.Spec Tryd.prog GG 5 (svs Tryd.prog [22, 3] dss) [] (.d (.bool true)) [] := by
  obtain ⟨x, y, rfl, hx, hy⟩ := inv2 h
  obtain ⟨l, h1, h2, h3⟩ := ints_arg hx
  obtain ⟨_, _, rfl, _⟩ := hx
  obtain ⟨n, rfl, hn⟩ := hy
  exact (compositePrefixes_law l n h1 (wf_i64 hn)).arg (leL_app h2 (LeL.cons (LeS.refl _) LeL.nil))
theorem compositePrefixes_lifted (os : Os) (started : os.Started) (H : Type) (enc : TypeId × Value → H) :
    ReturnsInHanded {} Tryd.checked os 5 .any (fun w args => (Rows.compositePrefixesSpec.pre enc Tryd.prog Tryd.f5 [] false w args ∧ laidMetH Tryd.prog laidL w) ∧ sizedMet enc Tryd.prog Tryd.f5 (OpenSpec.ofChange Rows.compositePrefixesSpec) false w args)
      (Rows.compositePrefixesSpec.post enc Tryd.prog Tryd.f5 false true false false) := by
  refine returnsInHanded_of_change_and (C := Tryd.checked) (X := fun w _ => laidMetH Tryd.prog laidL w) (fun _ _ _ hh h => h.of_heap hh) own started (by kernel_rfl) Tryd.func5
    (ChangeSpec.witness_shaped (enc := enc) (C := Tryd.checked) (os := os) (X := fun w _ => laidMetH Tryd.prog laidL w) false (World.doorLaid Tryd.prog 400 os) #[.slice none 0 0, .int .i64 0] 8 rfl (World.shaped_of_RefB (by kernel_rfl) (by kernel_rfl)) (by kernel_rfl) (by kernel_rfl) (by kernel_rfl) (door_met os _)) ?_
  intro W base args ds gs before hval hW hcnd hsz hL _
  refine law_contract (P := Tryd.prog) (ts := [22, 3]) (bt := 4) (G := GG) laidOut (by rw [Tryd.params5]) (by kernel_rfl) Tryd.underlying4 (by kernel_rfl) rfl ?_ compositePrefixes_all hval hW hsz (gok hL)
  intro ds h
  match ds, h with
  | [_, _], _ => rfl
theorem compositePrefixes_over : Rows.compositePrefixesRow.holds Tryd.pinned (OpenSpec.ofChange Rows.compositePrefixesSpec) :=
  OpenClaim.holds_of_wide 5 Tryd.f5 rfl rfl rfl rfl rfl rfl rfl ⟨rfl, rfl, rfl, rfl, rfl⟩ rfl rfl rfl rfl rfl (by kernel_rfl) Tryd.func5 (by kernel_rfl)
    (of_decide_eq_true (by kernel_rfl)) (by unfold Func.isWrapper; first | (rw [if_pos (by decide +kernel)]; kernel_rfl) | (rw [if_neg (by decide +kernel)]; exact ⟨rfl, rfl⟩))
    (fun os started H enc _ => compositePrefixes_lifted os started H enc)
theorem compositePrefixes_plain : ∀ t ∈ [22, 3], Tryd.prog.wantsStandIn t = false := by
  intro t ht
  simp only [List.mem_cons, List.not_mem_nil, or_false] at ht
  rcases ht with rfl | rfl <;> kernel_rfl
theorem compositePrefixes_proved : Rows.CompositePrefixesCardSaid :=
  Claim7.holds_tied_plain_at .later [] [.data] true (true, "0e52a8286e7c94b2c9a14399cff66ddebaac7128c5ef4013cc4fad5231b30964") false
    compositePrefixes_over (fun _ h => by cases h) (by kernel_rfl) (fun _ h => by cases h) compositePrefixes_row_tie rfl ⟨rfl, rfl⟩ (by kernel_rfl) rfl
    (fun f fn hf hfn => by
      obtain rfl : f = 5 := Option.some.inj ((show Tryd.prog.funcNamed Rows.compositePrefixesRow.func = some 5 by kernel_rfl).symm.trans hf) |>.symm
      obtain rfl : fn = Tryd.f5 := (Option.some.inj (Tryd.func5.symm.trans hfn)).symm
      exact ⟨by kernel_rfl, fun j t ht => compositePrefixes_plain t (by
        rw [Tryd.params5] at ht
        exact List.mem_of_getElem? (by simpa using ht))⟩)
    (by kernel_rfl)
#print axioms compositePrefixes_proved
end Go.Proofs.YtoommeeolmfepaaDoor
