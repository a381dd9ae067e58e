/- The law CollectStores: the walk through its code and the claim. -/
import Derived.Test.YtcllahjpinbiaaaDoorColA
namespace Go.Proofs.YtcllahjpinbiaaaDoor
open Go Go.Sx Go.ChangeShapes Go.WideShapes Go.ChangeAt Go.WideMaps Go.WideElems Go.RowKit
set_option linter.unusedVariables false
set_option linter.unusedSimpArgs false
set_option maxRecDepth 100000
set_option maxHeartbeats 8000000 in
theorem collectStores_law (l : List Int) (raw : List StoT) (s : StoT) (node num : Int) (hl : ∀ x ∈ l, -9223372036854775808 ≤ x ∧ x < 9223372036854775808) (hraw : raw.length ≤ 9223372036854775807) :
    Sx.Spec Tryd.prog GG 4 [.d (encL encI 1 l), .d (encL encSto 33 raw), .agg (stoL s), .d (.int .i64 node), .d (.int .i64 num)] [] (.d (.bool true)) [] := by
  refine spec_intro (E := EE) (fn := Tryd.f4) eok (by kernel_rfl) (by kernel_rfl) Tryd.call4 (by kernel_rfl) (by kernel_rfl) ?_
  conv => whnf
  repeat' first
    | (refine call_if (small34_spec raw) (by first | exact .inl rfl | exact .inr ⟨rfl, rfl⟩) (need_intro ?_ ?_); (conv => whnf))
    | (refine call_if (small34_at [s]) (by first | exact .inl rfl | exact .inr ⟨rfl, rfl⟩) (need_intro ?_ ?_); (conv => whnf))
    | (refine call_intro (awake34_spec) ?_ (by first | exact .inl rfl | exact .inr ⟨rfl, rfl⟩); (conv => whnf))
    | (refine bc_true (by assumption) ?_; (conv => whnf))
    | (refine bc_false (by assumption) ?_; (conv => whnf))
    | (refine bc_intro (fun _ => ?_) (fun _ => ?_) <;> (conv => whnf))
    | (refine need_intro ?_ ?_; (conv => whnf))
    | (refine wk_refl ?_; (conv => whnf))
    | (refine draw_intro (by kernel_rfl) ?_; (conv => whnf))
    | (refine ord_intro (by kernel_rfl) ?_; (conv => whnf))
  all_goals try first
    | exact hraw
    | exact ⟨⟨rfl, .all (by repeat' first | exact trivial | exact rfl | apply And.intro)⟩, by simp⟩
    | exact ⟨LeS.refl _, trivial⟩
  all_goals try simp only [Bool.not_eq_true', Bool.not_eq_false'] at *
  have hs1 : smallS raw = true := by assumption
  have hs2 : smallS [s] = true := by assumption
  have hrb := (smallS_b hs1).mono (m := 30) (by omega)
  have hsb := small_one hs2
  conv => whnf
  repeat' first
    | (refine call_some (new_ex 2000 hl) (fun _ => by first | exact .inl rfl | exact .inr ⟨rfl, rfl⟩) ?_; rintro ⟨tl, ta⟩ hT; (conv => whnf))
    | (refine call_some_if (storeL_ex _) (fun _ => by first | exact .inl rfl | exact .inr ⟨rfl, rfl⟩) (need_intro ?_ ?_); rintro ⟨x0, b⟩ ⟨hx0, h6⟩; (conv => whnf))
    | (refine bc_true (by assumption) ?_; (conv => whnf))
    | (refine bc_false (by assumption) ?_; (conv => whnf))
    | (refine need_intro ?_ ?_; (conv => whnf))
    | (refine wk_refl ?_; (conv => whnf))
    | (refine draw_intro (by kernel_rfl) ?_; (conv => whnf))
    | (refine ord_intro (by kernel_rfl) ?_; (conv => whnf))
  all_goals try assumption
  have hx0b := hx0.b.mono (m := 30) (by omega)
  refine loop_auto [3, 4, 7, 10, 11, 43] [7] (fun x : (Nat × Unit) × Nat => [(42, .d (encL encLS 1 [x0, raw])), (44, .d (.int .i64 x.1.1))]) (fun x => [(2000, tapeB tl x.2)]) (fun x => x.1.1 ≤ 2 ∧ TapeOk tl x.2) (fun x => 2 - x.1.1) ((0, ()), b) ?_ (fun x hx => ?_) ⟨by simp, h6⟩
  · conv => whnf
    repeat' first
      | (refine bc_true (by assumption) ?_; (conv => whnf))
      | (refine bc_false (by assumption) ?_; (conv => whnf))
      | (refine bc_intro (fun _ => ?_) (fun _ => ?_) <;> (conv => whnf))
      | (refine need_intro ?_ ?_; (conv => whnf))
      | (refine wk_refl ?_; (conv => whnf))
      | (refine draw_intro (by kernel_rfl) ?_; (conv => whnf))
      | (refine ord_intro (by kernel_rfl) ?_; (conv => whnf))
    all_goals first
      | exact trivial
      | exact DLe.refl _
      | (refine dle_lit (by kernel_rfl) rfl (lists2_lit (DLe.refl _) (DLe.refl _)); done)
      | trace_state
  · obtain ⟨⟨i, u⟩, b⟩ := x
    obtain ⟨hi, hb⟩ := hx
    simp only at hi hb
    have hsi : IntKind.i64.wrap ((i : Int) + 1) = ((i + 1 : Nat) : Int) := wrap_succ (n := 100) (by omega) (by omega)
    have hX : StoB 30 ([x0, raw].getD (i : Int).toNat default) := stob_pick hx0b hrb
    have hX9 := hX.mono (m := 900000) (by omega)
    have hXm := hX.mono (m := 1000000) (by omega)
    have hXs := hX.mono (m := 999000) (by omega)
    conv => whnf
    repeat' first
      | (refine call_some_if (stored_ex _) (fun _ => by first | exact .inl rfl | exact .inr ⟨rfl, rfl⟩) (need_intro ?_ ?_); rintro ⟨st, b⟩ ⟨⟨⟨s1, s2⟩, s3⟩, h6⟩; (conv => whnf))
      | (refine call_intro (awake34_spec) ?_ (by first | exact .inl rfl | exact .inr ⟨rfl, rfl⟩); (conv => whnf))
      | (refine bc_true (by assumption) ?_; (conv => whnf))
      | (refine bc_false (by assumption) ?_; (conv => whnf))
      | (refine bc_intro (fun _ => ?_) (fun _ => ?_) <;> (conv => whnf))
      | (refine need_intro ?_ ?_; (conv => whnf))
      | (refine wk_refl ?_; (conv => whnf))
      | (refine draw_intro (by kernel_rfl) ?_; (conv => whnf))
      | (refine ord_intro (by kernel_rfl) ?_; (conv => whnf))
    all_goals try exact ⟨LeS.refl _, trivial⟩
    all_goals try simp only [decide_eq_true_eq, decide_eq_false_iff_not] at *
    all_goals try first
      | assumption
      | exact ⟨by omega, by omega⟩
    refine loop_auto [3, 4, 7, 10, 11, 13, 42, 43, 44, 52] [7, 2000] (fun j : Nat => [(51, .d (encL encSto 33 [s, st])), (53, .d (.int .i64 j))]) (fun j => []) (fun j => j ≤ 2) (fun j => 2 - j) 0 ?_ (fun j hj => ?_) (by omega)
    · conv => whnf
      repeat' first
        | (refine bc_true (by assumption) ?_; (conv => whnf))
        | (refine bc_false (by assumption) ?_; (conv => whnf))
        | (refine bc_intro (fun _ => ?_) (fun _ => ?_) <;> (conv => whnf))
        | (refine need_intro ?_ ?_; (conv => whnf))
        | (refine wk_refl ?_; (conv => whnf))
        | (refine draw_intro (by kernel_rfl) ?_; (conv => whnf))
        | (refine ord_intro (by kernel_rfl) ?_; (conv => whnf))
      all_goals first
        | exact trivial
        | exact DLe.refl _
        | (refine dle_lit (by kernel_rfl) rfl (.all ?_)
           repeat' first | exact trivial | exact rfl | apply And.intro
           done)
        | trace_state
    · have hsj : IntKind.i64.wrap ((j : Int) + 1) = ((j + 1 : Nat) : Int) := wrap_succ (n := 100) (by omega) (by omega)
      have hY : SmallC ([s, st].getD (j : Int).toNat default).copy := sto_pick hsb s3
      have hS := (stob_store hX hY).mono (m := 1000000) (by omega)
      have hfs := fun n g => find_smallC (n := n) (g := g) hXm
      conv => whnf
      repeat' first
        | (refine call_if (storep_d ([x0, raw].getD (i : Int).toNat default) ([s, st].getD (j : Int).toNat default)) (by first | exact .inl rfl | exact .inr ⟨rfl, rfl⟩) (need_intro ?_ ?_); (conv => whnf))
        | (refine call_if (find_new_spec ([x0, raw].getD (i : Int).toNat default) ([s, st].getD (j : Int).toNat default)) (by first | exact .inl rfl | exact .inr ⟨rfl, rfl⟩) (need_intro ?_ ?_); (conv => whnf))
        | (refine call_if (storer_d ([x0, raw].getD (i : Int).toNat default) ([s, st].getD (j : Int).toNat default)) (by first | exact .inl rfl | exact .inr ⟨rfl, rfl⟩) (need_intro ?_ ?_); (conv => whnf))
        | (refine call_if (sameS_refl (storeS ([x0, raw].getD (i : Int).toNat default) ([s, st].getD (j : Int).toNat default))) (by first | exact .inl rfl | exact .inr ⟨rfl, rfl⟩) (need_intro ?_ ?_); (conv => whnf))
        | (refine call_if (findp_spec ([x0, raw].getD (i : Int).toNat default) _ _) (by first | exact .inl rfl | exact .inr ⟨rfl, rfl⟩) (need_intro ?_ ?_); (conv => whnf))
        | (refine call_if (findr_spec ([x0, raw].getD (i : Int).toNat default) _ _) (by first | exact .inl rfl | exact .inr ⟨rfl, rfl⟩) (need_intro ?_ ?_); (conv => whnf))
        | (refine call_if (sameS_at [(findS ([x0, raw].getD (i : Int).toNat default) node num).1, (findS ([x0, raw].getD (i : Int).toNat default) ([s, st].getD (j : Int).toNat default).node ([s, st].getD (j : Int).toNat default).grp).1]) (by first | exact .inl rfl | exact .inr ⟨rfl, rfl⟩) (need_intro ?_ ?_); (conv => whnf))
        | (refine NextVC.mk ((i + 1, ()), b) ?_ ?_ ?_; (conv => whnf))
        | (refine NextVC.mk (j + 1) ?_ ?_ ?_; (conv => whnf))
        | (refine bc_true (by assumption) ?_; (conv => whnf))
        | (refine bc_false (by assumption) ?_; (conv => whnf))
        | (refine bc_intro (fun _ => ?_) (fun _ => ?_) <;> (conv => whnf))
        | (refine need_intro ?_ ?_; (conv => whnf))
        | (refine wk_refl ?_; (conv => whnf))
        | (refine draw_intro (by kernel_rfl) ?_; (conv => whnf))
        | (refine ord_intro (by kernel_rfl) ?_; (conv => whnf))
      all_goals try simp only [decide_eq_true_eq, decide_eq_false_iff_not] at *
      all_goals first
        | exact trivial
        | assumption
        | omega
        | exact DLe.refl _
        | exact DLe.of_eq (by rw [hsi])
        | exact DLe.of_eq (by rw [hsj])
        | exact ⟨by omega, by omega⟩
        | exact ⟨by omega, by assumption⟩
        | exact ⟨hXs, hY⟩
        | exact ⟨hX9, hY⟩
        | exact ⟨⟨rfl, .all (by repeat' first | exact trivial | exact rfl | apply And.intro)⟩, ⟨rfl, .all (by repeat' first | exact trivial | exact rfl | apply And.intro)⟩, stob_two (hfs _ _) (hfs _ _)⟩
        | (exfalso; simp at *; done)
        | trace_state
theorem collectStores_all (dss : List (List D)) (h : All2 (wfT Tryd.prog reachBytes 12) [22, 23, 59, 3, 3] dss) : Sx.Spec Tryd.prog GG 4 (svs Tryd.prog [22, 23, 59, 3, 3] dss) [] (.d (.bool true)) [] := by
  obtain ⟨x, y, z, w, v, rfl, hx, hy, hz, hw, hv⟩ := inv5 h
  obtain ⟨l, h1, h2, h3⟩ := ints_arg hx
  obtain ⟨raw, hraw, g1⟩ := stos_wf (f := 3) hy
  obtain ⟨s, g2⟩ := sto_wf (f := 4) (by decide) hz
  obtain ⟨node, rfl, _⟩ := hw
  obtain ⟨num, rfl, _⟩ := hv
  obtain ⟨_, _, rfl, _⟩ := hx
  obtain ⟨_, _, rfl, _⟩ := hy
  exact (collectStores_law l raw s node num h1 hraw).arg (leL_app h2 (leL_app g1 (LeL.cons (LeS.agg g2) (LeL.refl _))))
theorem collectStores_lifted (os : Os) (started : os.Started) (H : Type) (enc : TypeId × Value → H) :
    ReturnsInHanded {} Tryd.checked os 4 .any (fun w args => (Rows.collectStoresSpec.pre enc Tryd.prog Tryd.f4 [] false w args ∧ laidMetH Tryd.prog laidL w) ∧ sizedMet enc Tryd.prog Tryd.f4 (OpenSpec.ofChange Rows.collectStoresSpec) false w args)
      (Rows.collectStoresSpec.post enc Tryd.prog Tryd.f4 false true false false) := by
  refine returnsInHanded_of_change_and (C := Tryd.checked) (X := fun w _ => laidMetH Tryd.prog laidL w) (fun _ _ _ hh h => h.of_heap hh) own started (by kernel_rfl) Tryd.func4
    (ChangeSpec.witness_shaped (enc := enc) (C := Tryd.checked) (os := os) (X := fun w _ => laidMetH Tryd.prog laidL w) false (World.doorLaid Tryd.prog 400 os) #[.slice none 0 0, .slice none 0 0, .agg #[.int .i64 0, .int .i64 0, .int .i64 0, .string ⟨#[]⟩, .bool false, .string ⟨#[]⟩, .bool false, .int .i64 0, .int .i64 0, .slice none 0 0, .slice none 0 0, .int .i64 0, .int .i64 0, .int .i64 0, .int .i64 0, .int .i64 0, .string ⟨#[]⟩, .bool false, .string ⟨#[]⟩, .bool false, .slice none 0 0, .int .i64 0, .int .i64 0, .int .i64 0, .int .i64 0, .int .i64 0, .string ⟨#[]⟩, .bool false, .string ⟨#[]⟩, .bool false, .slice none 0 0, .int .i64 0, .int .i64 0], .int .i64 0, .int .i64 0] 8 rfl (World.shaped_of_RefB (by kernel_rfl) (by kernel_rfl)) (by kernel_rfl) (by kernel_rfl) (by kernel_rfl) (door_met os _)) ?_
  intro W base args ds gs before hval hW hcnd hsz hL _
  refine law_contract (P := Tryd.prog) (ts := [22, 23, 59, 3, 3]) (bt := 4) (G := GG) laidOut (by rw [Tryd.params4]) (by kernel_rfl) Tryd.underlying4 (by kernel_rfl) rfl ?_ collectStores_all hval hW hsz (gok hL)
  intro ds h
  match ds, h with
  | [_, _, _, _, _], _ => rfl
theorem collectStores_over : Rows.collectStoresRow.holds Tryd.pinned (OpenSpec.ofChange Rows.collectStoresSpec) :=
  OpenClaim.holds_of_wide 4 Tryd.f4 rfl rfl rfl rfl rfl rfl rfl ⟨rfl, rfl, rfl, rfl, rfl⟩ rfl rfl rfl rfl rfl (by kernel_rfl) Tryd.func4 (by kernel_rfl)
    (of_decide_eq_true (by kernel_rfl)) (by unfold Func.isWrapper; first | (rw [if_pos (by decide +kernel)]; kernel_rfl) | (rw [if_neg (by decide +kernel)]; exact ⟨rfl, rfl⟩))
    (fun os started H enc _ => collectStores_lifted os started H enc)
theorem collectStores_plain : ∀ t ∈ [22, 23, 59, 3, 3], Tryd.prog.wantsStandIn t = false := by
  intro t ht
  simp only [List.mem_cons, List.not_mem_nil, or_false] at ht
  rcases ht with rfl | rfl | rfl | rfl | rfl <;> kernel_rfl
theorem collectStores_proved : Rows.CollectStoresCardSaid :=
  Claim7.holds_tied_plain_at .later [] [.data] true (true, "66906a84d04c3a2d89c646eecd6f16b75eda7d321f445f2ddb9410a71b637972") false
    collectStores_over (fun _ h => by cases h) (by kernel_rfl) (fun _ h => by cases h) collectStores_row_tie rfl ⟨rfl, rfl⟩ (by kernel_rfl) rfl
    (fun f fn hf hfn => by
      obtain rfl : f = 4 := Option.some.inj ((show Tryd.prog.funcNamed Rows.collectStoresRow.func = some 4 by kernel_rfl).symm.trans hf) |>.symm
      obtain rfl : fn = Tryd.f4 := (Option.some.inj (Tryd.func4.symm.trans hfn)).symm
      exact ⟨by kernel_rfl, fun j t ht => collectStores_plain t (by
        rw [Tryd.params4] at ht
        exact List.mem_of_getElem? (by simpa using ht))⟩)
    (by kernel_rfl)
#print axioms collectStores_proved
end Go.Proofs.YtcllahjpinbiaaaDoor
