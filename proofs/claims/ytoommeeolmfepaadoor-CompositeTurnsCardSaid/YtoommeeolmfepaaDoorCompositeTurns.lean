/- The law CompositeTurns: the walk through its code and the claim. -/
import Derived.Test.YtoommeeolmfepaaDoorKLay
import Derived.Test.YtoommeeolmfepaaDoorK14
import Derived.Test.YtoommeeolmfepaaDoorSxCmp
namespace Go.Proofs.YtoommeeolmfepaaDoor
open Go Go.Sx Go.ChangeShapes Go.WideShapes Go.ChangeAt Go.WideMaps Go.WideElems Go.RowKit
set_option linter.unusedVariables false
set_option linter.unusedSimpArgs false
set_option maxRecDepth 100000
theorem encp_r (s : List Col) (l : List Fld) {n : Nat} (hn : n = s.length) : (s.length ≤ 1000 ∧ l.length ≤ 1000 ∧ ∀ f ∈ l, FldB f) → Sx.Spec Tryd.prog GG 21 [.d (.list n 2 fun i j => cellOf encCol s (0 + i) j), .d (encL encFld 3 l)] [] (.tup [.d (.str (encodeS s l).1), .d (.int .i64 (encodeS s l).2)]) [] := fun h =>
  (encp_spec s l h).arg (LeL.cons (les_row hn (RowLe.refl _ _ _)) (LeL.cons (LeS.refl _) LeL.nil))
theorem comparep_r (s : List Col) (a b : List Fld) {n : Nat} (hn : n = s.length) : (s.length ≤ 1000 ∧ a.length ≤ 1000 ∧ b.length ≤ 1000) → Sx.Spec Tryd.prog GG 31 [.d (.list n 2 fun i j => cellOf encCol s (0 + i) j), .d (encL encFld 3 a), .d (encL encFld 3 b)] [] (.d (.int .i64 (compareL s a b))) [] := fun h =>
  (comparep_spec2 s a b h).arg (LeL.cons (les_row hn (RowLe.refl _ _ _)) (LeL.cons (LeS.refl _) (LeL.cons (LeS.refl _) LeL.nil)))
set_option maxHeartbeats 2000000 in
theorem compositeTurns_law (l : List Int) (hl : ∀ x ∈ l, -9223372036854775808 ≤ x ∧ x < 9223372036854775808) : Sx.Spec Tryd.prog GG 8 [.d (encL encI 1 l)] [] (.d (.bool true)) [] := by
  refine spec_intro (E := EL) (fn := Tryd.f8) eokL (by kernel_rfl) (by kernel_rfl) Tryd.call8 (by kernel_rfl) (by kernel_rfl) ?_
  conv => whnf
  repeat' first
    | (refine call_some (new_ex 2000 hl) (fun _ => by first | exact .inl rfl | exact .inr ⟨rfl, rfl⟩) ?_; rintro ⟨tl, ta⟩ hT; (conv => whnf))
    | (refine call_some_if (schema_ex 2000) (fun _ => by first | exact .inl rfl | exact .inr ⟨rfl, rfl⟩) (need_intro ?_ ?_); rintro ⟨s, b⟩ ⟨g1, g2⟩; (conv => whnf))
    | (refine call_some_if (fields_ex 2000) (fun _ => by first | exact .inl rfl | exact .inr ⟨rfl, rfl⟩) (need_intro ?_ ?_); rintro ⟨fs, b⟩ ⟨⟨g3, g4⟩, g5⟩; (conv => whnf))
    | (refine bc_true (by assumption) ?_; (conv => whnf))
    | (refine bc_false (by assumption) ?_; (conv => whnf))
    | (refine need_intro ?_ ?_; (conv => whnf))
    | (refine wk_refl ?_; (conv => whnf))
    | (refine draw_intro (by kernel_rfl) ?_; (conv => whnf))
    | (refine ord_intro (by kernel_rfl) ?_; (conv => whnf))
  · rename_i b1 fa b2 ga5 ga3 ga4
    simp only at g1 g2 g3 g4 g5 ga3 ga4 hT
    have hsl := g1.len
    simp only
    refine loop_auto [3, 4, 5, 6] [2000] (fun k : Nat => [(8, .d (.int .i64 k)), (7, .osl 500 2 0 s.length)]) (fun k => [(500, .row 56 2 s.length (cellOf encCol (turnTo k s)))]) (fun k => k ≤ s.length) (fun k => s.length - k) 0 ?_ (fun k hk => ?_) (by omega)
    · conv => whnf
      repeat' first
        | (refine bc_true (by assumption) ?_; (conv => whnf))
        | (refine bc_false (by assumption) ?_; (conv => whnf))
        | (refine bc_intro (fun _ => ?_) (fun _ => ?_) <;> (conv => whnf))
        | (refine need_intro ?_ ?_; (conv => whnf))
        | (refine wk_refl ?_; (conv => whnf))
        | (refine draw_intro (by kernel_rfl) ?_; (conv => whnf))
        | (refine ord_intro (by kernel_rfl) ?_; (conv => whnf))
      all_goals first
        | exact trivial
        | exact DLe.refl _
        | exact ⟨rfl, cellsC, by omega⟩
        | exact ⟨cellsC, rfl, by omega⟩
        | (rw [turnTo_zero]; exact .of_eq fun i j _ _ => by simp)
        | trace_state
    · have hs : IntKind.i64.wrap ((k : Int) + 1) = ((k + 1 : Nat) : Int) := wrap_succ (n := 2000) (by omega) (by omega)
      conv => whnf
      repeat' first
        | (refine bc_true (by assumption) ?_; (conv => whnf))
        | (refine bc_false (by assumption) ?_; (conv => whnf))
        | (refine need_intro ?_ ?_; (conv => whnf))
        | (refine wk_refl ?_; (conv => whnf))
        | (refine draw_intro (by kernel_rfl) ?_; (conv => whnf))
        | (refine ord_intro (by kernel_rfl) ?_; (conv => whnf))
      refine bc_intro (fun h1 => ?_) (fun h1 => ?_) <;> (conv => whnf)
      · have hk2 : k < s.length := by simp only [decide_eq_true_eq] at h1; omega
        conv => whnf
        repeat' first
          | (refine NextVC.mk (k + 1) ?_ ?_ ?_; (conv => whnf))
          | (refine bc_true (by assumption) ?_; (conv => whnf))
          | (refine bc_false (by assumption) ?_; (conv => whnf))
          | (refine bc_intro (fun _ => ?_) (fun _ => ?_) <;> (conv => whnf))
          | (refine need_intro ?_ ?_; (conv => whnf))
          | (refine wk_refl ?_; (conv => whnf))
          | (refine draw_intro (by kernel_rfl) ?_; (conv => whnf))
          | (refine ord_intro (by kernel_rfl) ?_; (conv => whnf))
        all_goals try simp only [Int.toNat_natCast, true_and, and_true]
        all_goals first
          | exact trivial
          | omega
          | exact DLe.refl _
          | exact RowLe.refl _ _ _
          | exact DLe.of_eq (by rw [hs])
          | exact ⟨by omega, by omega⟩
          | exact row_turnC hk2 rfl
          | trace_state
      · have hk2 : k = s.length := by simp only [decide_eq_false_iff_not] at h1; omega
        subst hk2
        rw [turnTo_all]
        conv => whnf
        repeat' first
          | (refine call_if (encp_spec s _) (by first | exact .inl rfl | exact .inr ⟨rfl, rfl⟩) (need_intro ?_ ?_); (conv => whnf))
          | (refine call_if (encp_r (turnS s) _ turnS_len.symm) (by first | exact .inl rfl | exact .inr ⟨rfl, rfl⟩) (need_intro ?_ ?_); (conv => whnf))
          | (refine call_if (comparep_spec2 s _ _) (by first | exact .inl rfl | exact .inr ⟨rfl, rfl⟩) (need_intro ?_ ?_); (conv => whnf))
          | (refine call_if (comparep_r (turnS s) _ _ turnS_len.symm) (by first | exact .inl rfl | exact .inr ⟨rfl, rfl⟩) (need_intro ?_ ?_); (conv => whnf))
          | (refine call_intro (sane_spec) ?_ (by first | exact .inl rfl | exact .inr ⟨rfl, rfl⟩); (conv => whnf))
          | (refine bc_true (by assumption) ?_; (conv => whnf))
          | (refine bc_false (by assumption) ?_; (conv => whnf))
          | (refine bc_intro (fun _ => ?_) (fun _ => ?_) <;> (conv => whnf))
          | (refine need_intro ?_ ?_; (conv => whnf))
          | (refine wk_refl ?_; (conv => whnf))
          | (refine draw_intro (by kernel_rfl) ?_; (conv => whnf))
          | (refine ord_intro (by kernel_rfl) ?_; (conv => whnf))
        all_goals first
          | exact ⟨LeS.refl _, trivial⟩
          | exact ⟨by omega, by omega, by omega⟩
          | exact ⟨by omega, by omega, ga4.num⟩
          | exact ⟨by rw [turnS_len]; omega, by omega, ga4.num⟩
          | exact ⟨by rw [turnS_len]; omega, by omega, by omega⟩
          | (exfalso
             have t1 := turn_compare (s := s) (a := fa) (b := fs) (by omega)
             have t2 := turn_encode (s := s) (a := fa)
             have t3 := compare_self (s := s) (a := fa)
             simp only [t1, t2.1, t2.2, t3, beq_self_eq_true, Bool.true_eq_false] at *
             done)
          | trace_state
  all_goals first
    | exact ⟨by assumption, g1, by omega, by omega⟩
    | (have hsl := g1.len
       simp only at hsl ⊢
       exact ⟨by omega, by rw [bytesC]; omega, by omega⟩)
    | (have hsl := g1.len
       exact ⟨by omega, by rw [bytesC]; omega, by omega⟩)
    | assumption
    | trace_state
theorem compositeTurns_all (dss : List (List D)) (h : All2 (wfT Tryd.prog reachBytes 12) [22] dss) : Sx.Spec Tryd.prog GG 8 (svs Tryd.prog [22] dss) [] (.d (.bool true)) [] := by
  obtain ⟨x, rfl, hx⟩ := inv1 h
  obtain ⟨l, h1, h2, h3⟩ := ints_arg hx
  obtain ⟨_, _, rfl, _⟩ := hx
  exact (compositeTurns_law l h1).arg h2
theorem compositeTurns_lifted (os : Os) (started : os.Started) (H : Type) (enc : TypeId × Value → H) :
    ReturnsInHanded {} Tryd.checked os 8 .any (fun w args => (Rows.compositeTurnsSpec.pre enc Tryd.prog Tryd.f8 [] false w args ∧ laidMetH Tryd.prog laidL w) ∧ sizedMet enc Tryd.prog Tryd.f8 (OpenSpec.ofChange Rows.compositeTurnsSpec) false w args)
      (Rows.compositeTurnsSpec.post enc Tryd.prog Tryd.f8 false true false false) := by
  refine returnsInHanded_of_change_and (C := Tryd.checked) (X := fun w _ => laidMetH Tryd.prog laidL w) (fun _ _ _ hh h => h.of_heap hh) own started (by kernel_rfl) Tryd.func8
    (ChangeSpec.witness_shaped (enc := enc) (C := Tryd.checked) (os := os) (X := fun w _ => laidMetH Tryd.prog laidL w) false (World.doorLaid Tryd.prog 400 os) #[.slice none 0 0] 8 rfl (World.shaped_of_RefB (by kernel_rfl) (by kernel_rfl)) (by kernel_rfl) (by kernel_rfl) (by kernel_rfl) (door_met os _)) ?_
  intro W base args ds gs before hval hW hcnd hsz hL _
  refine law_contract (P := Tryd.prog) (ts := [22]) (bt := 4) (G := GG) laidOut (by rw [Tryd.params8]) (by kernel_rfl) Tryd.underlying4 (by kernel_rfl) rfl ?_ compositeTurns_all hval hW hsz (gok hL)
  intro ds h
  match ds, h with
  | [_], _ => rfl
theorem compositeTurns_over : Rows.compositeTurnsRow.holds Tryd.pinned (OpenSpec.ofChange Rows.compositeTurnsSpec) :=
  OpenClaim.holds_of_wide 8 Tryd.f8 rfl rfl rfl rfl rfl rfl rfl ⟨rfl, rfl, rfl, rfl, rfl⟩ rfl rfl rfl rfl rfl (by kernel_rfl) Tryd.func8 (by kernel_rfl)
    (of_decide_eq_true (by kernel_rfl)) (by unfold Func.isWrapper; first | (rw [if_pos (by decide +kernel)]; kernel_rfl) | (rw [if_neg (by decide +kernel)]; exact ⟨rfl, rfl⟩))
    (fun os started H enc _ => compositeTurns_lifted os started H enc)
theorem compositeTurns_plain : ∀ t ∈ [22], Tryd.prog.wantsStandIn t = false := by
  intro t ht
  simp only [List.mem_cons, List.not_mem_nil, or_false] at ht
  rcases ht with rfl <;> kernel_rfl
theorem compositeTurns_proved : Rows.CompositeTurnsCardSaid :=
  Claim7.holds_tied_plain_at .later [] [.data] true (true, "0e52a8286e7c94b2c9a14399cff66ddebaac7128c5ef4013cc4fad5231b30964") false
    compositeTurns_over (fun _ h => by cases h) (by kernel_rfl) (fun _ h => by cases h) compositeTurns_row_tie rfl ⟨rfl, rfl⟩ (by kernel_rfl) rfl
    (fun f fn hf hfn => by
      obtain rfl : f = 8 := Option.some.inj ((show Tryd.prog.funcNamed Rows.compositeTurnsRow.func = some 8 by kernel_rfl).symm.trans hf) |>.symm
      obtain rfl : fn = Tryd.f8 := (Option.some.inj (Tryd.func8.symm.trans hfn)).symm
      exact ⟨by kernel_rfl, fun j t ht => compositeTurns_plain t (by
        rw [Tryd.params8] at ht
        exact List.mem_of_getElem? (by simpa using ht))⟩)
    (by kernel_rfl)
#print axioms compositeTurns_proved
end Go.Proofs.YtoommeeolmfepaaDoor
