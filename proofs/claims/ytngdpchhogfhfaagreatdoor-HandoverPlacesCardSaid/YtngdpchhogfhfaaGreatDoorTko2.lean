/- Contracts of functions that the law reaches: YtngdpchhogfhfaaGreatDoorTko2. Written for this claim. -/
import Derived.Test.YtngdpchhogfhfaaGreatDoorTko
import Derived.Test.YtngdpchhogfhfaaGreatDoorSxGrp
namespace Go.Proofs.YtngdpchhogfhfaaGreatDoor
open Go Go.Sx Go.ChangeShapes Go.WideShapes Go.ChangeAt Go.RowKit
set_option linter.unusedVariables false
set_option linter.unusedSimpArgs false
set_option maxRecDepth 100000
theorem stampsr_nil (c : CopyT) : Sx.Spec Tryz.prog GG 97 [.agg (copyL c), .d (.val (.slice none 0 0))] [] (.tup [.agg [.d (.int .i64 (renewF [(c.se, c.sv)]).1), .d (.int .i64 0)], .d (.int .i64 (renewF [(c.se, c.sv)]).2)]) [] :=
  (stampsr_spec c [] (by simp)).arg (LeL.cons (LeS.refl _) (LeL.cons (les_nil rfl) LeL.nil))
theorem cut_cell3 {ms : List MemT} {p i j a b c d : Nat} (hp : p < ms.length) (hi : i + 1 < ms.length) (ha : b < a ↔ i < p) (hc : i < p → c = i) (hd : p ≤ i → d = i + 1) : (if b < a then cellOf encMem ms c j else cellOf encMem ms d j) = cellOf encMem (ms.take p ++ ms.drop (p + 1)) i j := by
  simp only [cellOf]
  rw [getD_cutM hp hi]
  split
  · rename_i h; rw [if_pos (ha.1 h), hc (ha.1 h)]
  · rename_i h
    have h1 : ¬ i < p := fun h2 => h (ha.2 h2)
    rw [if_neg h1, hd (by omega)]
set_option maxHeartbeats 2000000 in
theorem taker_spec (g : GrpT) : GrpB 1000 g → Sx.Spec Tryz.prog GG 59 [.agg (grpL g)] [] (.tup [.agg (grpL (takeG g).1), .d (.int .i64 (takeG g).2)]) [] := by
  intro h
  have hl := h.len
  have hn := fun hi => heir_nat (ms := g.mem) hi
  have hst0 := fun h => heir_step (ms := g.mem) (i := 0) h
  refine spec_intro (E := EL) (fn := Tryz.f59) eokL (by kernel_rfl) (by kernel_rfl) Tryz.call59 (by kernel_rfl) (by kernel_rfl) ?_
  conv => whnf
  repeat' first
    | (refine call_if (candr_spec g) (by first | exact .inl rfl | exact .inr ⟨rfl, rfl⟩) (need_intro ?_ ?_); (conv => whnf))
    | (refine bc_true (by assumption) ?_; (conv => whnf))
    | (refine bc_false (by assumption) ?_; (conv => whnf))
    | (refine bc_intro (fun _ => ?_) (fun _ => ?_) <;> (conv => whnf))
    | (refine need_intro ?_ ?_; (conv => whnf))
    | (refine wk_refl ?_; (conv => whnf))
    | (refine draw_intro (by kernel_rfl) ?_; (conv => whnf))
    | (refine ord_intro (by kernel_rfl) ?_; (conv => whnf))
  all_goals try simp only [cellsMem, bytesMem, decide_eq_true_eq, decide_eq_false_iff_not, bne_iff_ne, ne_eq, Decidable.not_not, Bool.not_eq_true', Bool.not_eq_false', bne_eq_false_iff_eq] at *
  all_goals try simp only [Int.toNat_zero, beq_iff_eq, beq_eq_false_iff_ne, ne_eq] at *
  all_goals try first
    | exact hl
    | exact ⟨Int.le_refl 0, by omega⟩
    | (rw [take_state (.inl (by omega))]
       exact ⟨LeS.tup (LeL.cons (LeS.agg (LeL.cons (LeS.refl _) (LeL.cons (LeS.refl _) (LeL.cons (les_nil rfl) LeL.nil)))) (LeL.cons (LeS.refl _) LeL.nil)), trivial⟩)
    | (rw [take_state (.inr (by rw [hst0 (by omega), if_pos (by assumption)]; rfl))]
       exact ⟨LeS.tup (LeL.cons (LeS.agg (LeL.cons (LeS.refl _) (LeL.cons (LeS.refl _) (LeL.cons (les_nil rfl) LeL.nil)))) (LeL.cons (LeS.refl _) LeL.nil)), trivial⟩)
  all_goals
    have hl0 : 0 < g.mem.length := by omega
    have hu0 : (g.mem.getD 0 default).up = false := by assumption
    have h00 : heirG g.mem 0 ≠ 0 := fun e => by
      have h1 := hn (by omega)
      rw [e] at h1
      simp only [Int.toNat_zero] at h1
      rw [hu0] at h1
      exact absurd h1.2.2.1 (by simp)
  all_goals try
    (have hcf : (candG g).2 = false := by assumption
     have h1 : heirG g.mem 0 < 1 := by
       by_cases h2 : heirG g.mem 0 < 1
       · exact h2
       · rw [cand_yes h2] at hcf; cases hcf
     rw [take_lost (by omega) (by omega)]
     exact ⟨LeS.tup (LeL.cons (LeS.agg (LeL.cons (LeS.refl _) (LeL.cons (LeS.refl _) (LeL.cons (les_nil rfl) LeL.nil)))) (LeL.cons (LeS.refl _) LeL.nil)), trivial⟩)
  have hct : (candG g).2 = true := by assumption
  have h1 : ¬ heirG g.mem 0 < 1 := fun h2 => by rw [cand_no h2] at hct; cases hct
  obtain ⟨n1, n2, n3, n4⟩ := hn (by omega)
  have hcid : (candG g).1 = (g.mem.getD (heirG g.mem 0).toNat default).id := by rw [cand_yes h1]
  have hw : IntKind.i64.wrap (heirG g.mem 0 + 1) = heirG g.mem 0 + 1 := wrap_of (by omega) (by omega)
  refine loop_auto [1, 2, 3, 4, 5] [1, 2] (fun i : Nat => [(6, .d (.int .i64 i))]) (fun i => []) (fun i => (i : Int) ≤ heirG g.mem 0) (fun i => g.mem.length - i) 0 ?_ (fun i hi => ?_) (by omega)
  · conv => whnf
    repeat' first
      | (refine bc_true (by assumption) ?_; (conv => whnf))
      | (refine bc_false (by assumption) ?_; (conv => whnf))
      | (refine bc_intro (fun _ => ?_) (fun _ => ?_) <;> (conv => whnf))
      | (refine need_intro ?_ ?_; (conv => whnf))
      | (refine wk_refl ?_; (conv => whnf))
      | (refine draw_intro (by kernel_rfl) ?_; (conv => whnf))
      | (refine ord_intro (by kernel_rfl) ?_; (conv => whnf))
    all_goals first | exact trivial | exact DLe.refl _ | trace_state
  · have hs : IntKind.i64.wrap ((i : Int) + 1) = ((i + 1 : Nat) : Int) := wrap_succ (n := 2000) (by omega) (by omega)
    by_cases hlt : i < (heirG g.mem 0).toNat
    · have hd := n4 i hlt
      conv => whnf
      repeat' first
        | (refine NextVC.mk (i + 1) ?_ ?_ ?_; (conv => whnf))
        | (refine bc_true (by assumption) ?_; (conv => whnf))
        | (refine bc_false (by assumption) ?_; (conv => whnf))
        | (refine bc_intro (fun _ => ?_) (fun _ => ?_) <;> (conv => whnf))
        | (refine need_intro ?_ ?_; (conv => whnf))
        | (refine wk_refl ?_; (conv => whnf))
        | (refine draw_intro (by kernel_rfl) ?_; (conv => whnf))
        | (refine ord_intro (by kernel_rfl) ?_; (conv => whnf))
      all_goals try simp only [cellsMem, bytesMem, decide_eq_true_eq, decide_eq_false_iff_not, bne_iff_ne, ne_eq, Decidable.not_not, Bool.not_eq_true', Bool.not_eq_false', bne_eq_false_iff_eq] at *
      all_goals try simp only [Int.toNat_natCast] at *
      all_goals first
        | exact trivial
        | omega
        | exact DLe.refl _
        | exact DLe.of_eq (by rw [hs])
        | exact ⟨by omega, by omega⟩
        | (exfalso
           have h9 : (g.mem.getD i default).up = true := by assumption
           rw [hd] at h9
           cases h9)
        | trace_state
    · have hi2 : i = (heirG g.mem 0).toNat := by omega
      subst hi2
      conv => whnf
      repeat' first
        | (refine call_intro (stampsr_nil (g.mem.getD (heirG g.mem 0).toNat default).copy) ?_ (by first | exact .inl rfl | exact .inr ⟨rfl, rfl⟩); (conv => whnf))
        | (refine bc_true (by assumption) ?_; (conv => whnf))
        | (refine bc_false (by assumption) ?_; (conv => whnf))
        | (refine bc_intro (fun _ => ?_) (fun _ => ?_) <;> (conv => whnf))
        | (refine need_intro ?_ ?_; (conv => whnf))
        | (refine wk_refl ?_; (conv => whnf))
        | (refine draw_intro (by kernel_rfl) ?_; (conv => whnf))
        | (refine ord_intro (by kernel_rfl) ?_; (conv => whnf))
      all_goals try simp only [cellsMem, bytesMem, decide_eq_true_eq, decide_eq_false_iff_not, bne_iff_ne, ne_eq, Decidable.not_not, Bool.not_eq_true', Bool.not_eq_false', bne_eq_false_iff_eq] at *
      all_goals try simp only [Int.toNat_natCast, beq_iff_eq, beq_eq_false_iff_ne, ne_eq] at *
      all_goals try
        (exfalso
         have h9 : ¬ (g.mem.getD (heirG g.mem 0).toNat default).id = (candG g).1 := by assumption
         exact h9 hcid.symm)
      all_goals try
        (exfalso
         have h9 : (g.mem.getD (heirG g.mem 0).toNat default).up = false := by assumption
         rw [n3] at h9
         cases h9)
      all_goals try first
        | exact ⟨by omega, by omega⟩
        | (simp only [Option.getD_some, Option.getD_none]; exact ⟨by omega, by omega, by omega⟩)
        | (simp only [Option.getD_some, Option.getD_none]; exact ⟨trivial, by omega, by omega⟩)
        | (rw [take_full (by omega) (by omega) (by assumption)]
           exact ⟨LeS.tup (LeL.cons (LeS.agg (LeL.cons (LeS.refl _) (LeL.cons (LeS.refl _) (LeL.cons (les_nil rfl) LeL.nil)))) (LeL.cons (LeS.refl _) LeL.nil)), trivial⟩)
      all_goals
        rw [take_ok (by omega) (by omega) (by assumption)]
        have hlen : (takenL g.mem (heirG g.mem 0).toNat (renewF [((g.mem.getD (heirG g.mem 0).toNat default).copy.se, (g.mem.getD (heirG g.mem 0).toNat default).copy.sv)]).1).length = g.mem.length := by
          simp only [takenL, List.length_cons, List.length_append, List.length_take, List.length_drop]; omega
        refine ⟨LeS.tup (LeL.cons (LeS.agg (LeL.cons (LeS.refl _) (LeL.cons (LeS.refl _) (LeL.cons (LeS.d (DLe.rows ?_ (.of_eq fun i j hi hj => ?_))) LeL.nil)))) (LeL.cons (LeS.refl _) LeL.nil)), trivial⟩
        · simp only [Option.getD_some, Option.getD_none]
          rw [hlen]; omega
        · rw [hlen] at hi
          match i, hi with
          | 0, _ =>
            rw [if_pos (by simp only [Option.getD_some, Option.getD_none]; omega), if_pos (by omega)]
            revert j
            refine AllLt.out ?_
            repeat' first
              | exact trivial
              | exact rfl
              | apply And.intro
          | i + 1, hi =>
            rw [show (if 0 + (i + 1) < 1 then _ else _) = _ from if_neg (by omega)]
            exact cut_cell3 (p := (heirG g.mem 0).toNat) n1 hi (by simp only [Option.getD_some, Option.getD_none]; omega) (by intro _; simp only [Option.getD_none]; omega) (by intro _; simp only [Option.getD_some, Option.getD_none]; omega)
end Go.Proofs.YtngdpchhogfhfaaGreatDoor
