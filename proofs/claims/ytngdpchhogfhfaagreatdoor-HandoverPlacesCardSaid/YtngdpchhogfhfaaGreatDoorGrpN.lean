/- Contracts of functions that the law reaches: YtngdpchhogfhfaaGreatDoorGrpN. Written for this claim. -/
import Derived.Test.YtngdpchhogfhfaaGreatDoorGrpC
import Derived.Test.YtngdpchhogfhfaaGreatDoorSxGrp
namespace Go.Proofs.YtngdpchhogfhfaaGreatDoor
open Go Go.Sx Go.ChangeShapes Go.WideShapes Go.ChangeAt Go.RowKit
set_option linter.unusedVariables false
set_option linter.unusedSimpArgs false
set_option maxRecDepth 100000
set_option maxHeartbeats 2000000 in
theorem newgr_spec (n : Int) (ids : List Int) (c : CopyT) : (Small c ∧ ids.length ≤ 1000) → Sx.Spec Tryz.prog GG 37 [.d (.int .i64 n), .d (encL encI 1 ids), .agg (copyL c)] [] (.tup [.agg (grpL (newG n ids c).1), .d (.int .i64 (newG n ids c).2)]) [] := by
  rintro ⟨hs, hl⟩
  refine spec_intro (E := EE) (fn := Tryz.f37) eok (by kernel_rfl) (by kernel_rfl) Tryz.call37 (by kernel_rfl) (by kernel_rfl) ?_
  have hB0 : (!(numOk n) || (decide (ids.length = 0) || !(validC c))) = true ∨ ids.all numOk = false → newG n ids c = (noGrp, 1) := fun h => newG_bad (by
    simp only [Bool.or_eq_true, Bool.not_eq_true', decide_eq_true_eq] at h
    rcases h with (h | h | h) | h
    · exact .inl h
    · exact .inr (.inl h)
    · exact .inr (.inr (.inl h))
    · exact .inr (.inr (.inr h)))
  have hB1 : (!(numOk n) || (decide (ids.length = 0) || !(validC c))) = false ∧ ids.all numOk = true → numOk n = true ∧ validC c = true ∧ ids.all numOk = true ∧ ids.length ≠ 0 := fun h => by
    simp only [Bool.or_eq_false_iff, Bool.not_eq_false', decide_eq_false_iff_not] at h
    exact ⟨h.1.1, h.1.2.2, h.2, h.1.2.1⟩
  generalize hB : (!(numOk n) || (decide (ids.length = 0) || !(validC c))) = B at hB0 hB1
  conv => whnf
  repeat' first
    | (refine call_intro (numberr_spec _) ?_ (by first | exact .inl rfl | exact .inr ⟨rfl, rfl⟩); (conv => whnf))
    | (refine call_if (validr_spec c) (by first | exact .inl rfl | exact .inr ⟨rfl, rfl⟩) (need_intro ?_ ?_); (conv => whnf))
    | (refine bc_true (by assumption) ?_; (conv => whnf))
    | (refine bc_false (by assumption) ?_; (conv => whnf))
    | (refine bc_intro (fun _ => ?_) (fun _ => ?_) <;> (conv => whnf))
    | (refine need_intro ?_ ?_; (conv => whnf))
    | (refine wk_refl ?_; (conv => whnf))
    | (refine draw_intro (by kernel_rfl) ?_; (conv => whnf))
    | (refine ord_intro (by kernel_rfl) ?_; (conv => whnf))
  all_goals try exact hs
  all_goals try simp only [beq_iff_eq, beq_eq_false_iff_ne, Bool.not_eq_true', Bool.not_eq_false'] at *
  all_goals
    refine loop_auto [0, 1, 5, 6, 7, 27, 28] [5, 6] (fun i : Nat => [(29, .d (.int .i64 i)), (8, .d (.bool (B || !((ids.take i).all numOk))))]) (fun i => []) (fun i => i ≤ ids.length) (fun i => ids.length - i) 0 ?_ (fun i hi => ?_) (by omega)
    · conv => whnf
      repeat' first
        | (refine bc_true (by assumption) ?_; (conv => whnf))
        | (refine bc_false (by assumption) ?_; (conv => whnf))
        | (refine bc_intro (fun _ => ?_) (fun _ => ?_) <;> (conv => whnf))
        | (refine need_intro ?_ ?_; (conv => whnf))
        | (refine wk_refl ?_; (conv => whnf))
        | (refine draw_intro (by kernel_rfl) ?_; (conv => whnf))
        | (refine ord_intro (by kernel_rfl) ?_; (conv => whnf))
      all_goals first
        | exact trivial
        | exact DLe.refl _
        | (refine DLe.of_eq ?_; subst hB; simp [*]; done)
        | (refine DLe.of_eq ?_; subst hB; have h0 : ids.length = 0 := by omega
           simp only [*, decide_true, Bool.true_or, Bool.or_true]; done)
        | (refine DLe.of_eq ?_; subst hB; have h0 : ¬ ids.length = 0 := by omega
           simp only [*, decide_false, Bool.false_or, Bool.or_false, Bool.not_true, List.take_zero, List.all_nil]; done)
        | trace_state
    · have hsi : IntKind.i64.wrap ((i : Int) + 1) = ((i + 1 : Nat) : Int) := wrap_succ (n := 2000) (by omega) (by omega)
      have hst := fun h => all_step (ids := ids) (i := i) h
      rcases Nat.lt_or_eq_of_le hi with hlt | rfl
      · have hlt' : decide ((i : Int) < ((ids.length : Nat) : Int)) = true := decide_eq_true (by omega)
        conv => whnf
        repeat' first
          | (refine call_intro (numberr_spec _) ?_ (by first | exact .inl rfl | exact .inr ⟨rfl, rfl⟩); (conv => whnf))
          | (refine NextVC.mk (i + 1) ?_ ?_ ?_; (conv => whnf))
          | (refine bc_true (by assumption) ?_; (conv => whnf))
          | (refine bc_false (by assumption) ?_; (conv => whnf))
          | (refine bc_intro (fun _ => ?_) (fun _ => ?_) <;> (conv => whnf))
          | (refine need_intro ?_ ?_; (conv => whnf))
          | (refine wk_refl ?_; (conv => whnf))
          | (refine draw_intro (by kernel_rfl) ?_; (conv => whnf))
          | (refine ord_intro (by kernel_rfl) ?_; (conv => whnf))
        all_goals try simp only [Int.toNat_natCast] at *
        all_goals first
          | exact trivial
          | omega
          | exact DLe.refl _
          | exact DLe.of_eq (by rw [hsi])
          | exact ⟨by omega, by omega⟩
          | (refine DLe.of_eq ?_; have h7 : (B || !(List.take i ids).all numOk) = true := by assumption
             rw [hst hlt, Bool.not_and, ← Bool.or_assoc, h7]; rfl)
          | (refine DLe.of_eq ?_; have h7 : (B || !(List.take i ids).all numOk) = false := by assumption
             rw [hst hlt, Bool.not_and, ← Bool.or_assoc, h7, Bool.false_or]; done)
          | trace_state
      · have hlt' : decide (((ids.length : Nat) : Int) < ((ids.length : Nat) : Int)) = false := decide_eq_false (by omega)
        conv => whnf
        repeat' first
          | (refine NextVC.mk 0 ?_ ?_ ?_; (conv => whnf))
          | (refine bc_true (by assumption) ?_; (conv => whnf))
          | (refine bc_false (by assumption) ?_; (conv => whnf))
          | (refine bc_intro (fun _ => ?_) (fun _ => ?_) <;> (conv => whnf))
          | (refine need_intro ?_ ?_; (conv => whnf))
          | (refine wk_refl ?_; (conv => whnf))
          | (refine draw_intro (by kernel_rfl) ?_; (conv => whnf))
          | (refine ord_intro (by kernel_rfl) ?_; (conv => whnf))
        all_goals try simp only [List.take_length, Bool.or_eq_true, Bool.or_eq_false_iff, Bool.not_eq_true', Bool.not_eq_false', decide_eq_true_eq, decide_eq_false_iff_not] at *
        all_goals try
          (rw [hB0 (by assumption)]
           refine ⟨LeS.tup (LeL.cons (LeS.agg (LeL.cons (LeS.refl _) (LeL.cons (LeS.refl _) (LeL.cons (les_nil rfl) LeL.nil)))) (LeL.cons (LeS.refl _) LeL.nil)), trivial⟩
           done)
        all_goals try
          (obtain ⟨g1, g2, g3, g4⟩ := hB1 (by assumption)
           rw [newG_long g1 g2 g3 (by omega)]
           refine ⟨LeS.tup (LeL.cons (LeS.agg (LeL.cons (LeS.refl _) (LeL.cons (LeS.refl _) (LeL.cons (les_nil rfl) LeL.nil)))) (LeL.cons (LeS.refl _) LeL.nil)), trivial⟩
           done)
        obtain ⟨g1, g2, g3, g4⟩ := hB1 (by assumption)
        have g5 : ¬ ids.length > 5 := by omega
        refine loop_auto [0, 1, 5, 6, 7, 11, 48, 49] [5, 6] (fun j : Nat => [(50, .d (.int .i64 j))]) (fun j => [(11, .box [.d (.int .i64 n), .d (.bool true), .osl 500 32 0 (memL' c (ids.take j)).length]), (500, .row 59 32 (memL' c (ids.take j)).length (cellOf encMem (memL' c (ids.take j))))]) (fun j => j ≤ ids.length ∧ dupL ids 0 = dupL ids j) (fun j => ids.length - j) 0 ?_ (fun j hj => ?_) ⟨by omega, rfl⟩
        · conv => whnf
          repeat' first
            | (refine bc_true (by assumption) ?_; (conv => whnf))
            | (refine bc_false (by assumption) ?_; (conv => whnf))
            | (refine bc_intro (fun _ => ?_) (fun _ => ?_) <;> (conv => whnf))
            | (refine need_intro ?_ ?_; (conv => whnf))
            | (refine wk_refl ?_; (conv => whnf))
            | (refine draw_intro (by kernel_rfl) ?_; (conv => whnf))
            | (refine ord_intro (by kernel_rfl) ?_; (conv => whnf))
          all_goals first | exact trivial | exact DLe.refl _ | exact DLe.nil | exact ⟨rfl, rfl⟩ | exact ⟨rfl, rfl, rfl⟩ | exact RowLe.refl _ _ _ | trace_state
        · obtain ⟨hj, hd⟩ := hj
          have hsj : IntKind.i64.wrap ((j : Int) + 1) = ((j + 1 : Nat) : Int) := wrap_succ (n := 2000) (by omega) (by omega)
          have hml : (memL' c (ids.take j)).length = j := by rw [memL_len, List.length_take]; omega
          have hms := fun h => memL_take (c := c) (ids := ids) (j := j) h
          have hds := fun h => dup_step (ids := ids) (j := j) h
          have hde := fun h => dup_end (ids := ids) (j := j) h
          have hix : indexG (memL' c (ids.take j)) (ids.getD j default) 0 < 0 ↔ (ids.take j).contains (ids.getD j default) = false := memL_index0
          conv => whnf
          repeat' first
            | (refine call_if (placeG_spec _ _ (memL' c (ids.take j)) _) (by first | exact .inl rfl | exact .inr ⟨rfl, rfl⟩) (need_intro ?_ ?_); (conv => whnf))
            | (refine NextVC.mk (j + 1) ?_ ?_ ?_; (conv => whnf))
            | (refine bc_true (by assumption) ?_; (conv => whnf))
            | (refine bc_false (by assumption) ?_; (conv => whnf))
            | (refine bc_intro (fun _ => ?_) (fun _ => ?_) <;> (conv => whnf))
            | (refine need_intro ?_ ?_; (conv => whnf))
            | (refine wk_refl ?_; (conv => whnf))
            | (refine draw_intro (by kernel_rfl) ?_; (conv => whnf))
            | (refine ord_intro (by kernel_rfl) ?_; (conv => whnf))
          all_goals try simp only [cellsMem, bytesMem, decide_eq_true_eq, decide_eq_false_iff_not, bne_iff_ne, ne_eq, Decidable.not_not, Bool.not_eq_true', Bool.not_eq_false', bne_eq_false_iff_eq] at *
          all_goals try simp only [Int.toNat_natCast] at *
          all_goals try first
            | exact trivial
            | omega
            | exact DLe.refl _
            | exact DLe.of_eq (by rw [hsj])
            | exact ⟨by omega, by omega⟩
            | exact ⟨⟨trivial, row_zero⟩, by omega⟩
            | exact ⟨⟨rfl, row_zero⟩, by omega⟩
          all_goals first
            | (have h8 : indexG (memL' c (ids.take j)) (ids.getD j default) 0 ≥ 0 := by assumption
               have h9 : (ids.take j).contains (ids.getD j default) = true := by
                 cases h10 : (ids.take j).contains (ids.getD j default) with
                 | true => rfl
                 | false => have := hix.2 h10; omega
               rw [newG_dup g1 g2 g3 g4 g5 (by rw [hd, hds (by omega), h9]; rfl)]
               refine ⟨LeS.tup (LeL.cons (LeS.agg (LeL.cons (LeS.refl _) (LeL.cons (LeS.refl _) (LeL.cons (les_nil rfl) LeL.nil)))) (LeL.cons (LeS.refl _) LeL.nil)), trivial⟩
               done)
            | (have h8 : ¬ indexG (memL' c (ids.take j)) (ids.getD j default) 0 ≥ 0 := by assumption
               have h9 := hix.1 (by omega)
               refine ⟨by omega, ?_⟩
               rw [hd, hds (by omega), h9]; rfl)
            | (rw [hms (by omega), List.length_append, List.length_singleton]
               refine row_snocA (x := (⟨ids.getD j default, true, c⟩ : MemT)) rfl (RowLe.refl _ _ _) ?_
               repeat' first
                 | exact trivial
                 | exact DLe.refl _
                 | apply And.intro
               done)
            | exact ⟨trivial, trivial, by rw [hms (by omega), List.length_append, List.length_singleton]⟩
            | exact ⟨trivial, by omega, by omega⟩
            | (have hjn : j = ids.length := by omega
               subst hjn
               rw [newG_ok g1 g2 g3 g4 g5 (by rw [hd, hde (by omega)]), List.take_length]
               exact ⟨LeS.tup (LeL.cons (LeS.agg (LeL.cons (LeS.refl _) (LeL.cons (LeS.refl _) (LeL.cons (les_own rfl) LeL.nil)))) (LeL.cons (LeS.refl _) LeL.nil)), trivial⟩)
            | trace_state
end Go.Proofs.YtngdpchhogfhfaaGreatDoor
