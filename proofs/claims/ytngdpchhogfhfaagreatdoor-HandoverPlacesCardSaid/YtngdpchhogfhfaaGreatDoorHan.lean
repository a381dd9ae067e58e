/- Contracts of functions that the law reaches: YtngdpchhogfhfaaGreatDoorHan. Written for this claim. -/
import Derived.Test.YtngdpchhogfhfaaGreatDoorNet
import Derived.Test.YtngdpchhogfhfaaGreatDoorSxHan
namespace Go.Proofs.YtngdpchhogfhfaaGreatDoor
open Go Go.Sx Go.ChangeShapes Go.WideShapes Go.ChangeAt Go.RowKit
set_option linter.unusedVariables false
set_option linter.unusedSimpArgs false
set_option maxRecDepth 100000
theorem cellsCopy : Tryz.prog.cellsOf 57 = 30 := by kernel_rfl
theorem bytesCopy : Tryz.prog.bytesOf 57 = 352 := by kernel_rfl
theorem cop_at {l : List GrpT} {i : Nat} (h : i < l.length) (hall : (l.take i).all (fun g => (ownerG g).2) = true) (ho : (ownerG (l.getD i default)).2 = true) : (l.take (i + 1)).all (fun g => (ownerG g).2) = true ∧ (l.take (i + 1)).map (fun g => (ownerG g).1.copy) = (l.take i).map (fun g => (ownerG g).1.copy) ++ [(ownerG (l.getD i default)).1.copy] := by
  rw [take_succ' h, List.all_append, hall, List.map_append]
  exact ⟨by simp only [Bool.true_and, List.all_cons, List.all_nil, Bool.and_true]; exact ho, rfl⟩
theorem cop_no {l : List GrpT} {i : Nat} (h : i < l.length) (ho : (ownerG (l.getD i default)).2 = false) : copiesG l = ([], false) := by
  rw [copiesG, if_neg]
  intro h2
  have := List.all_eq_true.1 h2 _ (getD_mem h)
  rw [ho] at this; cases this
theorem cop_yes {l : List GrpT} (h : l.all (fun g => (ownerG g).2) = true) : copiesG l = (l.map fun g => (ownerG g).1.copy, true) := by
  rw [copiesG, if_pos h]
def CopsL (l : List GrpT) (i : Nat) : List CopyT := (l.take i).map fun g => (ownerG g).1.copy
theorem cops_len {l : List GrpT} {i : Nat} (h : i ≤ l.length) : (CopsL l i).length = i := by simp [CopsL]; omega
theorem copies0 (l : List GrpT) : NetB l → Sx.Spec Tryz.prog GG 44 [.d (encL encGrp 3 l)] [] (.tup [.d (encL encCopy 30 (copiesG l).1), .d (.bool (copiesG l).2)]) [] := by
  intro h
  have hl := h.len
  refine spec_intro (E := EE) (fn := Tryz.f44) eok (by kernel_rfl) (by kernel_rfl) Tryz.call44 (by kernel_rfl) (by kernel_rfl) ?_
  conv => whnf
  repeat' first
    | (refine bc_true (by assumption) ?_; (conv => whnf))
    | (refine bc_false (by assumption) ?_; (conv => whnf))
    | (refine need_intro ?_ ?_; (conv => whnf))
    | (refine wk_refl ?_; (conv => whnf))
    | (refine draw_intro (by kernel_rfl) ?_; (conv => whnf))
    | (refine ord_intro (by kernel_rfl) ?_; (conv => whnf))
  refine loop_auto [2, 3, 9, 10] [] (fun i : Nat => [(11, .d (.int .i64 i)), (4, .osl 500 30 0 (CopsL l i).length)]) (fun i => [(500, .row 57 30 (CopsL l i).length (cellOf encCopy (CopsL l i)))]) (fun i => i ≤ l.length ∧ (l.take i).all (fun g => (ownerG g).2) = true) (fun i => l.length - i) 0 ?_ (fun i hi => ?_) ⟨by omega, rfl⟩
  · conv => whnf
    repeat' first
      | (refine bc_true (by assumption) ?_; (conv => whnf))
      | (refine bc_false (by assumption) ?_; (conv => whnf))
      | (refine bc_intro (fun _ => ?_) (fun _ => ?_) <;> (conv => whnf))
      | (refine need_intro ?_ ?_; (conv => whnf))
      | (refine wk_refl ?_; (conv => whnf))
      | (refine draw_intro (by kernel_rfl) ?_; (conv => whnf))
      | (refine ord_intro (by kernel_rfl) ?_; (conv => whnf))
    all_goals first | exact trivial | exact DLe.refl _ | exact DLe.nil | exact RowLe.refl _ _ _ | exact ⟨rfl, rfl⟩ | exact ⟨rfl, rfl, rfl⟩ | trace_state
  · obtain ⟨hi, hall⟩ := hi
    have hs : IntKind.i64.wrap ((i : Int) + 1) = ((i + 1 : Nat) : Int) := wrap_succ (n := 2000000) (by omega) (by omega)
    have hg := net_at h i
    have hcl := cops_len hi
    have hy := fun h ho => cop_at (l := l) (i := i) h hall ho
    have hn := fun h ho => cop_no (l := l) (i := i) h ho
    have hlen : i < l.length → (CopsL l (i + 1)).length = i + 1 := fun h => cops_len (by omega)
    conv => whnf
    repeat' first
      | (refine call_if (owner_spec (l.getD i default)) (by first | exact .inl rfl | exact .inr ⟨rfl, rfl⟩) (need_intro ?_ ?_); (conv => whnf))
      | (refine NextVC.mk (i + 1) ?_ ?_ ?_; (conv => whnf))
      | (refine bc_true (by assumption) ?_; (conv => whnf))
      | (refine bc_false (by assumption) ?_; (conv => whnf))
      | (refine bc_intro (fun _ => ?_) (fun _ => ?_) <;> (conv => whnf))
      | (refine need_intro ?_ ?_; (conv => whnf))
      | (refine wk_refl ?_; (conv => whnf))
      | (refine draw_intro (by kernel_rfl) ?_; (conv => whnf))
      | (refine ord_intro (by kernel_rfl) ?_; (conv => whnf))
    all_goals try simp only [decide_eq_true_eq, decide_eq_false_iff_not, Bool.not_eq_true', Bool.not_eq_false', Int.toNat_natCast, cellsCopy, bytesCopy, true_and, and_true] at *
    all_goals first
      | exact trivial
      | omega
      | exact hg
      | exact DLe.refl _
      | exact DLe.of_eq (by rw [hs])
      | exact ⟨by omega, by omega⟩
      | exact ⟨trivial, by omega, by omega⟩
      | exact ⟨by omega, (hy (by omega) (by assumption)).1⟩
      | (rw [hlen (by omega), hcl]; done)
      | (unfold CopsL at *
         rw [(hy (by omega) (by assumption)).2, List.length_append, List.length_singleton]
         exact row_snoc rfl (RowLe.refl _ _ _) (fun j _ => DLe.refl _))
      | (rw [hn (by omega) (by assumption)]
         exact ⟨LeS.tup (LeL.cons (les_nil rfl) (LeL.cons (LeS.refl _) LeL.nil)), trivial⟩)
      | (have e : i = l.length := by omega
         subst e
         rw [List.take_length] at hall
         rw [cop_yes hall]
         refine ⟨LeS.tup (LeL.cons (les_own (by unfold CopsL; rw [List.take_length])) (LeL.cons (LeS.refl _) LeL.nil)), trivial⟩)
      | trace_state
theorem copies_at (l : List GrpT) {n : Nat} {g : Nat → Nat → D} : ((n = l.length ∧ RowLe n 3 g (cellOf encGrp l)) ∧ NetB l) → Sx.Spec Tryz.prog GG 44 [.d (.list n 3 g)] [] (.tup [.d (encL encCopy 30 (copiesG l).1), .d (.bool (copiesG l).2)]) [] := fun ⟨⟨e, hr⟩, h⟩ => by
  subst e
  exact (copies0 l h).arg (LeL.cons (LeS.d (DLe.rows rfl hr)) LeL.nil)
theorem copies_no1 {f : GrpT} (h : (ownerG f).2 = false) : copiesG [f] = ([], false) := by simp [copiesG, h]
theorem copies_ok1 {f : GrpT} (h : (ownerG f).2 = true) : copiesG [f] = ([(ownerG f).1.copy], true) := by simp [copiesG, h]
theorem copies_no2 {f t : GrpT} (h : bothG f t = false) : copiesG [f, t] = ([], false) := by
  simp only [bothG] at h
  simp [copiesG, h]
theorem copies_ok2 {f t : GrpT} (h : bothG f t = true) : copiesG [f, t] = ([(ownerG f).1.copy, (ownerG t).1.copy], true) := by
  simp only [bothG] at h
  simp [copiesG, h]
theorem net_one {f : GrpT} (h : GrpB 1000 f) : NetB [f] := ⟨by simp, by simpa using h⟩
theorem net_two {f t : GrpT} (h : GrpB 1000 f) (h2 : GrpB 1000 t) : NetB [f, t] := ⟨by simp, by simp [h, h2]⟩
theorem own_small {f : GrpT} (h : GrpB 1000 f) : Small (ownerG f).1.copy := owner_small h
theorem changep_nil (g : GrpT) (c : CopyT) : (GrpB 1000 g ∧ Small c) → Sx.Spec Tryz.prog GG 55 [.agg (grpL g), .agg (copyL c), .d (.val (.slice none 0 0))] [] (.tup [.agg (grpL (changeG g c []).1), .d (.int .i64 (changeG g c []).2)]) [] := fun ⟨h1, h2⟩ =>
  (changep_spec g c [] ⟨h1, h2, by simp⟩).arg (LeL.cons (LeS.refl _) (LeL.cons (LeS.refl _) (LeL.cons (LeS.d DLe.nil) LeL.nil)))
theorem cp1_no {f : GrpT} (ho : (ownerG f).2 = false) {n : Nat} {g : Nat → Nat → D} : ((n = 1 ∧ RowLe n 3 g (cellOf encGrp [f])) ∧ NetB [f]) → Sx.Spec Tryz.prog GG 44 [.d (.list n 3 g)] [] (.tup [.d (encL encCopy 30 []), .d (.bool false)]) [] := fun h => by
  have := copies_at [f] h
  rwa [copies_no1 ho] at this
theorem cp1_ok {f : GrpT} (ho : (ownerG f).2 = true) {n : Nat} {g : Nat → Nat → D} : ((n = 1 ∧ RowLe n 3 g (cellOf encGrp [f])) ∧ NetB [f]) → Sx.Spec Tryz.prog GG 44 [.d (.list n 3 g)] [] (.tup [.d (encL encCopy 30 [(ownerG f).1.copy]), .d (.bool true)]) [] := fun h => by
  have := copies_at [f] h
  rwa [copies_ok1 ho] at this
theorem cp2_no {f t : GrpT} (ho : bothG f t = false) {n : Nat} {g : Nat → Nat → D} : ((n = 2 ∧ RowLe n 3 g (cellOf encGrp [f, t])) ∧ NetB [f, t]) → Sx.Spec Tryz.prog GG 44 [.d (.list n 3 g)] [] (.tup [.d (encL encCopy 30 []), .d (.bool false)]) [] := fun h => by
  have := copies_at [f, t] h
  rwa [copies_no2 ho] at this
theorem cp2_ok {f t : GrpT} (ho : bothG f t = true) {n : Nat} {g : Nat → Nat → D} : ((n = 2 ∧ RowLe n 3 g (cellOf encGrp [f, t])) ∧ NetB [f, t]) → Sx.Spec Tryz.prog GG 44 [.d (.list n 3 g)] [] (.tup [.d (encL encCopy 30 [(ownerG f).1.copy, (ownerG t).1.copy]), .d (.bool true)]) [] := fun h => by
  have := copies_at [f, t] h
  rwa [copies_ok2 ho] at this
theorem row_g1 {f : GrpT} {z : Nat → Nat → D} : RowLe 1 3 (tabF z [(0, [.int .i64 f.num, .bool f.opn, encL encMem 32 f.mem])]) (cellOf encGrp [f]) := row_one (x := f) (jlt3 (DLe.of_eq rfl) (DLe.of_eq rfl) (DLe.of_eq rfl))
theorem row_g2 {f t : GrpT} {z : Nat → Nat → D} : RowLe 2 3 (tabF z [(0, [.int .i64 f.num, .bool f.opn, encL encMem 32 f.mem]), (1, [.int .i64 t.num, .bool t.opn, encL encMem 32 t.mem])]) (cellOf encGrp [f, t]) := by
  refine .of_eq fun i j hi hj => ?_
  match i, hi, j, hj with
  | 0, _, 0, _ => rfl
  | 0, _, 1, _ => rfl
  | 0, _, 2, _ => rfl
  | 1, _, 0, _ => rfl
  | 1, _, 1, _ => rfl
  | 1, _, 2, _ => rfl
end Go.Proofs.YtngdpchhogfhfaaGreatDoor

namespace Go.Proofs.YtngdpchhogfhfaaGreatDoor
open Go Go.Sx Go.ChangeShapes Go.WideShapes Go.ChangeAt Go.RowKit
set_option linter.unusedVariables false
set_option linter.unusedSimpArgs false
set_option maxRecDepth 100000
section
variable {f : GrpT} {bk : List UInt8} {bt : Bool} {side ser to_ : Int}
theorem freeze_down (h : (ownerG f).2 = false) : freezeG f bk bt side ser to_ = (noGrp, 14) := by rw [freezeG, if_pos h]
theorem freeze_shut (h : (ownerG f).2 = true) (h2 : f.opn = false) : freezeG f bk bt side ser to_ = (noGrp, 7) := by rw [freezeG, if_neg (by rw [h]; simp), if_pos h2]
theorem freeze_err (h : (ownerG f).2 = true) (h2 : f.opn = true) (h3 : ¬ (detachC (ownerG f).1.copy bk bt side ser f.num to_).2 = 0) : freezeG f bk bt side ser to_ = (noGrp, (detachC (ownerG f).1.copy bk bt side ser f.num to_).2) := by
  rw [freezeG, if_neg (by rw [h]; simp), if_neg (by rw [h2]; simp), if_pos h3]
theorem freeze_ok (h : (ownerG f).2 = true) (h2 : f.opn = true) (h3 : (detachC (ownerG f).1.copy bk bt side ser f.num to_).2 = 0) : freezeG f bk bt side ser to_ = changeG f (detachC (ownerG f).1.copy bk bt side ser f.num to_).1 [] := by
  rw [freezeG, if_neg (by rw [h]; simp), if_neg (by rw [h2]; simp), if_neg (by rw [h3]; simp)]
end
set_option maxHeartbeats 2000000 in
theorem freezep_spec (f : GrpT) (bk : List UInt8) (bt : Bool) (side ser to_ : Int) : GrpB 1000 f → Sx.Spec Tryz.prog GG 19 [.agg (grpL f), .agg [.d (.str bk), .d (.bool bt)], .d (.int .i64 side), .d (.int .i64 ser), .d (.int .i64 to_)] [] (.tup [.agg (grpL (freezeG f bk bt side ser to_).1), .d (.int .i64 (freezeG f bk bt side ser to_).2)]) [] := by
  intro h
  have hN := net_one h
  have hS := own_small h
  have hD := det_small (bk := bk) (bt := bt) (side := side) (ser := ser) (frm := f.num) (to_ := to_) hS
  cases ho : (ownerG f).2 with
  | false =>
    refine spec_intro (E := EE) (fn := Tryz.f19) eok (by kernel_rfl) (by kernel_rfl) Tryz.call19 (by kernel_rfl) (by kernel_rfl) ?_
    conv => whnf
    repeat' first
      | (refine call_if (cp1_no ho) (by first | exact .inl rfl | exact .inr ⟨rfl, rfl⟩) (need_intro ?_ ?_); (conv => whnf))
      | (refine bc_true (by assumption) ?_; (conv => whnf))
      | (refine bc_false (by assumption) ?_; (conv => whnf))
      | (refine bc_intro (fun _ => ?_) (fun _ => ?_) <;> (conv => whnf))
      | (refine need_intro ?_ ?_; (conv => whnf))
      | (refine wk_refl ?_; (conv => whnf))
      | (refine draw_intro (by kernel_rfl) ?_; (conv => whnf))
      | (refine ord_intro (by kernel_rfl) ?_; (conv => whnf))
    all_goals try simp only [cellsMem, bytesMem, decide_eq_true_eq, decide_eq_false_iff_not, bne_iff_ne, ne_eq, Decidable.not_not, Bool.not_eq_true', Bool.not_eq_false', bne_eq_false_iff_eq] at *
    all_goals first
      | exact ⟨⟨trivial, row_g1⟩, hN⟩
      | exact ⟨by omega, by simp⟩
      | (rw [freeze_down ho]
         (refine ⟨LeS.tup (LeL.cons (LeS.agg ?_) (LeL.cons (LeS.refl _) LeL.nil)), trivial⟩
          repeat' first
            | exact LeL.nil
            | refine LeL.cons ?_ ?_
          all_goals first
            | exact LeS.refl _
            | exact les_own rfl
            | exact les_nil rfl)
         done)
      | (exfalso; simp at *; done)
      | trace_state
  | true =>
    refine spec_intro (E := EE) (fn := Tryz.f19) eok (by kernel_rfl) (by kernel_rfl) Tryz.call19 (by kernel_rfl) (by kernel_rfl) ?_
    conv => whnf
    repeat' first
      | (refine call_if (cp1_ok ho) (by first | exact .inl rfl | exact .inr ⟨rfl, rfl⟩) (need_intro ?_ ?_); (conv => whnf))
      | (refine call_if (detachp_spec (ownerG f).1.copy bk bt side ser f.num to_) (by first | exact .inl rfl | exact .inr ⟨rfl, rfl⟩) (need_intro ?_ ?_); (conv => whnf))
      | (refine call_if (changep_nil f _) (by first | exact .inl rfl | exact .inr ⟨rfl, rfl⟩) (need_intro ?_ ?_); (conv => whnf))
      | (refine bc_true (by assumption) ?_; (conv => whnf))
      | (refine bc_false (by assumption) ?_; (conv => whnf))
      | (refine bc_intro (fun _ => ?_) (fun _ => ?_) <;> (conv => whnf))
      | (refine need_intro ?_ ?_; (conv => whnf))
      | (refine wk_refl ?_; (conv => whnf))
      | (refine draw_intro (by kernel_rfl) ?_; (conv => whnf))
      | (refine ord_intro (by kernel_rfl) ?_; (conv => whnf))
    all_goals try simp only [cellsMem, bytesMem, decide_eq_true_eq, decide_eq_false_iff_not, bne_iff_ne, ne_eq, Decidable.not_not, Bool.not_eq_true', Bool.not_eq_false', bne_eq_false_iff_eq] at *
    all_goals first
      | exact ⟨⟨trivial, row_g1⟩, hN⟩
      | exact ⟨by omega, by simp⟩
      | exact hS
      | exact ⟨h, hD⟩
      | omega
      | (rw [freeze_shut ho (by assumption)]
         (refine ⟨LeS.tup (LeL.cons (LeS.agg ?_) (LeL.cons (LeS.refl _) LeL.nil)), trivial⟩
          repeat' first
            | exact LeL.nil
            | refine LeL.cons ?_ ?_
          all_goals first
            | exact LeS.refl _
            | exact les_own rfl
            | exact les_nil rfl)
         done)
      | (rw [freeze_err ho (by assumption) (by assumption)]
         (refine ⟨LeS.tup (LeL.cons (LeS.agg ?_) (LeL.cons (LeS.refl _) LeL.nil)), trivial⟩
          repeat' first
            | exact LeL.nil
            | refine LeL.cons ?_ ?_
          all_goals first
            | exact LeS.refl _
            | exact les_own rfl
            | exact les_nil rfl)
         done)
      | (rw [freeze_ok ho (by assumption) (by assumption)]
         (refine ⟨LeS.tup (LeL.cons (LeS.agg ?_) (LeL.cons (LeS.refl _) LeL.nil)), trivial⟩
          repeat' first
            | exact LeL.nil
            | refine LeL.cons ?_ ?_
          all_goals first
            | exact LeS.refl _
            | exact les_own rfl
            | exact les_nil rfl)
         done)
      | (exfalso; simp at *; done)
      | trace_state
set_option maxHeartbeats 2000000 in
theorem deliverp_spec (f t : GrpT) : (GrpB 1000 f ∧ GrpB 1000 t) → Sx.Spec Tryz.prog GG 20 [.agg (grpL f), .agg (grpL t)] [] (.tup [.agg (grpL (deliverG f t).1), .d (.int .i64 (deliverG f t).2)]) [] := by
  rintro ⟨h, h2⟩
  have hN := net_two h h2
  have hS := own_small h
  have hS2 := own_small h2
  have hD : Small { (ownerG t).1.copy with inn := (ownerG f).1.copy.out } := ⟨hS2.1, hS2.2.1, hS2.2.2.1, hS.2.2.1⟩
  cases ho : bothG f t with
  | false =>
    refine spec_intro (E := EE) (fn := Tryz.f20) eok (by kernel_rfl) (by kernel_rfl) Tryz.call20 (by kernel_rfl) (by kernel_rfl) ?_
    conv => whnf
    repeat' first
      | (refine call_if (cp2_no ho) (by first | exact .inl rfl | exact .inr ⟨rfl, rfl⟩) (need_intro ?_ ?_); (conv => whnf))
      | (refine bc_true (by assumption) ?_; (conv => whnf))
      | (refine bc_false (by assumption) ?_; (conv => whnf))
      | (refine bc_intro (fun _ => ?_) (fun _ => ?_) <;> (conv => whnf))
      | (refine need_intro ?_ ?_; (conv => whnf))
      | (refine wk_refl ?_; (conv => whnf))
      | (refine draw_intro (by kernel_rfl) ?_; (conv => whnf))
      | (refine ord_intro (by kernel_rfl) ?_; (conv => whnf))
    all_goals try simp only [cellsMem, bytesMem, decide_eq_true_eq, decide_eq_false_iff_not, bne_iff_ne, ne_eq, Decidable.not_not, Bool.not_eq_true', Bool.not_eq_false', bne_eq_false_iff_eq] at *
    all_goals first
      | exact ⟨⟨trivial, row_g2⟩, hN⟩
      | (rw [deliver_down ho]
         (refine ⟨LeS.tup (LeL.cons (LeS.agg ?_) (LeL.cons (LeS.refl _) LeL.nil)), trivial⟩
          repeat' first
            | exact LeL.nil
            | refine LeL.cons ?_ ?_
          all_goals first
            | exact LeS.refl _
            | exact les_own rfl
            | exact les_nil rfl)
         done)
      | (exfalso; simp at *; done)
      | trace_state
  | true =>
    refine spec_intro (E := EE) (fn := Tryz.f20) eok (by kernel_rfl) (by kernel_rfl) Tryz.call20 (by kernel_rfl) (by kernel_rfl) ?_
    conv => whnf
    repeat' first
      | (refine call_if (cp2_ok ho) (by first | exact .inl rfl | exact .inr ⟨rfl, rfl⟩) (need_intro ?_ ?_); (conv => whnf))
      | (refine call_intro (nextR_spec (ownerG t).1.copy.lk (ownerG t).1.copy.lt (ownerG t).1.copy.hk (ownerG t).1.copy.ht (ownerG f).1.copy.out.lk (ownerG f).1.copy.out.lt (ownerG f).1.copy.out.hk (ownerG f).1.copy.out.ht) ?_ (by first | exact .inl rfl | exact .inr ⟨rfl, rfl⟩); (conv => whnf))
      | (refine call_if (changep_nil t { (ownerG t).1.copy with inn := (ownerG f).1.copy.out }) (by first | exact .inl rfl | exact .inr ⟨rfl, rfl⟩) (need_intro ?_ ?_); (conv => whnf))
      | (refine bc_true (by assumption) ?_; (conv => whnf))
      | (refine bc_false (by assumption) ?_; (conv => whnf))
      | (refine bc_intro (fun _ => ?_) (fun _ => ?_) <;> (conv => whnf))
      | (refine need_intro ?_ ?_; (conv => whnf))
      | (refine wk_refl ?_; (conv => whnf))
      | (refine draw_intro (by kernel_rfl) ?_; (conv => whnf))
      | (refine ord_intro (by kernel_rfl) ?_; (conv => whnf))
    all_goals try simp only [cellsMem, bytesMem, decide_eq_true_eq, decide_eq_false_iff_not, bne_iff_ne, ne_eq, Decidable.not_not, Bool.not_eq_true', Bool.not_eq_false', bne_eq_false_iff_eq] at *
    all_goals try simp only [Int.toNat_zero, Int.toNat_one, List.getD_cons_zero, List.getD_cons_succ, beq_iff_eq, beq_eq_false_iff_ne, ne_eq] at *
    all_goals first
      | exact ⟨⟨trivial, row_g2⟩, hN⟩
      | exact ⟨by omega, by simp⟩
      | exact ⟨h2, hD⟩
      | (rw [deliver_state ho (.inl (by assumption))]
         (refine ⟨LeS.tup (LeL.cons (LeS.agg ?_) (LeL.cons (LeS.refl _) LeL.nil)), trivial⟩
          repeat' first
            | exact LeL.nil
            | refine LeL.cons ?_ ?_
          all_goals first
            | exact LeS.refl _
            | exact les_own rfl
            | exact les_nil rfl)
         done)
      | (rw [deliver_state ho (.inr (.inl (by assumption)))]
         (refine ⟨LeS.tup (LeL.cons (LeS.agg ?_) (LeL.cons (LeS.refl _) LeL.nil)), trivial⟩
          repeat' first
            | exact LeL.nil
            | refine LeL.cons ?_ ?_
          all_goals first
            | exact LeS.refl _
            | exact les_own rfl
            | exact les_nil rfl)
         done)
      | (rw [deliver_state ho (.inr (.inr (.inl (by assumption))))]
         (refine ⟨LeS.tup (LeL.cons (LeS.agg ?_) (LeL.cons (LeS.refl _) LeL.nil)), trivial⟩
          repeat' first
            | exact LeL.nil
            | refine LeL.cons ?_ ?_
          all_goals first
            | exact LeS.refl _
            | exact les_own rfl
            | exact les_nil rfl)
         done)
      | (rw [deliver_state ho (.inr (.inr (.inr (quiet_no (.inl (by assumption))))))]
         (refine ⟨LeS.tup (LeL.cons (LeS.agg ?_) (LeL.cons (LeS.refl _) LeL.nil)), trivial⟩
          repeat' first
            | exact LeL.nil
            | refine LeL.cons ?_ ?_
          all_goals first
            | exact LeS.refl _
            | exact les_own rfl
            | exact les_nil rfl)
         done)
      | (rw [deliver_state ho (.inr (.inr (.inr (quiet_no (.inr (.inl (by assumption)))))))]
         (refine ⟨LeS.tup (LeL.cons (LeS.agg ?_) (LeL.cons (LeS.refl _) LeL.nil)), trivial⟩
          repeat' first
            | exact LeL.nil
            | refine LeL.cons ?_ ?_
          all_goals first
            | exact LeS.refl _
            | exact les_own rfl
            | exact les_nil rfl)
         done)
      | (rw [deliver_state ho (.inr (.inr (.inr (quiet_no (.inr (.inr (.inl (by assumption))))))))]
         (refine ⟨LeS.tup (LeL.cons (LeS.agg ?_) (LeL.cons (LeS.refl _) LeL.nil)), trivial⟩
          repeat' first
            | exact LeL.nil
            | refine LeL.cons ?_ ?_
          all_goals first
            | exact LeS.refl _
            | exact les_own rfl
            | exact les_nil rfl)
         done)
      | (rw [deliver_state ho (.inr (.inr (.inr (quiet_no (.inr (.inr (.inr (by assumption))))))))]
         (refine ⟨LeS.tup (LeL.cons (LeS.agg ?_) (LeL.cons (LeS.refl _) LeL.nil)), trivial⟩
          repeat' first
            | exact LeL.nil
            | refine LeL.cons ?_ ?_
          all_goals first
            | exact LeS.refl _
            | exact les_own rfl
            | exact les_nil rfl)
         done)
      | (rw [deliver_unk ho (by assumption) (by assumption) (by assumption) (quiet_yes (by assumption) (by assumption) (by assumption) (by assumption)) (by assumption)]
         (refine ⟨LeS.tup (LeL.cons (LeS.agg ?_) (LeL.cons (LeS.refl _) LeL.nil)), trivial⟩
          repeat' first
            | exact LeL.nil
            | refine LeL.cons ?_ ?_
          all_goals first
            | exact LeS.refl _
            | exact les_own rfl
            | exact les_nil rfl)
         done)
      | (rw [deliver_gap ho (by assumption) (by assumption) (by assumption) (quiet_yes (by assumption) (by assumption) (by assumption) (by assumption)) (by assumption) (by rw [next_or]; assumption)]
         (refine ⟨LeS.tup (LeL.cons (LeS.agg ?_) (LeL.cons (LeS.refl _) LeL.nil)), trivial⟩
          repeat' first
            | exact LeL.nil
            | refine LeL.cons ?_ ?_
          all_goals first
            | exact LeS.refl _
            | exact les_own rfl
            | exact les_nil rfl)
         done)
      | (rw [deliver_ok ho (by assumption) (by assumption) (by assumption) (quiet_yes (by assumption) (by assumption) (by assumption) (by assumption)) (by assumption) (by rw [next_or]; assumption)]
         (refine ⟨LeS.tup (LeL.cons (LeS.agg ?_) (LeL.cons (LeS.refl _) LeL.nil)), trivial⟩
          repeat' first
            | exact LeL.nil
            | refine LeL.cons ?_ ?_
          all_goals first
            | exact LeS.refl _
            | exact les_own rfl
            | exact les_nil rfl)
         done)
      | trace_state
end Go.Proofs.YtngdpchhogfhfaaGreatDoor

namespace Go.Proofs.YtngdpchhogfhfaaGreatDoor
open Go Go.Sx Go.ChangeShapes Go.WideShapes Go.ChangeAt Go.RowKit
set_option linter.unusedVariables false
set_option linter.unusedSimpArgs false
set_option maxRecDepth 100000
theorem changep_one (g : GrpT) (c : CopyT) (e v : Int) {n : Nat} {gf : Nat → Nat → D} : ((n = 1 ∧ RowLe n 2 gf (cellOf encStp [(e, v)])) ∧ GrpB 1000 g ∧ Small c) → Sx.Spec Tryz.prog GG 55 [.agg (grpL g), .agg (copyL c), .d (.list n 2 gf)] [] (.tup [.agg (grpL (changeG g c [(e, v)]).1), .d (.int .i64 (changeG g c [(e, v)]).2)]) [] := fun ⟨⟨e1, hr⟩, h1, h2⟩ => by
  subst e1
  exact (changep_spec g c [(e, v)] ⟨h1, h2, by simp⟩).arg (LeL.cons (LeS.refl _) (LeL.cons (LeS.refl _) (LeL.cons (LeS.d (DLe.rows rfl hr)) LeL.nil)))
theorem changep_out0 (g : GrpT) (c : CopyT) : (GrpB 1000 g ∧ Small { c with out := noPart }) → Sx.Spec Tryz.prog GG 55 [.agg (grpL g), .agg [.d (.str c.lk), .d (.bool c.lt), .d (.str c.hk), .d (.bool c.ht), .d (.int .i64 c.se), .d (.int .i64 c.sv), .d (encL encRow 2 c.rows), .d (encL encWr 3 c.pend), .d (.int .i64 0), .d (.int .i64 0), .d (.int .i64 0), .d (.int .i64 0), .d (.int .i64 0), .d (.str []), .d (.bool false), .d (.str []), .d (.bool false), .d (.val (.slice none 0 0)), .d (.int .i64 c.inn.serial), .d (.int .i64 c.inn.src), .d (.int .i64 c.inn.dst), .d (.int .i64 c.inn.se), .d (.int .i64 c.inn.sv), .d (.str c.inn.lk), .d (.bool c.inn.lt), .d (.str c.inn.hk), .d (.bool c.inn.ht), .d (encL encRow 2 c.inn.rows), .d (.int .i64 c.took), .d (.int .i64 c.src)], .d (.val (.slice none 0 0))] [] (.tup [.agg (grpL (changeG g { c with out := noPart } []).1), .d (.int .i64 (changeG g { c with out := noPart } []).2)]) [] := fun ⟨h1, h2⟩ =>
  (changep_spec g { c with out := noPart } [] ⟨h1, h2, by simp⟩).arg (by repeat' first | exact LeL.nil | exact LeS.refl _ | exact LeS.d DLe.nil | refine LeL.cons ?_ ?_ | refine LeS.agg ?_)
theorem changep_in0 (g : GrpT) (c : CopyT) : (GrpB 1000 g ∧ Small { c with inn := noPart }) → Sx.Spec Tryz.prog GG 55 [.agg (grpL g), .agg [.d (.str c.lk), .d (.bool c.lt), .d (.str c.hk), .d (.bool c.ht), .d (.int .i64 c.se), .d (.int .i64 c.sv), .d (encL encRow 2 c.rows), .d (encL encWr 3 c.pend), .d (.int .i64 c.out.serial), .d (.int .i64 c.out.src), .d (.int .i64 c.out.dst), .d (.int .i64 c.out.se), .d (.int .i64 c.out.sv), .d (.str c.out.lk), .d (.bool c.out.lt), .d (.str c.out.hk), .d (.bool c.out.ht), .d (encL encRow 2 c.out.rows), .d (.int .i64 0), .d (.int .i64 0), .d (.int .i64 0), .d (.int .i64 0), .d (.int .i64 0), .d (.str []), .d (.bool false), .d (.str []), .d (.bool false), .d (.val (.slice none 0 0)), .d (.int .i64 c.took), .d (.int .i64 c.src)], .d (.val (.slice none 0 0))] [] (.tup [.agg (grpL (changeG g { c with inn := noPart } []).1), .d (.int .i64 (changeG g { c with inn := noPart } []).2)]) [] := fun ⟨h1, h2⟩ =>
  (changep_spec g { c with inn := noPart } [] ⟨h1, h2, by simp⟩).arg (by repeat' first | exact LeL.nil | exact LeS.refl _ | exact LeS.d DLe.nil | refine LeL.cons ?_ ?_ | refine LeS.agg ?_)
set_option maxHeartbeats 2000000 in
theorem installp_spec (f : GrpT) : GrpB 1000 f → Sx.Spec Tryz.prog GG 21 [.agg (grpL f)] [] (.tup [.agg (grpL (installG f).1), .d (.int .i64 (installG f).2)]) [] := by
  intro h
  have hN := net_one h
  have hS := own_small h
  have hD : Small (attachC (ownerG f).1.copy).1 := att_small hS
  cases ho : (ownerG f).2 with
  | false =>
    refine spec_intro (E := EE) (fn := Tryz.f21) eok (by kernel_rfl) (by kernel_rfl) Tryz.call21 (by kernel_rfl) (by kernel_rfl) ?_
    conv => whnf
    repeat' first
      | (refine call_if (cp1_no ho) (by first | exact .inl rfl | exact .inr ⟨rfl, rfl⟩) (need_intro ?_ ?_); (conv => whnf))
      | (refine bc_true (by assumption) ?_; (conv => whnf))
      | (refine bc_false (by assumption) ?_; (conv => whnf))
      | (refine bc_intro (fun _ => ?_) (fun _ => ?_) <;> (conv => whnf))
      | (refine need_intro ?_ ?_; (conv => whnf))
      | (refine wk_refl ?_; (conv => whnf))
      | (refine draw_intro (by kernel_rfl) ?_; (conv => whnf))
      | (refine ord_intro (by kernel_rfl) ?_; (conv => whnf))
    all_goals try simp only [cellsMem, bytesMem, decide_eq_true_eq, decide_eq_false_iff_not, bne_iff_ne, ne_eq, Decidable.not_not, Bool.not_eq_true', Bool.not_eq_false', bne_eq_false_iff_eq] at *
    all_goals first
      | exact ⟨⟨trivial, row_g1⟩, hN⟩
      | (rw [install_down ho]
         (refine ⟨LeS.tup (LeL.cons (LeS.agg ?_) (LeL.cons (LeS.refl _) LeL.nil)), trivial⟩
          repeat' first
            | exact LeL.nil
            | refine LeL.cons ?_ ?_
          all_goals first
            | exact LeS.refl _
            | exact les_own rfl
            | exact les_nil rfl)
         done)
      | (exfalso; simp at *; done)
      | trace_state
  | true =>
    refine spec_intro (E := EE) (fn := Tryz.f21) eok (by kernel_rfl) (by kernel_rfl) Tryz.call21 (by kernel_rfl) (by kernel_rfl) ?_
    conv => whnf
    repeat' first
      | (refine call_if (cp1_ok ho) (by first | exact .inl rfl | exact .inr ⟨rfl, rfl⟩) (need_intro ?_ ?_); (conv => whnf))
      | (refine call_if (attachp_spec (ownerG f).1.copy) (by first | exact .inl rfl | exact .inr ⟨rfl, rfl⟩) (need_intro ?_ ?_); (conv => whnf))
      | (refine call_if (changep_one f _ (ownerG f).1.copy.inn.se (ownerG f).1.copy.inn.sv) (by first | exact .inl rfl | exact .inr ⟨rfl, rfl⟩) (need_intro ?_ ?_); (conv => whnf))
      | (refine bc_true (by assumption) ?_; (conv => whnf))
      | (refine bc_false (by assumption) ?_; (conv => whnf))
      | (refine bc_intro (fun _ => ?_) (fun _ => ?_) <;> (conv => whnf))
      | (refine need_intro ?_ ?_; (conv => whnf))
      | (refine wk_refl ?_; (conv => whnf))
      | (refine draw_intro (by kernel_rfl) ?_; (conv => whnf))
      | (refine ord_intro (by kernel_rfl) ?_; (conv => whnf))
    all_goals try simp only [cellsMem, bytesMem, decide_eq_true_eq, decide_eq_false_iff_not, bne_iff_ne, ne_eq, Decidable.not_not, Bool.not_eq_true', Bool.not_eq_false', bne_eq_false_iff_eq] at *
    all_goals try simp only [Int.toNat_zero, Int.toNat_one, List.getD_cons_zero, List.getD_cons_succ, beq_iff_eq, beq_eq_false_iff_ne, ne_eq] at *
    all_goals first
      | exact ⟨⟨trivial, row_g1⟩, hN⟩
      | exact ⟨by omega, by simp⟩
      | exact hS
      | exact ⟨⟨rfl, row_one (jlt2 (DLe.of_eq rfl) (DLe.of_eq rfl))⟩, h, hD⟩
      | exact ⟨⟨trivial, row_one (jlt2 (DLe.of_eq rfl) (DLe.of_eq rfl))⟩, h, hD⟩
      | (rw [install_shut ho (by assumption)]
         (refine ⟨LeS.tup (LeL.cons (LeS.agg ?_) (LeL.cons (LeS.refl _) LeL.nil)), trivial⟩
          repeat' first
            | exact LeL.nil
            | refine LeL.cons ?_ ?_
          all_goals first
            | exact LeS.refl _
            | exact les_own rfl
            | exact les_nil rfl)
         done)
      | (rw [install_err ho (by assumption) (by assumption)]
         (refine ⟨LeS.tup (LeL.cons (LeS.agg ?_) (LeL.cons (LeS.refl _) LeL.nil)), trivial⟩
          repeat' first
            | exact LeL.nil
            | refine LeL.cons ?_ ?_
          all_goals first
            | exact LeS.refl _
            | exact les_own rfl
            | exact les_nil rfl)
         done)
      | (rw [install_ok ho (by assumption) (by assumption)]
         (refine ⟨LeS.tup (LeL.cons (LeS.agg ?_) (LeL.cons (LeS.refl _) LeL.nil)), trivial⟩
          repeat' first
            | exact LeL.nil
            | refine LeL.cons ?_ ?_
          all_goals first
            | exact LeS.refl _
            | exact les_own rfl
            | exact les_nil rfl)
         done)
      | trace_state
set_option maxHeartbeats 2000000 in
theorem releasep_spec (f t : GrpT) : (GrpB 1000 f ∧ GrpB 1000 t) → Sx.Spec Tryz.prog GG 22 [.agg (grpL f), .agg (grpL t)] [] (.tup [.agg (grpL (releaseG f t).1), .d (.int .i64 (releaseG f t).2)]) [] := by
  rintro ⟨h, h2⟩
  have hN := net_two h h2
  have hS := own_small h
  have hD : Small { (ownerG f).1.copy with out := noPart } := ⟨hS.1, hS.2.1, by simp [noPart], hS.2.2.2⟩
  cases ho : bothG f t with
  | false =>
    refine spec_intro (E := EE) (fn := Tryz.f22) eok (by kernel_rfl) (by kernel_rfl) Tryz.call22 (by kernel_rfl) (by kernel_rfl) ?_
    conv => whnf
    repeat' first
      | (refine call_if (cp2_no ho) (by first | exact .inl rfl | exact .inr ⟨rfl, rfl⟩) (need_intro ?_ ?_); (conv => whnf))
      | (refine bc_true (by assumption) ?_; (conv => whnf))
      | (refine bc_false (by assumption) ?_; (conv => whnf))
      | (refine bc_intro (fun _ => ?_) (fun _ => ?_) <;> (conv => whnf))
      | (refine need_intro ?_ ?_; (conv => whnf))
      | (refine wk_refl ?_; (conv => whnf))
      | (refine draw_intro (by kernel_rfl) ?_; (conv => whnf))
      | (refine ord_intro (by kernel_rfl) ?_; (conv => whnf))
    all_goals try simp only [cellsMem, bytesMem, decide_eq_true_eq, decide_eq_false_iff_not, bne_iff_ne, ne_eq, Decidable.not_not, Bool.not_eq_true', Bool.not_eq_false', bne_eq_false_iff_eq] at *
    all_goals first
      | exact ⟨⟨trivial, row_g2⟩, hN⟩
      | (rw [release_down ho]
         (refine ⟨LeS.tup (LeL.cons (LeS.agg ?_) (LeL.cons (LeS.refl _) LeL.nil)), trivial⟩
          repeat' first
            | exact LeL.nil
            | refine LeL.cons ?_ ?_
          all_goals first
            | exact LeS.refl _
            | exact les_own rfl
            | exact les_nil rfl)
         done)
      | (exfalso; simp at *; done)
      | trace_state
  | true =>
    refine spec_intro (E := EE) (fn := Tryz.f22) eok (by kernel_rfl) (by kernel_rfl) Tryz.call22 (by kernel_rfl) (by kernel_rfl) ?_
    conv => whnf
    repeat' first
      | (refine call_if (cp2_ok ho) (by first | exact .inl rfl | exact .inr ⟨rfl, rfl⟩) (need_intro ?_ ?_); (conv => whnf))
      | (refine call_if (changep_out0 f (ownerG f).1.copy) (by first | exact .inl rfl | exact .inr ⟨rfl, rfl⟩) (need_intro ?_ ?_); (conv => whnf))
      | (refine bc_true (by assumption) ?_; (conv => whnf))
      | (refine bc_false (by assumption) ?_; (conv => whnf))
      | (refine bc_intro (fun _ => ?_) (fun _ => ?_) <;> (conv => whnf))
      | (refine need_intro ?_ ?_; (conv => whnf))
      | (refine wk_refl ?_; (conv => whnf))
      | (refine draw_intro (by kernel_rfl) ?_; (conv => whnf))
      | (refine ord_intro (by kernel_rfl) ?_; (conv => whnf))
    all_goals try simp only [cellsMem, bytesMem, decide_eq_true_eq, decide_eq_false_iff_not, bne_iff_ne, ne_eq, Decidable.not_not, Bool.not_eq_true', Bool.not_eq_false', bne_eq_false_iff_eq] at *
    all_goals try simp only [Int.toNat_zero, Int.toNat_one, List.getD_cons_zero, List.getD_cons_succ, beq_iff_eq, beq_eq_false_iff_ne, ne_eq] at *
    all_goals first
      | exact ⟨⟨trivial, row_g2⟩, hN⟩
      | exact ⟨by omega, by simp⟩
      | exact ⟨h, hD⟩
      | (rw [release_state ho (.inl (by assumption))]
         (refine ⟨LeS.tup (LeL.cons (LeS.agg ?_) (LeL.cons (LeS.refl _) LeL.nil)), trivial⟩
          repeat' first
            | exact LeL.nil
            | refine LeL.cons ?_ ?_
          all_goals first
            | exact LeS.refl _
            | exact les_own rfl
            | exact les_nil rfl)
         done)
      | (rw [release_state ho (.inr (.inl (by assumption)))]
         (refine ⟨LeS.tup (LeL.cons (LeS.agg ?_) (LeL.cons (LeS.refl _) LeL.nil)), trivial⟩
          repeat' first
            | exact LeL.nil
            | refine LeL.cons ?_ ?_
          all_goals first
            | exact LeS.refl _
            | exact les_own rfl
            | exact les_nil rfl)
         done)
      | (rw [release_state ho (.inr (.inr (by assumption)))]
         (refine ⟨LeS.tup (LeL.cons (LeS.agg ?_) (LeL.cons (LeS.refl _) LeL.nil)), trivial⟩
          repeat' first
            | exact LeL.nil
            | refine LeL.cons ?_ ?_
          all_goals first
            | exact LeS.refl _
            | exact les_own rfl
            | exact les_nil rfl)
         done)
      | (rw [release_unk ho (by assumption) (by assumption) (by assumption) (by assumption)]
         (refine ⟨LeS.tup (LeL.cons (LeS.agg ?_) (LeL.cons (LeS.refl _) LeL.nil)), trivial⟩
          repeat' first
            | exact LeL.nil
            | refine LeL.cons ?_ ?_
          all_goals first
            | exact LeS.refl _
            | exact les_own rfl
            | exact les_nil rfl)
         done)
      | (rw [release_not ho (by assumption) (by assumption) (by assumption) (by assumption) (by assumption)]
         (refine ⟨LeS.tup (LeL.cons (LeS.agg ?_) (LeL.cons (LeS.refl _) LeL.nil)), trivial⟩
          repeat' first
            | exact LeL.nil
            | refine LeL.cons ?_ ?_
          all_goals first
            | exact LeS.refl _
            | exact les_own rfl
            | exact les_nil rfl)
         done)
      | (rw [release_ok ho (by assumption) (by assumption) (by assumption) (by assumption) (by assumption)]
         (refine ⟨LeS.tup (LeL.cons (LeS.agg ?_) (LeL.cons (LeS.refl _) LeL.nil)), trivial⟩
          repeat' first
            | exact LeL.nil
            | refine LeL.cons ?_ ?_
          all_goals first
            | exact LeS.refl _
            | exact les_own rfl
            | exact les_nil rfl)
         done)
      | trace_state
set_option maxHeartbeats 2000000 in
theorem forgetp_spec (f t : GrpT) : (GrpB 1000 f ∧ GrpB 1000 t) → Sx.Spec Tryz.prog GG 23 [.agg (grpL f), .agg (grpL t)] [] (.tup [.agg (grpL (forgetG f t).1), .d (.int .i64 (forgetG f t).2)]) [] := by
  rintro ⟨h, h2⟩
  have hN := net_two h h2
  have hS := own_small h
  have hD : Small { (ownerG f).1.copy with took := 0, src := 0 } := ⟨hS.1, hS.2.1, hS.2.2.1, hS.2.2.2⟩
  cases ho : bothG f t with
  | false =>
    refine spec_intro (E := EE) (fn := Tryz.f23) eok (by kernel_rfl) (by kernel_rfl) Tryz.call23 (by kernel_rfl) (by kernel_rfl) ?_
    conv => whnf
    repeat' first
      | (refine call_if (cp2_no ho) (by first | exact .inl rfl | exact .inr ⟨rfl, rfl⟩) (need_intro ?_ ?_); (conv => whnf))
      | (refine bc_true (by assumption) ?_; (conv => whnf))
      | (refine bc_false (by assumption) ?_; (conv => whnf))
      | (refine bc_intro (fun _ => ?_) (fun _ => ?_) <;> (conv => whnf))
      | (refine need_intro ?_ ?_; (conv => whnf))
      | (refine wk_refl ?_; (conv => whnf))
      | (refine draw_intro (by kernel_rfl) ?_; (conv => whnf))
      | (refine ord_intro (by kernel_rfl) ?_; (conv => whnf))
    all_goals try simp only [cellsMem, bytesMem, decide_eq_true_eq, decide_eq_false_iff_not, bne_iff_ne, ne_eq, Decidable.not_not, Bool.not_eq_true', Bool.not_eq_false', bne_eq_false_iff_eq] at *
    all_goals first
      | exact ⟨⟨trivial, row_g2⟩, hN⟩
      | (rw [forget_down ho]
         (refine ⟨LeS.tup (LeL.cons (LeS.agg ?_) (LeL.cons (LeS.refl _) LeL.nil)), trivial⟩
          repeat' first
            | exact LeL.nil
            | refine LeL.cons ?_ ?_
          all_goals first
            | exact LeS.refl _
            | exact les_own rfl
            | exact les_nil rfl)
         done)
      | (exfalso; simp at *; done)
      | trace_state
  | true =>
    refine spec_intro (E := EE) (fn := Tryz.f23) eok (by kernel_rfl) (by kernel_rfl) Tryz.call23 (by kernel_rfl) (by kernel_rfl) ?_
    conv => whnf
    repeat' first
      | (refine call_if (cp2_ok ho) (by first | exact .inl rfl | exact .inr ⟨rfl, rfl⟩) (need_intro ?_ ?_); (conv => whnf))
      | (refine call_if (changep_nil f { (ownerG f).1.copy with took := 0, src := 0 }) (by first | exact .inl rfl | exact .inr ⟨rfl, rfl⟩) (need_intro ?_ ?_); (conv => whnf))
      | (refine bc_true (by assumption) ?_; (conv => whnf))
      | (refine bc_false (by assumption) ?_; (conv => whnf))
      | (refine bc_intro (fun _ => ?_) (fun _ => ?_) <;> (conv => whnf))
      | (refine need_intro ?_ ?_; (conv => whnf))
      | (refine wk_refl ?_; (conv => whnf))
      | (refine draw_intro (by kernel_rfl) ?_; (conv => whnf))
      | (refine ord_intro (by kernel_rfl) ?_; (conv => whnf))
    all_goals try simp only [cellsMem, bytesMem, decide_eq_true_eq, decide_eq_false_iff_not, bne_iff_ne, ne_eq, Decidable.not_not, Bool.not_eq_true', Bool.not_eq_false', bne_eq_false_iff_eq] at *
    all_goals try simp only [Int.toNat_zero, Int.toNat_one, List.getD_cons_zero, List.getD_cons_succ, beq_iff_eq, beq_eq_false_iff_ne, ne_eq] at *
    all_goals first
      | exact ⟨⟨trivial, row_g2⟩, hN⟩
      | exact ⟨by omega, by simp⟩
      | exact ⟨h, hD⟩
      | (rw [forget_state ho (.inl (by assumption))]
         (refine ⟨LeS.tup (LeL.cons (LeS.agg ?_) (LeL.cons (LeS.refl _) LeL.nil)), trivial⟩
          repeat' first
            | exact LeL.nil
            | refine LeL.cons ?_ ?_
          all_goals first
            | exact LeS.refl _
            | exact les_own rfl
            | exact les_nil rfl)
         done)
      | (rw [forget_state ho (.inr (.inl (by assumption)))]
         (refine ⟨LeS.tup (LeL.cons (LeS.agg ?_) (LeL.cons (LeS.refl _) LeL.nil)), trivial⟩
          repeat' first
            | exact LeL.nil
            | refine LeL.cons ?_ ?_
          all_goals first
            | exact LeS.refl _
            | exact les_own rfl
            | exact les_nil rfl)
         done)
      | (rw [forget_state ho (.inr (.inr (by assumption)))]
         (refine ⟨LeS.tup (LeL.cons (LeS.agg ?_) (LeL.cons (LeS.refl _) LeL.nil)), trivial⟩
          repeat' first
            | exact LeL.nil
            | refine LeL.cons ?_ ?_
          all_goals first
            | exact LeS.refl _
            | exact les_own rfl
            | exact les_nil rfl)
         done)
      | (rw [forget_unk ho (by assumption) (by assumption) (by assumption) (by assumption)]
         (refine ⟨LeS.tup (LeL.cons (LeS.agg ?_) (LeL.cons (LeS.refl _) LeL.nil)), trivial⟩
          repeat' first
            | exact LeL.nil
            | refine LeL.cons ?_ ?_
          all_goals first
            | exact LeS.refl _
            | exact les_own rfl
            | exact les_nil rfl)
         done)
      | (rw [forget_not ho (by assumption) (by assumption) (by assumption) (by assumption) (by assumption)]
         (refine ⟨LeS.tup (LeL.cons (LeS.agg ?_) (LeL.cons (LeS.refl _) LeL.nil)), trivial⟩
          repeat' first
            | exact LeL.nil
            | refine LeL.cons ?_ ?_
          all_goals first
            | exact LeS.refl _
            | exact les_own rfl
            | exact les_nil rfl)
         done)
      | (rw [forget_ok ho (by assumption) (by assumption) (by assumption) (by assumption) (by assumption)]
         (refine ⟨LeS.tup (LeL.cons (LeS.agg ?_) (LeL.cons (LeS.refl _) LeL.nil)), trivial⟩
          repeat' first
            | exact LeL.nil
            | refine LeL.cons ?_ ?_
          all_goals first
            | exact LeS.refl _
            | exact les_own rfl
            | exact les_nil rfl)
         done)
      | trace_state
set_option maxHeartbeats 2000000 in
theorem refusep_spec (f : GrpT) : GrpB 1000 f → Sx.Spec Tryz.prog GG 24 [.agg (grpL f)] [] (.tup [.agg (grpL (refuseG f).1), .d (.int .i64 (refuseG f).2)]) [] := by
  intro h
  have hN := net_one h
  have hS := own_small h
  have hD : Small { (ownerG f).1.copy with inn := noPart } := ⟨hS.1, hS.2.1, hS.2.2.1, by simp [noPart]⟩
  cases ho : (ownerG f).2 with
  | false =>
    refine spec_intro (E := EE) (fn := Tryz.f24) eok (by kernel_rfl) (by kernel_rfl) Tryz.call24 (by kernel_rfl) (by kernel_rfl) ?_
    conv => whnf
    repeat' first
      | (refine call_if (cp1_no ho) (by first | exact .inl rfl | exact .inr ⟨rfl, rfl⟩) (need_intro ?_ ?_); (conv => whnf))
      | (refine bc_true (by assumption) ?_; (conv => whnf))
      | (refine bc_false (by assumption) ?_; (conv => whnf))
      | (refine bc_intro (fun _ => ?_) (fun _ => ?_) <;> (conv => whnf))
      | (refine need_intro ?_ ?_; (conv => whnf))
      | (refine wk_refl ?_; (conv => whnf))
      | (refine draw_intro (by kernel_rfl) ?_; (conv => whnf))
      | (refine ord_intro (by kernel_rfl) ?_; (conv => whnf))
    all_goals try simp only [cellsMem, bytesMem, decide_eq_true_eq, decide_eq_false_iff_not, bne_iff_ne, ne_eq, Decidable.not_not, Bool.not_eq_true', Bool.not_eq_false', bne_eq_false_iff_eq] at *
    all_goals first
      | exact ⟨⟨trivial, row_g1⟩, hN⟩
      | (rw [refuse_down ho]
         (refine ⟨LeS.tup (LeL.cons (LeS.agg ?_) (LeL.cons (LeS.refl _) LeL.nil)), trivial⟩
          repeat' first
            | exact LeL.nil
            | refine LeL.cons ?_ ?_
          all_goals first
            | exact LeS.refl _
            | exact les_own rfl
            | exact les_nil rfl)
         done)
      | (exfalso; simp at *; done)
      | trace_state
  | true =>
    refine spec_intro (E := EE) (fn := Tryz.f24) eok (by kernel_rfl) (by kernel_rfl) Tryz.call24 (by kernel_rfl) (by kernel_rfl) ?_
    conv => whnf
    repeat' first
      | (refine call_if (cp1_ok ho) (by first | exact .inl rfl | exact .inr ⟨rfl, rfl⟩) (need_intro ?_ ?_); (conv => whnf))
      | (refine call_if (changep_in0 f (ownerG f).1.copy) (by first | exact .inl rfl | exact .inr ⟨rfl, rfl⟩) (need_intro ?_ ?_); (conv => whnf))
      | (refine bc_true (by assumption) ?_; (conv => whnf))
      | (refine bc_false (by assumption) ?_; (conv => whnf))
      | (refine bc_intro (fun _ => ?_) (fun _ => ?_) <;> (conv => whnf))
      | (refine need_intro ?_ ?_; (conv => whnf))
      | (refine wk_refl ?_; (conv => whnf))
      | (refine draw_intro (by kernel_rfl) ?_; (conv => whnf))
      | (refine ord_intro (by kernel_rfl) ?_; (conv => whnf))
    all_goals try simp only [cellsMem, bytesMem, decide_eq_true_eq, decide_eq_false_iff_not, bne_iff_ne, ne_eq, Decidable.not_not, Bool.not_eq_true', Bool.not_eq_false', bne_eq_false_iff_eq] at *
    all_goals try simp only [Int.toNat_zero, Int.toNat_one, List.getD_cons_zero, List.getD_cons_succ, beq_iff_eq, beq_eq_false_iff_ne, ne_eq] at *
    all_goals first
      | exact ⟨⟨trivial, row_g1⟩, hN⟩
      | exact ⟨by omega, by simp⟩
      | exact ⟨h, hD⟩
      | (rw [refuse_state ho (.inl (by assumption))]
         (refine ⟨LeS.tup (LeL.cons (LeS.agg ?_) (LeL.cons (LeS.refl _) LeL.nil)), trivial⟩
          repeat' first
            | exact LeL.nil
            | refine LeL.cons ?_ ?_
          all_goals first
            | exact LeS.refl _
            | exact les_own rfl
            | exact les_nil rfl)
         done)
      | (rw [refuse_state ho (.inr (by assumption))]
         (refine ⟨LeS.tup (LeL.cons (LeS.agg ?_) (LeL.cons (LeS.refl _) LeL.nil)), trivial⟩
          repeat' first
            | exact LeL.nil
            | refine LeL.cons ?_ ?_
          all_goals first
            | exact LeS.refl _
            | exact les_own rfl
            | exact les_nil rfl)
         done)
      | (rw [refuse_ok ho (by assumption) (by assumption)]
         (refine ⟨LeS.tup (LeL.cons (LeS.agg ?_) (LeL.cons (LeS.refl _) LeL.nil)), trivial⟩
          repeat' first
            | exact LeL.nil
            | refine LeL.cons ?_ ?_
          all_goals first
            | exact LeS.refl _
            | exact les_own rfl
            | exact les_nil rfl)
         done)
      | trace_state
set_option maxHeartbeats 2000000 in
theorem thawp_spec (f t : GrpT) : (GrpB 1000 f ∧ GrpB 1000 t) → Sx.Spec Tryz.prog GG 25 [.agg (grpL f), .agg (grpL t)] [] (.tup [.agg (grpL (thawG f t).1), .d (.int .i64 (thawG f t).2)]) [] := by
  rintro ⟨h, h2⟩
  have hN := net_two h h2
  have hS := own_small h
  have hD : Small (reattachC (ownerG f).1.copy).1 := reatt_small hS
  cases ho : bothG f t with
  | false =>
    refine spec_intro (E := EE) (fn := Tryz.f25) eok (by kernel_rfl) (by kernel_rfl) Tryz.call25 (by kernel_rfl) (by kernel_rfl) ?_
    conv => whnf
    repeat' first
      | (refine call_if (cp2_no ho) (by first | exact .inl rfl | exact .inr ⟨rfl, rfl⟩) (need_intro ?_ ?_); (conv => whnf))
      | (refine bc_true (by assumption) ?_; (conv => whnf))
      | (refine bc_false (by assumption) ?_; (conv => whnf))
      | (refine bc_intro (fun _ => ?_) (fun _ => ?_) <;> (conv => whnf))
      | (refine need_intro ?_ ?_; (conv => whnf))
      | (refine wk_refl ?_; (conv => whnf))
      | (refine draw_intro (by kernel_rfl) ?_; (conv => whnf))
      | (refine ord_intro (by kernel_rfl) ?_; (conv => whnf))
    all_goals try simp only [cellsMem, bytesMem, decide_eq_true_eq, decide_eq_false_iff_not, bne_iff_ne, ne_eq, Decidable.not_not, Bool.not_eq_true', Bool.not_eq_false', bne_eq_false_iff_eq] at *
    all_goals first
      | exact ⟨⟨trivial, row_g2⟩, hN⟩
      | (rw [thaw_down ho]
         (refine ⟨LeS.tup (LeL.cons (LeS.agg ?_) (LeL.cons (LeS.refl _) LeL.nil)), trivial⟩
          repeat' first
            | exact LeL.nil
            | refine LeL.cons ?_ ?_
          all_goals first
            | exact LeS.refl _
            | exact les_own rfl
            | exact les_nil rfl)
         done)
      | (exfalso; simp at *; done)
      | trace_state
  | true =>
    refine spec_intro (E := EE) (fn := Tryz.f25) eok (by kernel_rfl) (by kernel_rfl) Tryz.call25 (by kernel_rfl) (by kernel_rfl) ?_
    conv => whnf
    repeat' first
      | (refine call_if (cp2_ok ho) (by first | exact .inl rfl | exact .inr ⟨rfl, rfl⟩) (need_intro ?_ ?_); (conv => whnf))
      | (refine call_if (reattachp_spec (ownerG f).1.copy) (by first | exact .inl rfl | exact .inr ⟨rfl, rfl⟩) (need_intro ?_ ?_); (conv => whnf))
      | (refine call_if (changep_nil f _) (by first | exact .inl rfl | exact .inr ⟨rfl, rfl⟩) (need_intro ?_ ?_); (conv => whnf))
      | (refine bc_true (by assumption) ?_; (conv => whnf))
      | (refine bc_false (by assumption) ?_; (conv => whnf))
      | (refine bc_intro (fun _ => ?_) (fun _ => ?_) <;> (conv => whnf))
      | (refine need_intro ?_ ?_; (conv => whnf))
      | (refine wk_refl ?_; (conv => whnf))
      | (refine draw_intro (by kernel_rfl) ?_; (conv => whnf))
      | (refine ord_intro (by kernel_rfl) ?_; (conv => whnf))
    all_goals try simp only [cellsMem, bytesMem, decide_eq_true_eq, decide_eq_false_iff_not, bne_iff_ne, ne_eq, Decidable.not_not, Bool.not_eq_true', Bool.not_eq_false', bne_eq_false_iff_eq] at *
    all_goals try simp only [Int.toNat_zero, Int.toNat_one, List.getD_cons_zero, List.getD_cons_succ, beq_iff_eq, beq_eq_false_iff_ne, ne_eq] at *
    all_goals first
      | exact ⟨⟨trivial, row_g2⟩, hN⟩
      | exact ⟨by omega, by simp⟩
      | exact hS
      | exact ⟨h, hD⟩
      | (rw [thaw_state ho (.inl (by assumption))]
         (refine ⟨LeS.tup (LeL.cons (LeS.agg ?_) (LeL.cons (LeS.refl _) LeL.nil)), trivial⟩
          repeat' first
            | exact LeL.nil
            | refine LeL.cons ?_ ?_
          all_goals first
            | exact LeS.refl _
            | exact les_own rfl
            | exact les_nil rfl)
         done)
      | (rw [thaw_state ho (.inr (.inl (by assumption)))]
         (refine ⟨LeS.tup (LeL.cons (LeS.agg ?_) (LeL.cons (LeS.refl _) LeL.nil)), trivial⟩
          repeat' first
            | exact LeL.nil
            | refine LeL.cons ?_ ?_
          all_goals first
            | exact LeS.refl _
            | exact les_own rfl
            | exact les_nil rfl)
         done)
      | (rw [thaw_state ho (.inr (.inr (by assumption)))]
         (refine ⟨LeS.tup (LeL.cons (LeS.agg ?_) (LeL.cons (LeS.refl _) LeL.nil)), trivial⟩
          repeat' first
            | exact LeL.nil
            | refine LeL.cons ?_ ?_
          all_goals first
            | exact LeS.refl _
            | exact les_own rfl
            | exact les_nil rfl)
         done)
      | (rw [thaw_unk ho (by assumption) (by assumption) (by assumption) (by assumption)]
         (refine ⟨LeS.tup (LeL.cons (LeS.agg ?_) (LeL.cons (LeS.refl _) LeL.nil)), trivial⟩
          repeat' first
            | exact LeL.nil
            | refine LeL.cons ?_ ?_
          all_goals first
            | exact LeS.refl _
            | exact les_own rfl
            | exact les_nil rfl)
         done)
      | (rw [thaw_not ho (by assumption) (by assumption) (by assumption) (by assumption) (.inl (by assumption))]
         (refine ⟨LeS.tup (LeL.cons (LeS.agg ?_) (LeL.cons (LeS.refl _) LeL.nil)), trivial⟩
          repeat' first
            | exact LeL.nil
            | refine LeL.cons ?_ ?_
          all_goals first
            | exact LeS.refl _
            | exact les_own rfl
            | exact les_nil rfl)
         done)
      | (rw [thaw_not ho (by assumption) (by assumption) (by assumption) (by assumption) (.inr (by assumption))]
         (refine ⟨LeS.tup (LeL.cons (LeS.agg ?_) (LeL.cons (LeS.refl _) LeL.nil)), trivial⟩
          repeat' first
            | exact LeL.nil
            | refine LeL.cons ?_ ?_
          all_goals first
            | exact LeS.refl _
            | exact les_own rfl
            | exact les_nil rfl)
         done)
      | (rw [thaw_err ho (by assumption) (by assumption) (by assumption) (by assumption) (by assumption) (by assumption) (by assumption)]
         (refine ⟨LeS.tup (LeL.cons (LeS.agg ?_) (LeL.cons (LeS.refl _) LeL.nil)), trivial⟩
          repeat' first
            | exact LeL.nil
            | refine LeL.cons ?_ ?_
          all_goals first
            | exact LeS.refl _
            | exact les_own rfl
            | exact les_nil rfl)
         done)
      | (rw [thaw_ok ho (by assumption) (by assumption) (by assumption) (by assumption) (by assumption) (by assumption) (by assumption)]
         (refine ⟨LeS.tup (LeL.cons (LeS.agg ?_) (LeL.cons (LeS.refl _) LeL.nil)), trivial⟩
          repeat' first
            | exact LeL.nil
            | refine LeL.cons ?_ ?_
          all_goals first
            | exact LeS.refl _
            | exact les_own rfl
            | exact les_nil rfl)
         done)
      | trace_state
end Go.Proofs.YtngdpchhogfhfaaGreatDoor
