/- Contracts of functions that the law reaches: YtngdpchhogfhfaaGreatDoorTko. Written for this claim. -/
import Derived.Test.YtngdpchhogfhfaaGreatDoorGrpN
import Derived.Test.YtngdpchhogfhfaaGreatDoorSxGrp
namespace Go.Proofs.YtngdpchhogfhfaaGreatDoor
open Go Go.Sx Go.ChangeShapes Go.WideShapes Go.ChangeAt Go.RowKit
set_option linter.unusedVariables false
set_option linter.unusedSimpArgs false
set_option maxRecDepth 100000
abbrev EL : List Nat := [87, 47, 49, 78, 51, 1000000 + 110, 1000000 + 32]
theorem eokL : EOk Tryz.prog EL := by
  refine ⟨by kernel_rfl, ?_⟩
  intro T hT
  simp only [memN_iff] at hT
  simp only [List.mem_cons, List.not_mem_nil, or_false] at hT
  rcases hT with rfl | rfl | rfl | rfl | rfl | rfl | rfl <;> exact ⟨by kernel_rfl, by kernel_rfl⟩
theorem bytesSt : Tryz.prog.bytesOf 51 = 16 := by kernel_rfl
theorem see0 (g w e v : Int) : Sx.Spec Tryz.prog GG 122 [.ptr 1000 0, .agg [.d (.int .i64 e), .d (.int .i64 v)]] [(1000, .box [.d (.int .i64 g), .d (.int .i64 w)])] (.tup []) [(1000, .box [.d (.int .i64 (if e > g then e else g)), .d (.int .i64 w)])] := by
  refine spec_intro (E := EE) (fn := Tryz.f122) eok (by kernel_rfl) (by kernel_rfl) Tryz.call122 (by kernel_rfl) (by kernel_rfl) ?_
  conv => whnf
  repeat' first
    | (refine bc_true (by assumption) ?_; (conv => whnf))
    | (refine bc_false (by assumption) ?_; (conv => whnf))
    | (refine bc_intro (fun _ => ?_) (fun _ => ?_) <;> (conv => whnf))
    | (refine need_intro ?_ ?_; (conv => whnf))
    | (refine wk_refl ?_; (conv => whnf))
    | (refine draw_intro (by kernel_rfl) ?_; (conv => whnf))
    | (refine ord_intro (by kernel_rfl) ?_; (conv => whnf))
  all_goals first
    | exact ⟨LeS.refl _, LeL.refl _, trivial⟩
    | trace_state
theorem see_at (m : Nat) (g w e v : Int) : Sx.Spec Tryz.prog GG 122 [.ptr m 0, .agg [.d (.int .i64 e), .d (.int .i64 v)]] [(m, .box [.d (.int .i64 g), .d (.int .i64 w)])] (.tup []) [(m, .box [.d (.int .i64 (if e > g then e else g)), .d (.int .i64 w)])] := (see0 g w e v).at m
theorem most_ok {l : List (Int × Int)} {i : Nat} {m : Int} (hm : 0 ≤ m ∧ m ≤ 1099511627776) (hs : stampOk (l.getD i default).1 (l.getD i default).2 = true) : 0 ≤ (if (l.getD i default).1 > m then (l.getD i default).1 else m) ∧ (if (l.getD i default).1 > m then (l.getD i default).1 else m) ≤ 1099511627776 := by
  have := stamp_of.1 hs
  split <;> omega
set_option maxHeartbeats 1000000 in
theorem renewp_spec (l : List (Int × Int)) {n : Nat} {gf : Nat → Nat → D} : ((n = l.length ∧ RowLe n 2 gf (cellOf encStp l)) ∧ l.length ≤ 1000000000000000) → Sx.Spec Tryz.prog GG 93 [.d (.list n 2 gf)] [] (.tup [.agg [.d (.int .i64 (renewF l).1), .d (.int .i64 0)], .d (.int .i64 (renewF l).2)]) [] := by
  rintro ⟨⟨rfl, hr⟩, hl⟩
  refine Sx.Spec.arg (args' := [.d (encL encStp 2 l)]) ?_ (LeL.cons (LeS.d (DLe.rows rfl hr)) LeL.nil)
  refine spec_intro (E := EE) (fn := Tryz.f93) eok (by kernel_rfl) (by kernel_rfl) Tryz.call93 (by kernel_rfl) (by kernel_rfl) ?_
  conv => whnf
  repeat' first
    | (refine bc_true (by assumption) ?_; (conv => whnf))
    | (refine bc_false (by assumption) ?_; (conv => whnf))
    | (refine need_intro ?_ ?_; (conv => whnf))
    | (refine wk_refl ?_; (conv => whnf))
    | (refine draw_intro (by kernel_rfl) ?_; (conv => whnf))
    | (refine ord_intro (by kernel_rfl) ?_; (conv => whnf))
  refine loop_auto [0, 2, 3, 7, 8] [2] (fun x : Nat × Int => [(4, .ptr 4 0), (9, .d (.int .i64 x.1))]) (fun x => [(4, .box [.d (.int .i64 x.2), .d (.int .i64 0)])]) (fun x => x.1 ≤ l.length ∧ (0 ≤ x.2 ∧ x.2 ≤ 1099511627776) ∧ renewF l = renewAt l x.1 x.2) (fun x => l.length - x.1) (0, 0) ?_ (fun x hx => ?_) ⟨by simp, by simp, rfl⟩
  · conv => whnf
    repeat' first
      | (refine bc_true (by assumption) ?_; (conv => whnf))
      | (refine bc_false (by assumption) ?_; (conv => whnf))
      | (refine bc_intro (fun _ => ?_) (fun _ => ?_) <;> (conv => whnf))
      | (refine need_intro ?_ ?_; (conv => whnf))
      | (refine wk_refl ?_; (conv => whnf))
      | (refine draw_intro (by kernel_rfl) ?_; (conv => whnf))
      | (refine ord_intro (by kernel_rfl) ?_; (conv => whnf))
    all_goals first | exact trivial | exact DLe.refl _ | trace_state
  · obtain ⟨i, m⟩ := x
    obtain ⟨hi, hm, he⟩ := hx
    simp only at hi hm he
    have hsi : IntKind.i64.wrap ((i : Int) + 1) = ((i + 1 : Nat) : Int) := wrap_succ (n := 1000000000000001) (by omega) (by omega)
    have hst := fun h => renew_step (l := l) (i := i) (m := m) h
    have hen := fun h => renew_end (l := l) (i := i) (m := m) h
    have hmo := fun h => most_ok (l := l) (i := i) hm h
    have hw : IntKind.i64.wrap (m + 1) = m + 1 := wrap_of (by omega) (by omega)
    conv => whnf
    repeat' first
      | (refine call_intro (stampOkp_spec _ _) ?_ (by first | exact .inl rfl | exact .inr ⟨rfl, rfl⟩); (conv => whnf))
      | (refine call_intro (see_at 4 _ _ _ _) ?_ (by first | exact .inl rfl | exact .inr ⟨rfl, rfl⟩); (conv => whnf))
      | (refine NextVC.mk (i + 1, (if (l.getD i default).1 > m then (l.getD i default).1 else m)) ?_ ?_ ?_; (conv => whnf))
      | (refine bc_true (by assumption) ?_; (conv => whnf))
      | (refine bc_false (by assumption) ?_; (conv => whnf))
      | (refine bc_intro (fun _ => ?_) (fun _ => ?_) <;> (conv => whnf))
      | (refine need_intro ?_ ?_; (conv => whnf))
      | (refine wk_refl ?_; (conv => whnf))
      | (refine draw_intro (by kernel_rfl) ?_; (conv => whnf))
      | (refine ord_intro (by kernel_rfl) ?_; (conv => whnf))
    all_goals try simp only [decide_eq_true_eq, decide_eq_false_iff_not, Int.toNat_natCast, beq_iff_eq, beq_eq_false_iff_ne, ne_eq, Bool.not_eq_true', Bool.not_eq_false'] at *
    all_goals first
      | exact trivial
      | omega
      | exact DLe.refl _
      | exact DLe.of_eq (by rw [hsi])
      | exact ⟨by omega, by omega⟩
      | (rw [he, hst (by omega), if_neg (by rw [Bool.not_eq_true]; assumption)]; exact ⟨LeS.refl _, trivial⟩)
      | (refine ⟨by omega, hmo (by assumption), ?_⟩
         rw [he, hst (by omega), if_pos (by assumption)])
      | (rw [he, hen (by omega), if_pos (by assumption)]; exact ⟨LeS.refl _, trivial⟩)
      | (rw [he, hen (by omega), if_neg (by assumption)]; refine ⟨LeS.of_eq ?_, trivial⟩; rw [hw]; done)
      | trace_state
set_option maxHeartbeats 1000000 in
theorem renewr_spec (l : List (Int × Int)) {n : Nat} {gf : Nat → Nat → D} : ((n = l.length ∧ RowLe n 2 gf (cellOf encStp l)) ∧ l.length ≤ 1000000000000000) → Sx.Spec Tryz.prog GG 123 [.d (.list n 2 gf)] [] (.tup [.agg [.d (.int .i64 (renewF l).1), .d (.int .i64 0)], .d (.int .i64 (renewF l).2)]) [] := by
  rintro ⟨⟨rfl, hr⟩, hl⟩
  refine Sx.Spec.arg (args' := [.d (encL encStp 2 l)]) ?_ (LeL.cons (LeS.d (DLe.rows rfl hr)) LeL.nil)
  refine spec_intro (E := EE) (fn := Tryz.f123) eok (by kernel_rfl) (by kernel_rfl) Tryz.call123 (by kernel_rfl) (by kernel_rfl) ?_
  conv => whnf
  repeat' first
    | (refine bc_true (by assumption) ?_; (conv => whnf))
    | (refine bc_false (by assumption) ?_; (conv => whnf))
    | (refine need_intro ?_ ?_; (conv => whnf))
    | (refine wk_refl ?_; (conv => whnf))
    | (refine draw_intro (by kernel_rfl) ?_; (conv => whnf))
    | (refine ord_intro (by kernel_rfl) ?_; (conv => whnf))
  refine loop_auto [0, 2, 3, 7, 8] [2] (fun x : Nat × Int => [(4, .d (.int .i64 x.2)), (9, .d (.int .i64 x.1))]) (fun x => []) (fun x => x.1 ≤ l.length ∧ (0 ≤ x.2 ∧ x.2 ≤ 1099511627776) ∧ renewF l = renewAt l x.1 x.2) (fun x => l.length - x.1) (0, 0) ?_ (fun x hx => ?_) ⟨by simp, by simp, rfl⟩
  · conv => whnf
    repeat' first
      | (refine bc_true (by assumption) ?_; (conv => whnf))
      | (refine bc_false (by assumption) ?_; (conv => whnf))
      | (refine bc_intro (fun _ => ?_) (fun _ => ?_) <;> (conv => whnf))
      | (refine need_intro ?_ ?_; (conv => whnf))
      | (refine wk_refl ?_; (conv => whnf))
      | (refine draw_intro (by kernel_rfl) ?_; (conv => whnf))
      | (refine ord_intro (by kernel_rfl) ?_; (conv => whnf))
    all_goals first | exact trivial | exact DLe.refl _ | trace_state
  · obtain ⟨i, m⟩ := x
    obtain ⟨hi, hm, he⟩ := hx
    simp only at hi hm he
    have hsi : IntKind.i64.wrap ((i : Int) + 1) = ((i + 1 : Nat) : Int) := wrap_succ (n := 1000000000000001) (by omega) (by omega)
    have hst := fun h => renew_step (l := l) (i := i) (m := m) h
    have hen := fun h => renew_end (l := l) (i := i) (m := m) h
    have hmo := fun h => most_ok (l := l) (i := i) hm h
    have hw : IntKind.i64.wrap (m + 1) = m + 1 := wrap_of (by omega) (by omega)
    conv => whnf
    repeat' first
      | (refine call_intro (stampOkr_spec _ _) ?_ (by first | exact .inl rfl | exact .inr ⟨rfl, rfl⟩); (conv => whnf))
      | (refine NextVC.mk (i + 1, (if (l.getD i default).1 > m then (l.getD i default).1 else m)) ?_ ?_ ?_; (conv => whnf))
      | (refine bc_true (by assumption) ?_; (conv => whnf))
      | (refine bc_false (by assumption) ?_; (conv => whnf))
      | (refine bc_intro (fun _ => ?_) (fun _ => ?_) <;> (conv => whnf))
      | (refine need_intro ?_ ?_; (conv => whnf))
      | (refine wk_refl ?_; (conv => whnf))
      | (refine draw_intro (by kernel_rfl) ?_; (conv => whnf))
      | (refine ord_intro (by kernel_rfl) ?_; (conv => whnf))
    all_goals try simp only [decide_eq_true_eq, decide_eq_false_iff_not, Int.toNat_natCast, beq_iff_eq, beq_eq_false_iff_ne, ne_eq, Bool.not_eq_true', Bool.not_eq_false'] at *
    all_goals first
      | exact trivial
      | omega
      | exact DLe.refl _
      | exact DLe.of_eq (by rw [hsi])
      | exact ⟨by omega, by omega⟩
      | (rw [he, hst (by omega), if_neg (by rw [Bool.not_eq_true]; assumption)]; exact ⟨LeS.refl _, trivial⟩)
      | (refine ⟨by omega, hmo (by assumption), ?_⟩
         rw [he, hst (by omega), if_pos (by assumption)])
      | (rw [he, hen (by omega), if_pos (by assumption)]; exact ⟨LeS.refl _, trivial⟩)
      | (rw [he, hen (by omega), if_neg (by assumption)]; refine ⟨LeS.of_eq ?_, trivial⟩; rw [hw]; done)
      | trace_state
theorem row_consS {l : List (Int × Int)} {e v : Int} {n : Nat} {z : Nat → Nat → D} : RowLe n 2 (fun i j => if 0 + i < 1 then tabF z [(0, [.int .i64 e, .int .i64 v])] (0 + i) j else cellOf encStp l (0 + i - 1) j) (cellOf encStp ((e, v) :: l)) :=
  .of_eq fun i j _ hj => by
    simp only [Nat.zero_add]
    match i with
    | 0 => exact jlt2 (p := fun j => (if 0 < 1 then tabF z [(0, [.int .i64 e, .int .i64 v])] 0 j else cellOf encStp l (0 - 1) j) = cellOf encStp ((e, v) :: l) 0 j) rfl rfl j hj
    | i + 1 => rw [if_neg (by omega), Nat.add_sub_cancel]; rfl
theorem stampsr_spec (c : CopyT) (l : List (Int × Int)) : l.length ≤ 1000000 → Sx.Spec Tryz.prog GG 97 [.agg (copyL c), .d (encL encStp 2 l)] [] (.tup [.agg [.d (.int .i64 (renewF ((c.se, c.sv) :: l)).1), .d (.int .i64 0)], .d (.int .i64 (renewF ((c.se, c.sv) :: l)).2)]) [] := by
  intro hl
  refine spec_intro (E := EL) (fn := Tryz.f97) eokL (by kernel_rfl) (by kernel_rfl) Tryz.call97 (by kernel_rfl) (by kernel_rfl) ?_
  conv => whnf
  repeat' first
    | (refine call_if (renewr_spec ((c.se, c.sv) :: l)) (by first | exact .inl rfl | exact .inr ⟨rfl, rfl⟩) (need_intro ?_ ?_); (conv => whnf))
    | (refine bc_true (by assumption) ?_; (conv => whnf))
    | (refine bc_false (by assumption) ?_; (conv => whnf))
    | (refine bc_intro (fun _ => ?_) (fun _ => ?_) <;> (conv => whnf))
    | (refine need_intro ?_ ?_; (conv => whnf))
    | (refine wk_refl ?_; (conv => whnf))
    | (refine draw_intro (by kernel_rfl) ?_; (conv => whnf))
    | (refine ord_intro (by kernel_rfl) ?_; (conv => whnf))
  all_goals first
    | exact ⟨LeS.refl _, trivial⟩
    | exact ⟨rfl, by rw [bytesSt]; omega, by omega⟩
    | (refine ⟨⟨by simp only [List.length_cons]; omega, row_consS⟩, by simp only [List.length_cons]; omega⟩)
    | trace_state
theorem change_down {g : GrpT} {c : CopyT} {l : List (Int × Int)} (h : (ownerG g).2 = false) : changeG g c l = (noGrp, 14) := by rw [changeG, if_pos h]
theorem change_shut {g : GrpT} {c : CopyT} {l : List (Int × Int)} (h : (ownerG g).2 = true) (h2 : g.opn = false) : changeG g c l = (noGrp, 7) := by rw [changeG, if_neg (by simp [h]), if_pos h2]
theorem change_bad {g : GrpT} {c : CopyT} {l : List (Int × Int)} (h : (ownerG g).2 = true) (h2 : g.opn = true) (h3 : validC c = false) : changeG g c l = (noGrp, 1) := by rw [changeG, if_neg (by simp [h]), if_neg (by simp [h2]), if_pos h3]
theorem change_full {g : GrpT} {c : CopyT} {l : List (Int × Int)} (h : (ownerG g).2 = true) (h2 : g.opn = true) (h3 : validC c = true) (h4 : ¬ (renewF (((ownerG g).1.copy.se, (ownerG g).1.copy.sv) :: l)).2 = 0) : changeG g c l = (noGrp, (renewF (((ownerG g).1.copy.se, (ownerG g).1.copy.sv) :: l)).2) := by
  rw [changeG, if_neg (by simp [h]), if_neg (by simp [h2]), if_neg (by simp [h3]), if_pos h4]
theorem change_ok {g : GrpT} {c : CopyT} {l : List (Int × Int)} (h : (ownerG g).2 = true) (h2 : g.opn = true) (h3 : validC c = true) (h4 : (renewF (((ownerG g).1.copy.se, (ownerG g).1.copy.sv) :: l)).2 = 0) : changeG g c l = (closeG g { c with se := (renewF (((ownerG g).1.copy.se, (ownerG g).1.copy.sv) :: l)).1, sv := 0 }, 0) := by
  rw [changeG, if_neg (by simp [h]), if_neg (by simp [h2]), if_neg (by simp [h3]), if_neg (by simp [h4])]
set_option maxHeartbeats 1000000 in
theorem changep_spec (g : GrpT) (c : CopyT) (l : List (Int × Int)) : (GrpB 1000 g ∧ Small c ∧ l.length ≤ 1000000) → Sx.Spec Tryz.prog GG 55 [.agg (grpL g), .agg (copyL c), .d (encL encStp 2 l)] [] (.tup [.agg (grpL (changeG g c l).1), .d (.int .i64 (changeG g c l).2)]) [] := by
  rintro ⟨h, hs, hl⟩
  have hm := fun ho => (owner_mem (g := g) ho).1
  refine spec_intro (E := EL) (fn := Tryz.f55) eokL (by kernel_rfl) (by kernel_rfl) Tryz.call55 (by kernel_rfl) (by kernel_rfl) ?_
  conv => whnf
  repeat' first
    | (refine call_if (owner_spec g) (by first | exact .inl rfl | exact .inr ⟨rfl, rfl⟩) (need_intro ?_ ?_); (conv => whnf))
    | (refine call_if (validp_spec c) (by first | exact .inl rfl | exact .inr ⟨rfl, rfl⟩) (need_intro ?_ ?_); (conv => whnf))
    | (refine call_if (renewp_spec (((ownerG g).1.copy.se, (ownerG g).1.copy.sv) :: l)) (by first | exact .inl rfl | exact .inr ⟨rfl, rfl⟩) (need_intro ?_ ?_); (conv => whnf))
    | (refine call_if (cloneG_at 1000 g) (by first | exact .inl rfl | exact .inr ⟨rfl, rfl⟩) (need_intro ?_ ?_); (conv => whnf))
    | (refine call_if (cloneC_spec c) (by first | exact .inl rfl | exact .inr ⟨rfl, rfl⟩) (need_intro ?_ ?_); (conv => whnf))
    | (refine bc_true (by assumption) ?_; (conv => whnf))
    | (refine bc_false (by assumption) ?_; (conv => whnf))
    | (refine bc_intro (fun _ => ?_) (fun _ => ?_) <;> (conv => whnf))
    | (refine need_intro ?_ ?_; (conv => whnf))
    | (refine wk_refl ?_; (conv => whnf))
    | (refine draw_intro (by kernel_rfl) ?_; (conv => whnf))
    | (refine ord_intro (by kernel_rfl) ?_; (conv => whnf))
  all_goals try simp only [cellsMem, bytesMem, decide_eq_true_eq, decide_eq_false_iff_not, bne_iff_ne, ne_eq, Decidable.not_not, Bool.not_eq_true', Bool.not_eq_false', bne_eq_false_iff_eq] at *
  all_goals first
    | exact h
    | exact hs
    | exact ⟨trivial, by rw [bytesSt]; omega, by omega⟩
    | exact ⟨rfl, by rw [bytesSt]; omega, by omega⟩
    | (refine ⟨⟨by simp only [List.length_cons]; omega, row_consS⟩, by simp only [List.length_cons]; omega⟩)
    | (have h1 := hm (by assumption); exact ⟨Int.le_refl 0, by omega⟩)
    | (have h1 := hm (by assumption); simp; omega)
    | (have h1 := hm (by assumption); simp only [Int.toNat_zero]; omega)
    | (rw [change_down (by assumption)]
       (refine ⟨LeS.tup (LeL.cons (LeS.agg (LeL.cons (LeS.refl _) (LeL.cons (LeS.refl _) (LeL.cons ?_ LeL.nil)))) (LeL.cons (LeS.refl _) LeL.nil)), trivial⟩
        first
          | exact LeS.refl _
          | exact les_nil rfl
          | exact LeS.d (DLe.rows (by simp [closeG, openG, withG]) (row_setC' (p := 0) (by omega))))
       done)
    | (rw [change_shut (by assumption) (by assumption)]
       (refine ⟨LeS.tup (LeL.cons (LeS.agg (LeL.cons (LeS.refl _) (LeL.cons (LeS.refl _) (LeL.cons ?_ LeL.nil)))) (LeL.cons (LeS.refl _) LeL.nil)), trivial⟩
        first
          | exact LeS.refl _
          | exact les_nil rfl
          | exact LeS.d (DLe.rows (by simp [closeG, openG, withG]) (row_setC' (p := 0) (by omega))))
       done)
    | (rw [change_bad (by assumption) (by assumption) (by assumption)]
       (refine ⟨LeS.tup (LeL.cons (LeS.agg (LeL.cons (LeS.refl _) (LeL.cons (LeS.refl _) (LeL.cons ?_ LeL.nil)))) (LeL.cons (LeS.refl _) LeL.nil)), trivial⟩
        first
          | exact LeS.refl _
          | exact les_nil rfl
          | exact LeS.d (DLe.rows (by simp [closeG, openG, withG]) (row_setC' (p := 0) (by omega))))
       done)
    | (rw [change_full (by assumption) (by assumption) (by assumption) (by assumption)]
       (refine ⟨LeS.tup (LeL.cons (LeS.agg (LeL.cons (LeS.refl _) (LeL.cons (LeS.refl _) (LeL.cons ?_ LeL.nil)))) (LeL.cons (LeS.refl _) LeL.nil)), trivial⟩
        first
          | exact LeS.refl _
          | exact les_nil rfl
          | exact LeS.d (DLe.rows (by simp [closeG, openG, withG]) (row_setC' (p := 0) (by omega))))
       done)
    | (have h1 := hm (by assumption)
       rw [change_ok (by assumption) (by assumption) (by assumption) (by assumption)]
       refine ⟨LeS.tup (LeL.cons (LeS.agg (LeL.cons (LeS.refl _) (LeL.cons (LeS.refl _) (LeL.cons (LeS.d (DLe.rows ?_ ?_)) LeL.nil)))) (LeL.cons (LeS.refl _) LeL.nil)), trivial⟩
       · simp [closeG, withG]
       · dsimp only [closeG, withG]
         exact row_setC' (p := 0) (c := { c with se := (renewF (((ownerG g).1.copy.se, (ownerG g).1.copy.sv) :: l)).1, sv := 0 }) (by omega))
    | trace_state
theorem heirp_spec (g : GrpT) : g.mem.length ≤ 1000 → Sx.Spec Tryz.prog GG 107 [.agg (grpL g)] [] (.d (.int .i64 (heirG g.mem 0))) [] := by
  intro hl
  refine spec_intro (E := EE) (fn := Tryz.f107) eok (by kernel_rfl) (by kernel_rfl) Tryz.call107 (by kernel_rfl) (by kernel_rfl) ?_
  conv => whnf
  repeat' first
    | (refine bc_true (by assumption) ?_; (conv => whnf))
    | (refine bc_false (by assumption) ?_; (conv => whnf))
    | (refine need_intro ?_ ?_; (conv => whnf))
    | (refine wk_refl ?_; (conv => whnf))
    | (refine draw_intro (by kernel_rfl) ?_; (conv => whnf))
    | (refine ord_intro (by kernel_rfl) ?_; (conv => whnf))
  refine loop_auto [1, 2, 6, 7] [1] (fun i : Nat => [(8, .d (.int .i64 i))]) (fun i => []) (fun i => i ≤ g.mem.length ∧ heirG g.mem 0 = heirG g.mem i) (fun i => g.mem.length - i) 0 ?_ (fun i hi => ?_) ⟨by omega, rfl⟩
  · conv => whnf
    repeat' first
      | (refine bc_true (by assumption) ?_; (conv => whnf))
      | (refine bc_false (by assumption) ?_; (conv => whnf))
      | (refine bc_intro (fun _ => ?_) (fun _ => ?_) <;> (conv => whnf))
      | (refine need_intro ?_ ?_; (conv => whnf))
      | (refine wk_refl ?_; (conv => whnf))
      | (refine draw_intro (by kernel_rfl) ?_; (conv => whnf))
      | (refine ord_intro (by kernel_rfl) ?_; (conv => whnf))
    all_goals first | exact trivial | exact DLe.refl _ | trace_state
  · obtain ⟨h2, h3⟩ := hi
    have hs : IntKind.i64.wrap ((i : Int) + 1) = ((i + 1 : Nat) : Int) := wrap_succ (n := 2000) (by omega) (by omega)
    have hst := fun h => heir_step (ms := g.mem) (i := i) h
    have hen := fun h => heir_end (ms := g.mem) (i := i) h
    conv => whnf
    repeat' first
      | (refine NextVC.mk (i + 1) ?_ ?_ ?_; (conv => whnf))
      | (refine bc_true (by assumption) ?_; (conv => whnf))
      | (refine bc_false (by assumption) ?_; (conv => whnf))
      | (refine bc_intro (fun _ => ?_) (fun _ => ?_) <;> (conv => whnf))
      | (refine need_intro ?_ ?_; (conv => whnf))
      | (refine wk_refl ?_; (conv => whnf))
      | (refine draw_intro (by kernel_rfl) ?_; (conv => whnf))
      | (refine ord_intro (by kernel_rfl) ?_; (conv => whnf))
    all_goals try simp only [decide_eq_true_eq, decide_eq_false_iff_not, Int.toNat_natCast] at *
    all_goals first
      | exact trivial
      | omega
      | exact DLe.refl _
      | exact DLe.of_eq (by rw [hs])
      | exact ⟨by omega, by omega⟩
      | (refine ⟨by omega, ?_⟩; rw [h3, hst (by omega), if_neg (by rw [Bool.not_eq_true]; assumption)])
      | (refine ⟨LeS.of_eq ?_, trivial⟩; rw [h3, hst (by omega), if_pos (by assumption)]; done)
      | (refine ⟨LeS.of_eq ?_, trivial⟩; rw [h3, hen (by omega)]; done)
      | trace_state
theorem heir_nat {ms : List MemT} (h : ¬ heirG ms 0 < 0) : (heirG ms 0).toNat < ms.length ∧ ((heirG ms 0).toNat : Int) = heirG ms 0 ∧ (ms.getD (heirG ms 0).toNat default).up = true ∧ ∀ j, j < (heirG ms 0).toNat → (ms.getD j default).up = false := by
  rcases heir_range (ms := ms) (n := ms.length) (f := 0) (by omega) with h1 | ⟨i, h1, _, h3, h4, h5⟩
  · omega
  · rw [h1]; simp only [Int.toNat_natCast]; exact ⟨h3, trivial, h4, fun j hj => h5 j (by omega) hj⟩
theorem cand_no {g : GrpT} (h : heirG g.mem 0 < 1) : candG g = (0, false) := by rw [candG, if_pos h]
theorem cand_yes {g : GrpT} (h : ¬ heirG g.mem 0 < 1) : candG g = ((g.mem.getD (heirG g.mem 0).toNat default).id, true) := by rw [candG, if_neg h]
theorem candr_spec (g : GrpT) : g.mem.length ≤ 1000 → Sx.Spec Tryz.prog GG 96 [.agg (grpL g)] [] (.tup [.d (.int .i64 (candG g).1), .d (.bool (candG g).2)]) [] := by
  intro hl
  have hst0 := fun h => heir_step (ms := g.mem) (i := 0) h
  have hen0 := fun h => heir_end (ms := g.mem) (i := 0) h
  refine spec_intro (E := EE) (fn := Tryz.f96) eok (by kernel_rfl) (by kernel_rfl) Tryz.call96 (by kernel_rfl) (by kernel_rfl) ?_
  conv => whnf
  repeat' first
    | (refine bc_true (by assumption) ?_; (conv => whnf))
    | (refine bc_false (by assumption) ?_; (conv => whnf))
    | (refine bc_intro (fun _ => ?_) (fun _ => ?_) <;> (conv => whnf))
    | (refine need_intro ?_ ?_; (conv => whnf))
    | (refine wk_refl ?_; (conv => whnf))
    | (refine draw_intro (by kernel_rfl) ?_; (conv => whnf))
    | (refine ord_intro (by kernel_rfl) ?_; (conv => whnf))
  all_goals try simp only [cellsMem, bytesMem, decide_eq_true_eq, decide_eq_false_iff_not, bne_iff_ne, ne_eq, Decidable.not_not, Bool.not_eq_true', Bool.not_eq_false', bne_eq_false_iff_eq] at *
  all_goals try simp only [Int.toNat_zero, beq_iff_eq, beq_eq_false_iff_ne, ne_eq] at *
  all_goals try first
    | exact ⟨Int.le_refl 0, by omega⟩
    | (rw [cand_no (by rw [hen0 (by omega)]; decide)]; exact ⟨LeS.refl _, trivial⟩)
    | (rw [cand_no (by rw [hst0 (by omega), if_pos (by assumption)]; decide)]; exact ⟨LeS.refl _, trivial⟩)
  have hl0 : 0 < g.mem.length := by omega
  have hu0 : (g.mem.getD 0 default).up = false := by assumption
  refine loop_auto [1, 2, 3, 18, 19] [1] (fun i : Nat => [(20, .d (.int .i64 i))]) (fun i => []) (fun i => i ≤ g.mem.length ∧ heirG g.mem 0 = heirG g.mem i) (fun i => g.mem.length - i) 0 ?_ (fun i hi => ?_) ⟨by omega, rfl⟩
  · conv => whnf
    repeat' first
      | (refine bc_true (by assumption) ?_; (conv => whnf))
      | (refine bc_false (by assumption) ?_; (conv => whnf))
      | (refine bc_intro (fun _ => ?_) (fun _ => ?_) <;> (conv => whnf))
      | (refine need_intro ?_ ?_; (conv => whnf))
      | (refine wk_refl ?_; (conv => whnf))
      | (refine draw_intro (by kernel_rfl) ?_; (conv => whnf))
      | (refine ord_intro (by kernel_rfl) ?_; (conv => whnf))
    all_goals first | exact trivial | exact DLe.refl _ | trace_state
  · obtain ⟨h2, h3⟩ := hi
    have hs : IntKind.i64.wrap ((i : Int) + 1) = ((i + 1 : Nat) : Int) := wrap_succ (n := 2000) (by omega) (by omega)
    have hst := fun h => heir_step (ms := g.mem) (i := i) h
    have hen := fun h => heir_end (ms := g.mem) (i := i) h
    conv => whnf
    repeat' first
      | (refine NextVC.mk (i + 1) ?_ ?_ ?_; (conv => whnf))
      | (refine bc_true (by assumption) ?_; (conv => whnf))
      | (refine bc_false (by assumption) ?_; (conv => whnf))
      | (refine bc_intro (fun _ => ?_) (fun _ => ?_) <;> (conv => whnf))
      | (refine need_intro ?_ ?_; (conv => whnf))
      | (refine wk_refl ?_; (conv => whnf))
      | (refine draw_intro (by kernel_rfl) ?_; (conv => whnf))
      | (refine ord_intro (by kernel_rfl) ?_; (conv => whnf))
    all_goals try simp only [decide_eq_true_eq, decide_eq_false_iff_not, Int.toNat_natCast] at *
    all_goals first
      | exact trivial
      | omega
      | exact DLe.refl _
      | exact DLe.of_eq (by rw [hs])
      | exact ⟨by omega, by omega⟩
      | (refine ⟨by omega, ?_⟩; rw [h3, hst (by omega), if_neg (by rw [Bool.not_eq_true]; assumption)])
      | (have hu : (g.mem.getD i default).up = true := by assumption
         have e : heirG g.mem 0 = (i : Int) := by rw [h3, hst (by omega), if_pos hu]
         have hi0 : i ≠ 0 := fun h => by subst h; rw [hu] at hu0; cases hu0
         rw [cand_yes (by rw [e]; omega), e]
         exact ⟨LeS.refl _, trivial⟩)
      | (rw [cand_no (by rw [h3, hen (by omega)]; decide)]; exact ⟨LeS.refl _, trivial⟩)
      | trace_state
theorem take_state {g : GrpT} (h : g.mem.length = 0 ∨ heirG g.mem 0 = 0) : takeG g = (noGrp, 7) := by rw [takeG, if_pos h]
theorem take_lost {g : GrpT} (h : ¬ (g.mem.length = 0 ∨ heirG g.mem 0 = 0)) (h2 : heirG g.mem 0 < 0) : takeG g = (noGrp, 15) := by rw [takeG, if_neg h, if_pos h2]
theorem take_full {g : GrpT} (h : ¬ (g.mem.length = 0 ∨ heirG g.mem 0 = 0)) (h2 : ¬ heirG g.mem 0 < 0) (h3 : ¬ (renewF [((g.mem.getD (heirG g.mem 0).toNat default).copy.se, (g.mem.getD (heirG g.mem 0).toNat default).copy.sv)]).2 = 0) :
    takeG g = (noGrp, (renewF [((g.mem.getD (heirG g.mem 0).toNat default).copy.se, (g.mem.getD (heirG g.mem 0).toNat default).copy.sv)]).2) := by rw [takeG, if_neg h, if_neg h2, if_pos h3]
theorem take_ok {g : GrpT} (h : ¬ (g.mem.length = 0 ∨ heirG g.mem 0 = 0)) (h2 : ¬ heirG g.mem 0 < 0) (h3 : (renewF [((g.mem.getD (heirG g.mem 0).toNat default).copy.se, (g.mem.getD (heirG g.mem 0).toNat default).copy.sv)]).2 = 0) :
    takeG g = ({ g with opn := false, mem := takenL g.mem (heirG g.mem 0).toNat (renewF [((g.mem.getD (heirG g.mem 0).toNat default).copy.se, (g.mem.getD (heirG g.mem 0).toNat default).copy.sv)]).1 }, 0) := by rw [takeG, if_neg h, if_neg h2, if_neg (by rw [h3]; simp)]
theorem row_oneS {e v : Int} {z : Nat → Nat → D} : RowLe 1 2 (tabF z [(0, [.int .i64 e, .int .i64 v])]) (cellOf encStp [(e, v)]) :=
  .of_eq fun i j hi hj => by
    have : i = 0 := by omega
    subst this
    exact jlt2 (p := fun j => tabF z [(0, [.int .i64 e, .int .i64 v])] 0 j = cellOf encStp [(e, v)] 0 j) rfl rfl j hj
theorem cloneM_cut (m : Nat) (xs : List MemT) (p : Nat) {n : Nat} {gf : Nat → Nat → D} : ((n = (xs.take p).length ∧ RowLe n 32 gf (cellOf encMem (xs.take p))) ∧ xs.length ≤ 1000) → Sx.Spec Tryz.prog GG 108 [.d (.list n 32 gf)] [] (.osl m 32 0 (xs.take p).length) [(m, .row 59 32 (xs.take p).length (cellOf encMem (xs.take p)))] := by
  rintro ⟨⟨rfl, hr⟩, hl⟩
  exact (cloneM_at m (xs.take p) (by simp only [List.length_take]; omega)).arg (LeL.cons (LeS.d (DLe.rows rfl hr)) LeL.nil)
theorem cloneGd_spec (g : GrpT) : GrpB 1000 g → Sx.Spec Tryz.prog GG 94 [.agg (grpL g)] [] (.agg (grpL g)) [] := by
  intro h
  have hl := h.len
  refine spec_intro (E := EE) (fn := Tryz.f94) eok (by kernel_rfl) (by kernel_rfl) Tryz.call94 (by kernel_rfl) (by kernel_rfl) ?_
  conv => whnf
  repeat' first
    | (refine call_if (cloneM_at 1000 g.mem) (by first | exact .inl rfl | exact .inr ⟨rfl, rfl⟩) (need_intro ?_ ?_); (conv => whnf))
    | (refine bc_true (by assumption) ?_; (conv => whnf))
    | (refine bc_false (by assumption) ?_; (conv => whnf))
    | (refine need_intro ?_ ?_; (conv => whnf))
    | (refine wk_refl ?_; (conv => whnf))
    | (refine draw_intro (by kernel_rfl) ?_; (conv => whnf))
    | (refine ord_intro (by kernel_rfl) ?_; (conv => whnf))
  all_goals try first | omega
  refine loop_auto [1, 2, 10] [2] (fun i : Nat => [(11, .d (.int .i64 i))]) (fun i => [(1, .box [.d (.int .i64 g.num), .d (.bool g.opn), .osl 1000 32 0 g.mem.length]), (1000, .row 59 32 g.mem.length (cellOf encMem g.mem))]) (fun i => i ≤ g.mem.length) (fun i => g.mem.length - i) 0 ?_ (fun i hi => ?_) (by omega)
  · conv => whnf
    repeat' first
      | (refine bc_true (by assumption) ?_; (conv => whnf))
      | (refine bc_false (by assumption) ?_; (conv => whnf))
      | (refine bc_intro (fun _ => ?_) (fun _ => ?_) <;> (conv => whnf))
      | (refine need_intro ?_ ?_; (conv => whnf))
      | (refine wk_refl ?_; (conv => whnf))
      | (refine draw_intro (by kernel_rfl) ?_; (conv => whnf))
      | (refine ord_intro (by kernel_rfl) ?_; (conv => whnf))
    all_goals first | exact trivial | exact DLe.refl _ | exact RowLe.refl _ _ _ | exact ⟨rfl, rfl⟩ | exact ⟨rfl, rfl, rfl⟩ | trace_state
  · have hs : IntKind.i64.wrap ((i : Int) + 1) = ((i + 1 : Nat) : Int) := wrap_succ (n := 2000) (by omega) (by omega)
    conv => whnf
    repeat' first
      | (refine call_if (cloneC_spec (g.mem.getD (0 + i) default).copy) (by first | exact .inl rfl | exact .inr ⟨rfl, rfl⟩) (need_intro ?_ ?_); (conv => whnf))
      | (refine NextVC.mk (i + 1) ?_ ?_ ?_; (conv => whnf))
      | (refine bc_true (by assumption) ?_; (conv => whnf))
      | (refine bc_false (by assumption) ?_; (conv => whnf))
      | (refine bc_intro (fun _ => ?_) (fun _ => ?_) <;> (conv => whnf))
      | (refine need_intro ?_ ?_; (conv => whnf))
      | (refine wk_refl ?_; (conv => whnf))
      | (refine draw_intro (by kernel_rfl) ?_; (conv => whnf))
      | (refine ord_intro (by kernel_rfl) ?_; (conv => whnf))
    all_goals try simp only [decide_eq_true_eq, decide_eq_false_iff_not, Int.toNat_natCast] at *
    all_goals first
      | exact trivial
      | omega
      | exact DLe.refl _
      | exact RowLe.refl _ _ _
      | exact mem_small h _
      | exact DLe.of_eq (by rw [hs])
      | exact ⟨by omega, by omega⟩
      | exact ⟨LeS.agg (LeL.cons (LeS.refl _) (LeL.cons (LeS.refl _) (LeL.cons (les_own rfl) LeL.nil))), trivial⟩
      | exact ⟨rfl, rfl⟩
      | exact ⟨rfl, rfl, rfl⟩
      | exact ⟨trivial, trivial, trivial⟩
      | exact row_sameC (by omega)
      | trace_state
theorem cell_take {ms : List MemT} {p i j : Nat} (h : i < p) : cellOf encMem (ms.take p) i j = cellOf encMem ms i j := by
  simp [cellOf, List.getD, List.getElem?_take, h]
theorem cut_cell2 {ms : List MemT} {p i j a b b' c : Nat} (hp : p < ms.length) (hi : i + 1 < ms.length) (hb' : b' = i) (ha : a = p) (hb : b = i) (hc : p ≤ i → c = i + 1) : (if b' < a then cellOf encMem (ms.take p) b j else cellOf encMem ms c j) = cellOf encMem (ms.take p ++ ms.drop (p + 1)) i j := by
  subst ha hb hb'
  split
  · rename_i h
    rw [cell_take h]
    simp only [cellOf]
    rw [getD_cutM hp hi, if_pos h]
  · rename_i h
    rw [hc (by omega)]
    simp only [cellOf]
    rw [getD_cutM hp hi, if_neg h]
set_option maxHeartbeats 1000000 in
theorem takep_spec (g : GrpT) : GrpB 1000 g → Sx.Spec Tryz.prog GG 75 [.agg (grpL g)] [] (.tup [.agg (grpL (takeG g).1), .d (.int .i64 (takeG g).2)]) [] := by
  intro h
  have hl := h.len
  have hn := fun hi => heir_nat (ms := g.mem) hi
  have hw : ¬ heirG g.mem 0 < 0 → IntKind.i64.wrap (heirG g.mem 0 + 1) = heirG g.mem 0 + 1 := fun hi => by
    have := hn hi
    exact wrap_of (by omega) (by omega)
  refine spec_intro (E := EL) (fn := Tryz.f75) eokL (by kernel_rfl) (by kernel_rfl) Tryz.call75 (by kernel_rfl) (by kernel_rfl) ?_
  conv => whnf
  repeat' first
    | (refine call_if (heirp_spec g) (by first | exact .inl rfl | exact .inr ⟨rfl, rfl⟩) (need_intro ?_ ?_); (conv => whnf))
    | (refine call_if (renewp_spec [((g.mem.getD (heirG g.mem 0).toNat default).copy.se, (g.mem.getD (heirG g.mem 0).toNat default).copy.sv)]) (by first | exact .inl rfl | exact .inr ⟨rfl, rfl⟩) (need_intro ?_ ?_); (conv => whnf))
    | (refine call_if (cloneGd_spec g) (by first | exact .inl rfl | exact .inr ⟨rfl, rfl⟩) (need_intro ?_ ?_); (conv => whnf))
    | (refine call_if (cloneM_cut 700 g.mem (heirG g.mem 0).toNat) (by first | exact .inl rfl | exact .inr ⟨rfl, rfl⟩) (need_intro ?_ ?_); (conv => whnf))
    | (refine bc_true (by assumption) ?_; (conv => whnf))
    | (refine bc_false (by assumption) ?_; (conv => whnf))
    | (refine bc_intro (fun _ => ?_) (fun _ => ?_) <;> (conv => whnf))
    | (refine need_intro ?_ ?_; (conv => whnf))
    | (refine wk_refl ?_; (conv => whnf))
    | (refine draw_intro (by kernel_rfl) ?_; (conv => whnf))
    | (refine ord_intro (by kernel_rfl) ?_; (conv => whnf))
  all_goals try simp only [cellsMem, bytesMem, decide_eq_true_eq, decide_eq_false_iff_not, bne_iff_ne, ne_eq, Decidable.not_not, Bool.not_eq_true', Bool.not_eq_false', bne_eq_false_iff_eq] at *
  all_goals try simp only [beq_iff_eq, beq_eq_false_iff_ne, ne_eq] at *
  all_goals first
    | exact h
    | exact hl
    | (rw [take_state (.inl (by omega))]
       exact ⟨LeS.tup (LeL.cons (LeS.agg (LeL.cons (LeS.refl _) (LeL.cons (LeS.refl _) (LeL.cons (les_nil rfl) LeL.nil)))) (LeL.cons (LeS.refl _) LeL.nil)), trivial⟩)
    | (rw [take_state (.inr (by omega))]
       exact ⟨LeS.tup (LeL.cons (LeS.agg (LeL.cons (LeS.refl _) (LeL.cons (LeS.refl _) (LeL.cons (les_nil rfl) LeL.nil)))) (LeL.cons (LeS.refl _) LeL.nil)), trivial⟩)
    | (rw [take_lost (by omega) (by omega)]
       exact ⟨LeS.tup (LeL.cons (LeS.agg (LeL.cons (LeS.refl _) (LeL.cons (LeS.refl _) (LeL.cons (les_nil rfl) LeL.nil)))) (LeL.cons (LeS.refl _) LeL.nil)), trivial⟩)
    | (rw [take_full (by omega) (by omega) (by assumption)]
       exact ⟨LeS.tup (LeL.cons (LeS.agg (LeL.cons (LeS.refl _) (LeL.cons (LeS.refl _) (LeL.cons (les_nil rfl) LeL.nil)))) (LeL.cons (LeS.refl _) LeL.nil)), trivial⟩)
    | exact ⟨⟨rfl, row_shift row_oneS⟩, by simp⟩
    | (have h1 := hn (by assumption); omega)
    | (have h1 := hn (by assumption); exact ⟨by omega, by omega⟩)
    | (have h1 := hn (by assumption); have h2 := hw (by assumption); simp only [Option.getD_some, Option.getD_none]; omega)
    | (have h1 := hn (by assumption); have h2 := hw (by assumption); simp only [Option.getD_some, Option.getD_none]; exact ⟨by omega, by omega, by omega⟩)
    | (have h1 := hn (by assumption); have h2 := hw (by assumption); simp only [Option.getD_some, Option.getD_none, List.length_take]; exact ⟨trivial, by omega, by omega⟩)
    | (have h1 := hn (by assumption)
       refine ⟨⟨by simp only [Option.getD_some, Option.getD_none, List.length_take]; omega, .of_eq fun i j hi _ => ?_⟩, hl⟩
       simp only [Option.getD_some, Option.getD_none] at hi ⊢
       have e1 : Int.toNat 0 + i = i := by omega
       rw [e1]
       exact (cell_take (by omega)).symm)
    | (have h1 := hn (by assumption)
       have h2 := hw (by assumption)
       rw [take_ok (by omega) (by omega) (by assumption)]
       have hlen : (takenL g.mem (heirG g.mem 0).toNat (renewF [((g.mem.getD (heirG g.mem 0).toNat default).copy.se, (g.mem.getD (heirG g.mem 0).toNat default).copy.sv)]).1).length = g.mem.length := by
         simp only [takenL, List.length_cons, List.length_append, List.length_take, List.length_drop]; omega
       refine ⟨LeS.tup (LeL.cons (LeS.agg (LeL.cons (LeS.refl _) (LeL.cons (LeS.refl _) (LeL.cons (LeS.d (DLe.rows ?_ (.of_eq fun i j hi hj => ?_))) LeL.nil)))) (LeL.cons (LeS.refl _) LeL.nil)), trivial⟩
       · simp only [Option.getD_some, Option.getD_none, List.length_take]
         rw [hlen]; omega
       · rw [hlen] at hi
         match i, hi with
         | 0, _ =>
           rw [if_pos (by omega)]
           revert j
           refine AllLt.out ?_
           repeat' first
             | exact trivial
             | exact rfl
             | apply And.intro
         | i + 1, hi =>
           rw [if_neg (by omega)]
           exact cut_cell2 (p := (heirG g.mem 0).toNat) h1.1 hi (by omega) (by rw [List.length_take]; omega) (by omega) (by intro _; simp only [Option.getD_some, List.length_take]; omega))
    | trace_state
end Go.Proofs.YtngdpchhogfhfaaGreatDoor
