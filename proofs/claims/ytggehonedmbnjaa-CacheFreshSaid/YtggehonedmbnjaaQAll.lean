/- Contracts of functions that the law reaches: YtggehonedmbnjaaQAll. Written for this claim. -/
import Derived.Test.YtggehonedmbnjaaQNum
namespace Go.Proofs.Ytggehonedmbnjaa
open Go Go.Sx Go.ChangeShapes Go.WideShapes Go.ChangeAt Go.RowKit
set_option linter.unusedVariables false
set_option linter.unusedSimpArgs false
set_option maxRecDepth 100000
/-! lists without a number -/
theorem less_keep {l : List Int} {n : Int} {i : Nat} (h : i < l.length) (hk : ¬ l.getD i default = n) : lessN (l.take (i + 1)) n = lessN (l.take i) n ++ [l.getD i default] := by
  rw [take_succ' h, lessN, List.filter_append, List.filter_cons, if_pos (by simpa using hk), List.filter_nil]; rfl
theorem less_drop {l : List Int} {n : Int} {i : Nat} (h : i < l.length) (hk : l.getD i default = n) : lessN (l.take (i + 1)) n = lessN (l.take i) n := by
  rw [take_succ' h, lessN, List.filter_append, List.filter_cons, if_neg (by rw [hk]; simp), List.filter_nil, List.append_nil]; rfl
theorem lessp_spec (l : List Int) (n : Int) : l.length ≤ 4294967296 → Sx.Spec Try.prog GG 30 [.d (encL encI 1 l), .d (.int .i64 n)] [] (.d (encL encI 1 (lessN l n))) [] := by
  intro hl
  refine spec_intro (E := EE) (fn := Try.f30) eok (by kernel_rfl) (by kernel_rfl) Try.call30 (by kernel_rfl) (by kernel_rfl) ?_
  conv => whnf
  repeat' first
    | (refine bc_true (by assumption) ?_; (conv => whnf))
    | (refine bc_false (by assumption) ?_; (conv => whnf))
    | (refine need_intro ?_ ?_; (conv => whnf))
    | (refine wk_refl ?_; (conv => whnf))
    | (refine draw_intro (by kernel_rfl) ?_; (conv => whnf))
    | (refine ord_intro (by kernel_rfl) ?_; (conv => whnf))
  refine loop_auto [1, 8, 9] [] (fun i : Nat => [(5, .osl 500 1 0 (lessN (l.take i) n).length), (10, .d (.int .i64 i))]) (fun i => [(500, .row 3 1 (lessN (l.take i) n).length (cellOf encI (lessN (l.take i) n)))]) (fun i => i ≤ l.length) (fun i => l.length - i) 0 ?_ (fun i hi => ?_) (by omega)
  · conv => whnf
    repeat' first
      | (refine bc_true (by assumption) ?_; (conv => whnf))
      | (refine bc_false (by assumption) ?_; (conv => whnf))
      | (refine bc_intro (fun _ => ?_) (fun _ => ?_) <;> (conv => whnf))
      | (refine need_intro ?_ ?_; (conv => whnf))
      | (refine wk_refl ?_; (conv => whnf))
      | (refine draw_intro (by kernel_rfl) ?_; (conv => whnf))
      | (refine ord_intro (by kernel_rfl) ?_; (conv => whnf))
    all_goals first | exact trivial | exact DLe.refl _ | exact DLe.nil | exact RowLe.refl _ _ _ | exact ⟨rfl, rfl⟩ | exact ⟨rfl, rfl, rfl⟩ | trace_state
  · have hs : IntKind.i64.wrap ((i : Int) + 1) = ((i + 1 : Nat) : Int) := wrap_succ (n := 4294967297) (by omega) (by omega)
    have hle : (lessN (l.take i) n).length ≤ i := Nat.le_trans lessN_len (by simp; omega)
    conv => whnf
    repeat' first
      | (refine NextVC.mk (i + 1) ?_ ?_ ?_; (conv => whnf))
      | (refine bc_true (by assumption) ?_; (conv => whnf))
      | (refine bc_false (by assumption) ?_; (conv => whnf))
      | (refine bc_intro (fun _ => ?_) (fun _ => ?_) <;> (conv => whnf))
      | (refine need_intro ?_ ?_; (conv => whnf))
      | (refine wk_refl ?_; (conv => whnf))
      | (refine draw_intro (by kernel_rfl) ?_; (conv => whnf))
      | (refine ord_intro (by kernel_rfl) ?_; (conv => whnf))
    all_goals try simp only [cellsLse, bytesLse, cellsI, bytesI, true_and, and_true, decide_eq_true_eq, decide_eq_false_iff_not, beq_iff_eq, bne_iff_ne, beq_eq_false_iff_ne, bne_eq_false_iff_eq, ne_eq, Decidable.not_not, Bool.not_eq_true', Bool.not_eq_false', Int.toNat_natCast] at *
    all_goals first
      | exact trivial
      | omega
      | exact DLe.refl _
      | exact DLe.of_eq (by rw [hs])
      | exact ⟨by omega, by omega⟩
      | (rw [less_keep (by omega) (by assumption)]; simp only [List.length_append, List.length_singleton]; done)
      | (rw [less_drop (by omega) (by assumption)]; done)
      | (rw [less_drop (by omega) (by assumption)]; exact RowLe.refl _ _ _)
      | (rw [less_keep (by omega) (by assumption)]; simp only [List.length_append, List.length_singleton]; exact row_snoc rfl (RowLe.refl _ _ _) (jlt1 (DLe.of_eq rfl)))
      | exact ⟨les_own (by rw [show i = l.length by omega, List.take_length]), trivial⟩
      | trace_state
/-! copies -/
theorem cloneL0 (xs : List LseT) : xs.length ≤ 1000000 → Sx.Spec Try.prog GG 39 [.d (encL encLse 9 xs)] [] (.osl 1000 9 0 xs.length) [(1000, .row 61 9 xs.length (cellOf encLse xs))] := by
  intro hl
  refine spec_intro (E := EE) (fn := Try.f39) eok (by kernel_rfl) (by kernel_rfl) Try.call39 (by kernel_rfl) (by kernel_rfl) ?_
  conv => whnf
  repeat' first
    | (refine bc_true (by assumption) ?_; (conv => whnf))
    | (refine bc_false (by assumption) ?_; (conv => whnf))
    | (refine bc_intro (fun _ => ?_) (fun _ => ?_) <;> (conv => whnf))
    | (refine need_intro ?_ ?_; (conv => whnf))
    | (refine wk_refl ?_; (conv => whnf))
    | (refine draw_intro (by kernel_rfl) ?_; (conv => whnf))
    | (refine ord_intro (by kernel_rfl) ?_; (conv => whnf))
  all_goals try simp only [cellsLse, bytesLse, cellsI, bytesI, true_and, and_true, decide_eq_true_eq, decide_eq_false_iff_not, beq_iff_eq, bne_iff_ne, beq_eq_false_iff_ne, bne_eq_false_iff_eq, ne_eq, Decidable.not_not, Bool.not_eq_true', Bool.not_eq_false', Int.toNat_natCast] at *
  all_goals first
    | exact trivial
    | omega
    | exact DLe.refl _
    | exact RowLe.refl _ _ _
    | exact ⟨by omega, by omega⟩
    | trace_state
theorem cloneL_at (m : Nat) (xs : List LseT) : xs.length ≤ 1000000 → Sx.Spec Try.prog GG 39 [.d (encL encLse 9 xs)] [] (.osl m 9 0 xs.length) [(m, .row 61 9 xs.length (cellOf encLse xs))] := fun h => (cloneL0 xs h).new1 m
theorem cell_set {l : List LseT} {p i j : Nat} {x : LseT} (hp : p < l.length) : cellOf encLse (l.set p x) i j = if i = p then (encLse x).getD j default else cellOf encLse l i j := by
  unfold cellOf
  rw [getD_setL hp]
  split <;> rfl
theorem allp0 (xs : List LseT) : LsB xs → Sx.Spec Try.prog GG 27 [.d (encL encLse 9 xs)] [] (.osl 1000 9 0 xs.length) [(1000, .row 61 9 xs.length (cellOf encLse xs))] := by
  intro h
  have hl := h.len
  have hb := h.at
  refine spec_intro (E := EE) (fn := Try.f27) eok (by kernel_rfl) (by kernel_rfl) Try.call27 (by kernel_rfl) (by kernel_rfl) ?_
  conv => whnf
  repeat' first
    | (refine call_if (cloneL_at 1000 xs) (by first | exact .inl rfl | exact .inr ⟨rfl, rfl⟩) (need_intro ?_ ?_); (conv => whnf))
    | (refine bc_true (by assumption) ?_; (conv => whnf))
    | (refine bc_false (by assumption) ?_; (conv => whnf))
    | (refine need_intro ?_ ?_; (conv => whnf))
    | (refine wk_refl ?_; (conv => whnf))
    | (refine draw_intro (by kernel_rfl) ?_; (conv => whnf))
    | (refine ord_intro (by kernel_rfl) ?_; (conv => whnf))
  all_goals try first | omega
  refine loop_auto [0, 6, 7] [] (fun i : Nat => [(8, .d (.int .i64 i))]) (fun i => [(1000, .row 61 9 xs.length (cellOf encLse xs))]) (fun i => i ≤ xs.length) (fun i => xs.length - i) 0 ?_ (fun i hi => ?_) (by omega)
  · conv => whnf
    repeat' first
      | (refine bc_true (by assumption) ?_; (conv => whnf))
      | (refine bc_false (by assumption) ?_; (conv => whnf))
      | (refine bc_intro (fun _ => ?_) (fun _ => ?_) <;> (conv => whnf))
      | (refine need_intro ?_ ?_; (conv => whnf))
      | (refine wk_refl ?_; (conv => whnf))
      | (refine draw_intro (by kernel_rfl) ?_; (conv => whnf))
      | (refine ord_intro (by kernel_rfl) ?_; (conv => whnf))
    all_goals first | exact trivial | exact DLe.refl _ | exact DLe.nil | exact RowLe.refl _ _ _ | exact ⟨rfl, rfl⟩ | exact ⟨rfl, rfl, rfl⟩ | trace_state
  · have hs : IntKind.i64.wrap ((i : Int) + 1) = ((i + 1 : Nat) : Int) := wrap_succ (n := 2000000) (by omega) (by omega)
    have hbi := hb i
    have hbj := hb (0 + i)
    conv => whnf
    repeat' first
      | (refine call_if (cloneI_spec _) (by first | exact .inl rfl | exact .inr ⟨rfl, rfl⟩) (need_intro ?_ ?_); (conv => whnf))
      | (refine NextVC.mk (i + 1) ?_ ?_ ?_; (conv => whnf))
      | (refine bc_true (by assumption) ?_; (conv => whnf))
      | (refine bc_false (by assumption) ?_; (conv => whnf))
      | (refine bc_intro (fun _ => ?_) (fun _ => ?_) <;> (conv => whnf))
      | (refine need_intro ?_ ?_; (conv => whnf))
      | (refine wk_refl ?_; (conv => whnf))
      | (refine draw_intro (by kernel_rfl) ?_; (conv => whnf))
      | (refine ord_intro (by kernel_rfl) ?_; (conv => whnf))
    all_goals try simp only [decide_eq_true_eq, decide_eq_false_iff_not, Int.toNat_natCast, Nat.zero_add] at *
    all_goals first
      | exact trivial
      | omega
      | exact DLe.refl _
      | exact RowLe.refl _ _ _
      | exact DLe.of_eq (by rw [hs])
      | exact ⟨by omega, by omega⟩
      | exact ⟨rfl, rfl⟩
      | exact ⟨rfl, rfl, rfl⟩
      | exact ⟨trivial, trivial, trivial⟩
      | (refine .of_eq fun i' j' _ hj => ?_
         try simp only [Nat.zero_add, Int.toNat_natCast, cell_set hl]
         by_cases hi9 : i' = i
         · subst hi9
           match j', hj with
           | 0, _ => first | rfl | (simp only [if_true]; rfl)
           | 1, _ => first | rfl | (simp only [if_true]; rfl)
           | 2, _ => first | rfl | (simp only [if_true]; rfl)
           | 3, _ => first | rfl | (simp only [if_true]; rfl)
           | 4, _ => first | rfl | (simp only [if_true]; rfl)
           | 5, _ => first | rfl | (simp only [if_true]; rfl)
           | 6, _ => first | rfl | (simp only [if_true]; rfl)
           | 7, _ => first | rfl | (simp only [if_true]; rfl)
           | 8, _ => first | rfl | (simp only [if_true]; rfl)
         · simp only [if_neg hi9])
      | trace_state
theorem allp_at (m : Nat) (xs : List LseT) {n : Nat} {g : Nat → Nat → D} : ((n = xs.length ∧ RowLe n 9 g (cellOf encLse xs)) ∧ LsB xs) → Sx.Spec Try.prog GG 27 [.d (.list n 9 g)] [] (.osl m 9 0 xs.length) [(m, .row 61 9 xs.length (cellOf encLse xs))] := fun ⟨⟨e, hr⟩, h⟩ => by
  subst e
  exact ((allp0 xs h).new1 m).arg (LeL.cons (LeS.d (DLe.rows rfl hr)) LeL.nil)
theorem allp_d {xs : List LseT} {n : Nat} {g : Nat → Nat → D} : ((n = xs.length ∧ RowLe n 9 g (cellOf encLse xs)) ∧ LsB xs) → Sx.Spec Try.prog GG 27 [.d (.list n 9 g)] [] (.d (encL encLse 9 xs)) [] := fun h => (allp_at 1000 xs h).pub1
theorem jlt9 {p : Nat → Prop} (h : AllLt p 9) : ∀ j, j < 9 → p j := h.out
theorem row_app3 {α : Type} [Inhabited α] {enc : α → List D} {k : Nat} {xs ys : List α} {x : α} {z : Nat → Nat → D} (hx : ∀ j, j < k → DLe (z 0 j) ((enc x).getD j default)) :
    LeS (.d (.list (xs.length + 1 + ys.length) k fun i j => if i < xs.length + 1 then if i < xs.length then cellOf enc xs i j else z (i - xs.length) j else cellOf enc ys (i - (xs.length + 1)) j)) (.d (encL enc k (xs ++ x :: ys))) := by
  have e : xs ++ x :: ys = (xs ++ [x]) ++ ys := by simp
  rw [e]
  have e2 : (xs ++ [x] ++ ys).length = xs.length + 1 + ys.length := by simp only [List.length_append, List.length_cons, List.length_nil]
  refine LeS.d (DLe.rows e2.symm ?_)
  rw [e2]
  exact row_append (n := xs.length + 1) (xs := xs ++ [x]) (g1 := fun i j => if i < xs.length then cellOf enc xs i j else z (i - xs.length) j) (g2 := cellOf enc ys) (by simp) (row_snoc rfl (RowLe.refl _ _ _) hx) (RowLe.refl _ _ _)
theorem insertp0 (l : List LseT) (x : LseT) : (LsB l ∧ l.length ≤ 900000 ∧ SortL l) → Sx.Spec Try.prog GG 25 [.d (encL encLse 9 l), .agg (lseL x)] [] (.d (encL encLse 9 (insL x l))) [] := by
  rintro ⟨h, hl, hs⟩
  have hp := plL_le (l := l) (k := x.key)
  have hi := ins_place (l := l) (x := x)
  have htl : (l.take (plL l x.key)).length = plL l x.key := by simp; omega
  have hdl : (l.drop (plL l x.key)).length = l.length - plL l x.key := by simp
  have hbt : LsB (l.take (plL l x.key)) := h.sub (List.take_sublist _ _)
  have hbd : LsB (l.drop (plL l x.key)) := h.sub (List.drop_sublist _ _)
  refine spec_intro (E := EE) (fn := Try.f25) eok (by kernel_rfl) (by kernel_rfl) Try.call25 (by kernel_rfl) (by kernel_rfl) ?_
  conv => whnf
  repeat' first
    | (refine call_if (inSearch_spec _ _) (by first | exact .inl rfl | exact .inr ⟨rfl, rfl⟩) (need_intro ?_ ?_); (conv => whnf))
    | (refine call_if (allp_at 14 (l.take (plL l x.key)) (g := fun i j => cellOf encLse l (Int.toNat 0 + i) j)) (by first | exact .inl rfl | exact .inr ⟨rfl, rfl⟩) (need_intro ?_ ?_); (conv => whnf))
    | (refine call_if (allp_d (xs := l.drop (plL l x.key))) (by first | exact .inl rfl | exact .inr ⟨rfl, rfl⟩) (need_intro ?_ ?_); (conv => whnf))
    | (refine bc_true (by assumption) ?_; (conv => whnf))
    | (refine bc_false (by assumption) ?_; (conv => whnf))
    | (refine bc_intro (fun _ => ?_) (fun _ => ?_) <;> (conv => whnf))
    | (refine need_intro ?_ ?_; (conv => whnf))
    | (refine wk_refl ?_; (conv => whnf))
    | (refine draw_intro (by kernel_rfl) ?_; (conv => whnf))
    | (refine ord_intro (by kernel_rfl) ?_; (conv => whnf))
  all_goals try simp only [cellsLse, bytesLse, cellsI, bytesI, true_and, and_true, decide_eq_true_eq, decide_eq_false_iff_not, beq_iff_eq, bne_iff_ne, beq_eq_false_iff_ne, bne_eq_false_iff_eq, ne_eq, Decidable.not_not, Bool.not_eq_true', Bool.not_eq_false', Int.toNat_natCast] at *
  all_goals try simp only [Option.getD_some, Option.getD_none, Int.toNat_natCast, Int.sub_zero, Int.toNat_zero, Nat.zero_add] at *
  all_goals first
    | exact trivial
    | omega
    | exact ⟨by omega, hs⟩
    | exact ⟨by omega, by omega⟩
    | exact ⟨by omega, by omega, by omega⟩
    | exact ⟨⟨htl.symm, row_take hp⟩, hbt⟩
    | exact ⟨⟨by rw [hdl]; omega, row_drop⟩, hbd⟩
    | (refine ⟨?_, trivial⟩
       rw [hi]
       refine row_app3 ?_
       (refine jlt9 ?_; (repeat' first | exact trivial | exact DLe.refl _ | exact DLe.nil | apply And.intro))
       done)
    | trace_state
/-! the reference's set -/
def setS (x : LseT) (l : List LseT) (i : Nat) (done : Bool) : List LseT := if done then setL x (l.take i) else l.take i
theorem set_go {x : LseT} {l : List LseT} {i : Nat} (hi : i < l.length) (hn : ∀ y ∈ l.take i, Op.bytesLess y.key x.key = true) (hx : Op.bytesLess (l.getD i default).key x.key = false) :
    setL x (l.take (i + 1)) = l.take i ++ [x] ++ (if (l.getD i default).key == x.key then [] else [l.getD i default]) := by
  rw [take_succ' hi]
  generalize l.take i = a at *
  induction a with
  | nil =>
    show setL x [l.getD i default] = _
    simp only [setL, hx, Bool.false_eq_true, if_false, List.filter_cons, List.filter_nil, List.nil_append]
    cases h : (l.getD i default).key == x.key <;> simp [h]
  | cons y a ih =>
    have hy := hn y (by simp)
    simp only [List.cons_append, setL, hy, if_true]
    rw [ih (fun z hz => hn z (by simp [hz]))]
theorem set_on {x : LseT} {l : List LseT} {i : Nat} (hi : i < l.length) (hd : ∃ y ∈ l.take i, Op.bytesLess y.key x.key = false) :
    setL x (l.take (i + 1)) = setL x (l.take i) ++ (if (l.getD i default).key == x.key then [] else [l.getD i default]) := by
  rw [take_succ' hi]
  generalize l.take i = a at *
  induction a with
  | nil => obtain ⟨y, hy, _⟩ := hd; cases hy
  | cons y a ih =>
    simp only [List.cons_append, setL]
    cases hy : Op.bytesLess y.key x.key with
    | true =>
      simp only [if_true]
      obtain ⟨z, hz, hnz⟩ := hd
      rcases List.mem_cons.1 hz with rfl | hz
      · rw [hy] at hnz; cases hnz
      · rw [ih ⟨z, hz, hnz⟩]; rfl
    | false =>
      simp only [Bool.false_eq_true, if_false]
      have e : y :: (a ++ [l.getD i default]) = (y :: a) ++ [l.getD i default] := rfl
      rw [e, List.filter_append, List.cons_append]
      congr 2
      simp only [List.filter_cons, List.filter_nil]
      cases h : (l.getD i default).key == x.key <;> simp [h]
theorem set_fin {x : LseT} {l : List LseT} (hn : ∀ y ∈ l, Op.bytesLess y.key x.key = true) : setL x l = l ++ [x] := by
  induction l with
  | nil => rfl
  | cons y l ih =>
    simp only [setL, hn y (by simp), if_true, List.cons_append]
    rw [ih (fun z hz => hn z (by simp [hz]))]
theorem setL_len {x : LseT} : ∀ {l : List LseT}, (setL x l).length ≤ l.length + 1
  | [] => by simp [setL]
  | y :: l => by
    simp only [setL]
    split
    · have := setL_len (x := x) (l := l); simp; omega
    · have := List.length_filter_le (fun z : LseT => !(z.key == x.key)) (y :: l)
      simp only [List.length_cons] at this ⊢; omega
theorem lt_ne {a b : List UInt8} (h : Op.bytesLess a b = true) (e : a = b) : False := by rw [e, bl_irrefl] at h; cases h
theorem setS_len {x : LseT} {l : List LseT} {i : Nat} {d : Bool} (hi : i ≤ l.length) : (setS x l i d).length ≤ i + 1 := by
  unfold setS
  cases d
  · simp; omega
  · have := setL_len (x := x) (l := l.take i)
    simp only [if_true, List.length_take] at this ⊢; omega
end Go.Proofs.Ytggehonedmbnjaa
