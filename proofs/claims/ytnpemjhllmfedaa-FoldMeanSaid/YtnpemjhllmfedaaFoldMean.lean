/- The law FoldMean of chapter 21 holds: for every input the call returns true and each argument reads behind the call as it read before. No condition. -/
import Derived.Test.YtnpemjhllmfedaaSxArg
import Derived.Test.YtnpemjhllmfedaaRows
import Derived.Test.YtnpemjhllmfedaaProg
namespace Go.Proofs.Ytnpemjhllmfedaa.foldMean
open Go Go.Sx Go.ChangeShapes Go.WideShapes Go.ChangeAt Go.RowKit
set_option linter.unusedVariables false
set_option linter.unusedSimpArgs false
abbrev EE : List Nat := [29, 37]
theorem eok : EOk Try.prog EE := by
  refine ⟨by kernel_rfl, ?_⟩
  intro T hT
  simp only [memN_iff] at hT
  simp only [List.mem_cons, List.not_mem_nil, or_false] at hT
  rcases hT with rfl | rfl <;> exact ⟨by kernel_rfl, by kernel_rfl⟩
def GG : Nat → Option (Nat × (Nat → D)) := fun _ => none
structure FoldR where
  count : Int
  numbers : Int
  sum : Int
  low : Int
  high : Int
  first : List UInt8
  last : List UInt8
abbrev encFold (f : FoldR) : SV := .agg [.d (.int .i64 f.count), .d (.int .i64 f.numbers), .d (.int .i64 f.sum), .d (.int .i64 f.low), .d (.int .i64 f.high), .d (.str f.first), .d (.str f.last)]
def meanF (f : FoldR) : Int × Bool :=
  if f.numbers < 1 then (0, false)
  else if f.sum.tmod f.numbers < 0 then (IntKind.i64.wrap (IntKind.i64.wrap (f.sum.tdiv f.numbers) - 1), true) else (IntKind.i64.wrap (f.sum.tdiv f.numbers), true)
theorem mean_spec (f : FoldR) : Sx.Spec Try.prog GG 9 [encFold f] [] (.tup [.d (.int .i64 (meanF f).1), .d (.bool (meanF f).2)]) [] := by
  refine spec_intro (E := EE) (fn := Try.f9) eok (by kernel_rfl) (by kernel_rfl) Try.call9 (by kernel_rfl) (by kernel_rfl) ?_
  conv => whnf
  repeat' first
    | (refine bc_true (by assumption) ?_; (conv => whnf))
    | (refine bc_false (by assumption) ?_; (conv => whnf))
    | (refine bc_intro (fun _ => ?_) (fun _ => ?_) <;> (conv => whnf))
    | (refine need_intro ?_ ?_; (conv => whnf))
  all_goals try simp only [decide_eq_true_eq, decide_eq_false_iff_not] at *
  all_goals first | omega | (refine ⟨LeS.of_eq ?_, trivial⟩; simp [meanF, *])
theorem mean2_spec (f : FoldR) : Sx.Spec Try.prog GG 10 [encFold f] [] (.tup [.d (.int .i64 (meanF f).1), .d (.bool (meanF f).2)]) [] := by
  refine spec_intro (E := EE) (fn := Try.f10) eok (by kernel_rfl) (by kernel_rfl) Try.call10 (by kernel_rfl) (by kernel_rfl) ?_
  conv => whnf
  repeat' first
    | (refine bc_true (by assumption) ?_; (conv => whnf))
    | (refine bc_false (by assumption) ?_; (conv => whnf))
    | (refine bc_intro (fun _ => ?_) (fun _ => ?_) <;> (conv => whnf))
    | (refine need_intro ?_ ?_; (conv => whnf))
  all_goals try simp only [decide_eq_true_eq, decide_eq_false_iff_not] at *
  all_goals first | omega | (refine ⟨LeS.of_eq ?_, trivial⟩; simp [meanF, *])
/-! number -/
def numLoop (s : List UInt8) : Nat → Nat → Int → Option Int
  | 0, _, acc => some acc
  | f + 1, pos, acc => if pos < s.length then
      (if ((runeAt s pos).1 : Int) < 48 ∨ ((runeAt s pos).1 : Int) > 57 then none
       else
         if IntKind.i64.wrap (IntKind.i64.wrap (acc * 10) + IntKind.i64.wrap (IntKind.i32.wrap ((runeAt s pos).1 - 48))) > 1000000000000 then none
         else numLoop s f (pos + (runeAt s pos).2) (IntKind.i64.wrap (IntKind.i64.wrap (acc * 10) + IntKind.i64.wrap (IntKind.i32.wrap ((runeAt s pos).1 - 48)))))
    else some acc
theorem runeAt_pos {s : List UInt8} {pos : Nat} (h : pos < s.length) : 1 ≤ (runeAt s pos).2 := by
  unfold runeAt
  by_cases ha : ((ByteArray.mk ⟨s⟩)[pos]'h).toNat < 128
  · rw [decode_ascii ⟨⟨s⟩⟩ pos h ha]; exact Nat.le_refl _
  · exact (decode_high ⟨⟨s⟩⟩ pos h (by omega)).2
theorem numLoop_end {s : List UInt8} {f pos : Nat} {acc : Int} (h : ¬ pos < s.length) : numLoop s f pos acc = some acc := by
  cases f with
  | zero => rfl
  | succ f => simp [numLoop, h]
def numTail (s : List UInt8) (neg : Bool) : Int × Bool :=
  if s = [] then (0, false)
  else if ((s.getD 0 0).toNat : Int) = 48 ∧ ((s.length : Int) > 1 ∨ neg = true) then (0, false)
  else match numLoop s s.length 0 0 with
    | none => (0, false)
    | some v => (if neg then IntKind.i64.wrap (0 - v) else v, true)
def number (l : List UInt8) : Int × Bool :=
  if (l.length : Int) > 0 ∧ ((l.getD 0 0).toNat : Int) = 45 then numTail (l.drop 1) true else numTail l false
def numPre (s : List UInt8) (x : Nat × Nat × Int) : Prop := s.length ≤ x.2.1 + x.1 ∧ numLoop s x.1 x.2.1 x.2.2 = numLoop s s.length 0 0
theorem numPre_pos {s : List UInt8} {x : Nat × Nat × Int} (h : numPre s x) (hp : x.2.1.blt s.length = true) : ∃ f, x.1 = f + 1 ∧ x.2.1 < s.length := by
  have hp : x.2.1 < s.length := Nat.le_of_ble_eq_true hp
  have := h.1
  exact ⟨x.1 - 1, by omega, hp⟩
theorem numPre_bad {s : List UInt8} {x : Nat × Nat × Int} (h : numPre s x) (hp : x.2.1.blt s.length = true) (hc : ((runeAt s x.2.1).1 : Int) < 48 ∨ ((runeAt s x.2.1).1 : Int) > 57) : numLoop s s.length 0 0 = none := by
  obtain ⟨f, e, hlt⟩ := numPre_pos h hp
  rw [← h.2, e]
  simp only [numLoop, hlt, hc, if_true]
theorem numPre_big {s : List UInt8} {x : Nat × Nat × Int} (h : numPre s x) (hp : x.2.1.blt s.length = true) (h1 : ¬ ((runeAt s x.2.1).1 : Int) < 48) (h2 : ¬ ((runeAt s x.2.1).1 : Int) > 57)
    (h3 : IntKind.i64.wrap (IntKind.i64.wrap (x.2.2 * 10) + IntKind.i64.wrap (IntKind.i32.wrap ((runeAt s x.2.1).1 - 48))) > 1000000000000) : numLoop s s.length 0 0 = none := by
  obtain ⟨f, e, hlt⟩ := numPre_pos h hp
  rw [← h.2, e]
  simp only [numLoop, hlt, h1, h2, h3, or_self, if_true, if_false]
theorem numPre_step {s : List UInt8} {x : Nat × Nat × Int} (h : numPre s x) (hp : x.2.1.blt s.length = true) (h1 : ¬ ((runeAt s x.2.1).1 : Int) < 48) (h2 : ¬ ((runeAt s x.2.1).1 : Int) > 57)
    (h3 : ¬ IntKind.i64.wrap (IntKind.i64.wrap (x.2.2 * 10) + IntKind.i64.wrap (IntKind.i32.wrap ((runeAt s x.2.1).1 - 48))) > 1000000000000) :
    numPre s (x.1 - 1, x.2.1 + (runeAt s x.2.1).2, IntKind.i64.wrap (IntKind.i64.wrap (x.2.2 * 10) + IntKind.i64.wrap (IntKind.i32.wrap ((runeAt s x.2.1).1 - 48)))) := by
  obtain ⟨f, e, hlt⟩ := numPre_pos h hp
  have hw := runeAt_pos hlt
  refine ⟨by have := h.1; simp only; omega, ?_⟩
  rw [← h.2, e]
  simp only [numLoop, hlt, h1, h2, h3, or_self, if_true, if_false, Nat.add_sub_cancel]
theorem numPre_lt {s : List UInt8} {x : Nat × Nat × Int} (h : numPre s x) (hp : x.2.1.blt s.length = true) : x.1 - 1 < x.1 := by
  obtain ⟨f, e, hlt⟩ := numPre_pos h hp
  omega
theorem numPre_end {s : List UInt8} {x : Nat × Nat × Int} (h : numPre s x) (hp : x.2.1.blt s.length = false) : numLoop s s.length 0 0 = some x.2.2 := by
  rw [← h.2]
  refine numLoop_end (fun hlt => ?_)
  rw [show x.2.1.blt s.length = true from Nat.ble_eq_true_of_le hlt] at hp
  cases hp
set_option maxRecDepth 100000 in
theorem number_spec (l : List UInt8) : Sx.Spec Try.prog GG 6 [.d (.str l)] [] (.tup [.d (.int .i64 (number l).1), .d (.bool (number l).2)]) [] := by
  refine spec_intro (E := EE) (fn := Try.f6) eok (by kernel_rfl) (by kernel_rfl) Try.call6 (by kernel_rfl) (by kernel_rfl) ?_
  conv => whnf
  repeat' first
    | (refine bc_true (by assumption) ?_; (conv => whnf))
    | (refine bc_false (by assumption) ?_; (conv => whnf))
    | (refine bc_intro (fun _ => ?_) (fun _ => ?_) <;> (conv => whnf))
    | (refine need_intro ?_ ?_; (conv => whnf))
  all_goals try simp only [decide_eq_true_eq, decide_eq_false_iff_not, beq_iff_eq, beq_eq_false_iff_ne, ne_eq, Int.toNat_one, Int.toNat_zero] at *
  all_goals first
    | omega
    | (exfalso; have := lpos (by assumption : ¬ l = []); omega)
    | (have := lpos (by assumption : ¬ List.drop 1 l = []); exact ⟨by decide, by omega⟩)
    | (refine ⟨LeS.of_eq ?_, trivial⟩; simp only [number, numTail, *, eq_self, List.length_nil, gt_iff_lt, Int.natCast_zero, Int.cast_ofNat_Int, and_self, true_and, and_true, true_or, or_true, or_false, false_or, and_false, false_and, if_true, if_false, not_true_eq_false, not_false_eq_true, reduceIte, reduceCtorEq, Bool.false_eq_true, Int.reduceEq, Int.reduceLT, Int.reduceLE, Int.reduceGT, Int.reduceGE]; done)
    | (refine ⟨LeS.of_eq ?_, trivial⟩; simp_all [number, numTail]; done)
    | (exfalso; simp_all; done)
    | skip
  · skip
    refine loop_auto [5, 36] [] (fun x : Nat × Nat × Int => [(6, .d (.int .i64 x.2.2))]) (fun x => [(36, .iter (l.drop 1) x.2.1)]) (numPre (l.drop 1)) (fun x => x.1) (List.length (l.drop 1), 0, 0) ?_ (fun x hx => ?_) ⟨by simp, rfl⟩
    · conv => whnf
      repeat' first
        | (refine bc_true (by assumption) ?_; (conv => whnf))
        | (refine bc_false (by assumption) ?_; (conv => whnf))
        | (refine bc_intro (fun _ => ?_) (fun _ => ?_) <;> (conv => whnf))
        | (refine need_intro ?_ ?_; (conv => whnf))
      all_goals first | exact ⟨rfl, rfl⟩ | exact ⟨rfl, rfl, rfl⟩ | exact DLe.refl _ | exact trivial
    · conv => whnf
      repeat' first
        | (refine NextVC.mk (x.1 - 1, x.2.1 + (runeAt (l.drop 1) x.2.1).2, IntKind.i64.wrap (IntKind.i64.wrap (x.2.2 * 10) + IntKind.i64.wrap (IntKind.i32.wrap ((runeAt (l.drop 1) x.2.1).1 - 48)))) ?_ ?_ ?_; (conv => whnf))
        | (refine bc_true (by assumption) ?_; (conv => whnf))
        | (refine bc_false (by assumption) ?_; (conv => whnf))
        | (refine bc_intro (fun _ => ?_) (fun _ => ?_) <;> (conv => whnf))
        | (refine need_intro ?_ ?_; (conv => whnf))
      all_goals try simp only [decide_eq_true_eq, decide_eq_false_iff_not, beq_iff_eq, beq_eq_false_iff_ne, ne_eq, Int.toNat_one, Int.toNat_zero] at *
      all_goals first
        | exact ⟨trivial, trivial⟩
        | exact ⟨rfl, rfl⟩
        | exact DLe.refl _
        | exact trivial
        | exact numPre_step hx (by assumption) (by assumption) (by assumption) (by assumption)
        | exact numPre_lt hx (by assumption)
        | (have e := numPre_bad hx (by assumption) (.inl (by assumption)); refine ⟨LeS.of_eq ?_, trivial⟩; simp only [number, numTail, *, eq_self, List.length_nil, gt_iff_lt, Int.natCast_zero, Int.cast_ofNat_Int, and_self, true_and, and_true, true_or, or_true, or_false, false_or, and_false, false_and, if_true, if_false, not_true_eq_false, not_false_eq_true, reduceIte, reduceCtorEq, Bool.false_eq_true, Int.reduceEq, Int.reduceLT, Int.reduceLE, Int.reduceGT, Int.reduceGE]; done)
        | (have e := numPre_bad hx (by assumption) (.inr (by assumption)); refine ⟨LeS.of_eq ?_, trivial⟩; simp only [number, numTail, *, eq_self, List.length_nil, gt_iff_lt, Int.natCast_zero, Int.cast_ofNat_Int, and_self, true_and, and_true, true_or, or_true, or_false, false_or, and_false, false_and, if_true, if_false, not_true_eq_false, not_false_eq_true, reduceIte, reduceCtorEq, Bool.false_eq_true, Int.reduceEq, Int.reduceLT, Int.reduceLE, Int.reduceGT, Int.reduceGE]; done)
        | (have e := numPre_big hx (by assumption) (by assumption) (by assumption) (by assumption); refine ⟨LeS.of_eq ?_, trivial⟩; simp only [number, numTail, *, eq_self, List.length_nil, gt_iff_lt, Int.natCast_zero, Int.cast_ofNat_Int, and_self, true_and, and_true, true_or, or_true, or_false, false_or, and_false, false_and, if_true, if_false, not_true_eq_false, not_false_eq_true, reduceIte, reduceCtorEq, Bool.false_eq_true, Int.reduceEq, Int.reduceLT, Int.reduceLE, Int.reduceGT, Int.reduceGE]; done)
        | (have e := numPre_end hx (by assumption); refine ⟨LeS.of_eq ?_, trivial⟩; simp only [number, numTail, *, eq_self, List.length_nil, gt_iff_lt, Int.natCast_zero, Int.cast_ofNat_Int, and_self, true_and, and_true, true_or, or_true, or_false, false_or, and_false, false_and, if_true, if_false, not_true_eq_false, not_false_eq_true, reduceIte, reduceCtorEq, Bool.false_eq_true, Int.reduceEq, Int.reduceLT, Int.reduceLE, Int.reduceGT, Int.reduceGE]; done)
  · skip
    refine loop_auto [5, 36] [] (fun x : Nat × Nat × Int => [(6, .d (.int .i64 x.2.2))]) (fun x => [(36, .iter (l) x.2.1)]) (numPre (l)) (fun x => x.1) (List.length (l), 0, 0) ?_ (fun x hx => ?_) ⟨by simp, rfl⟩
    · conv => whnf
      repeat' first
        | (refine bc_true (by assumption) ?_; (conv => whnf))
        | (refine bc_false (by assumption) ?_; (conv => whnf))
        | (refine bc_intro (fun _ => ?_) (fun _ => ?_) <;> (conv => whnf))
        | (refine need_intro ?_ ?_; (conv => whnf))
      all_goals first | exact ⟨rfl, rfl⟩ | exact ⟨rfl, rfl, rfl⟩ | exact DLe.refl _ | exact trivial
    · conv => whnf
      repeat' first
        | (refine NextVC.mk (x.1 - 1, x.2.1 + (runeAt (l) x.2.1).2, IntKind.i64.wrap (IntKind.i64.wrap (x.2.2 * 10) + IntKind.i64.wrap (IntKind.i32.wrap ((runeAt (l) x.2.1).1 - 48)))) ?_ ?_ ?_; (conv => whnf))
        | (refine bc_true (by assumption) ?_; (conv => whnf))
        | (refine bc_false (by assumption) ?_; (conv => whnf))
        | (refine bc_intro (fun _ => ?_) (fun _ => ?_) <;> (conv => whnf))
        | (refine need_intro ?_ ?_; (conv => whnf))
      all_goals try simp only [decide_eq_true_eq, decide_eq_false_iff_not, beq_iff_eq, beq_eq_false_iff_ne, ne_eq, Int.toNat_one, Int.toNat_zero] at *
      all_goals first
        | exact ⟨trivial, trivial⟩
        | exact ⟨rfl, rfl⟩
        | exact DLe.refl _
        | exact trivial
        | exact numPre_step hx (by assumption) (by assumption) (by assumption) (by assumption)
        | exact numPre_lt hx (by assumption)
        | (have e := numPre_bad hx (by assumption) (.inl (by assumption)); refine ⟨LeS.of_eq ?_, trivial⟩; simp only [number, numTail, *, eq_self, List.length_nil, gt_iff_lt, Int.natCast_zero, Int.cast_ofNat_Int, and_self, true_and, and_true, true_or, or_true, or_false, false_or, and_false, false_and, if_true, if_false, not_true_eq_false, not_false_eq_true, reduceIte, reduceCtorEq, Bool.false_eq_true, Int.reduceEq, Int.reduceLT, Int.reduceLE, Int.reduceGT, Int.reduceGE]; done)
        | (have e := numPre_bad hx (by assumption) (.inr (by assumption)); refine ⟨LeS.of_eq ?_, trivial⟩; simp only [number, numTail, *, eq_self, List.length_nil, gt_iff_lt, Int.natCast_zero, Int.cast_ofNat_Int, and_self, true_and, and_true, true_or, or_true, or_false, false_or, and_false, false_and, if_true, if_false, not_true_eq_false, not_false_eq_true, reduceIte, reduceCtorEq, Bool.false_eq_true, Int.reduceEq, Int.reduceLT, Int.reduceLE, Int.reduceGT, Int.reduceGE]; done)
        | (have e := numPre_big hx (by assumption) (by assumption) (by assumption) (by assumption); refine ⟨LeS.of_eq ?_, trivial⟩; simp only [number, numTail, *, eq_self, List.length_nil, gt_iff_lt, Int.natCast_zero, Int.cast_ofNat_Int, and_self, true_and, and_true, true_or, or_true, or_false, false_or, and_false, false_and, if_true, if_false, not_true_eq_false, not_false_eq_true, reduceIte, reduceCtorEq, Bool.false_eq_true, Int.reduceEq, Int.reduceLT, Int.reduceLE, Int.reduceGT, Int.reduceGE]; done)
        | (have e := numPre_end hx (by assumption); refine ⟨LeS.of_eq ?_, trivial⟩; simp only [number, numTail, *, eq_self, List.length_nil, gt_iff_lt, Int.natCast_zero, Int.cast_ofNat_Int, and_self, true_and, and_true, true_or, or_true, or_false, false_or, and_false, false_and, if_true, if_false, not_true_eq_false, not_false_eq_true, reduceIte, reduceCtorEq, Bool.false_eq_true, Int.reduceEq, Int.reduceLT, Int.reduceLE, Int.reduceGT, Int.reduceGE]; done)
  · skip
    refine loop_auto [5, 36] [] (fun x : Nat × Nat × Int => [(6, .d (.int .i64 x.2.2))]) (fun x => [(36, .iter (l) x.2.1)]) (numPre (l)) (fun x => x.1) (List.length (l), 0, 0) ?_ (fun x hx => ?_) ⟨by simp, rfl⟩
    · conv => whnf
      repeat' first
        | (refine bc_true (by assumption) ?_; (conv => whnf))
        | (refine bc_false (by assumption) ?_; (conv => whnf))
        | (refine bc_intro (fun _ => ?_) (fun _ => ?_) <;> (conv => whnf))
        | (refine need_intro ?_ ?_; (conv => whnf))
      all_goals first | exact ⟨rfl, rfl⟩ | exact ⟨rfl, rfl, rfl⟩ | exact DLe.refl _ | exact trivial
    · conv => whnf
      repeat' first
        | (refine NextVC.mk (x.1 - 1, x.2.1 + (runeAt (l) x.2.1).2, IntKind.i64.wrap (IntKind.i64.wrap (x.2.2 * 10) + IntKind.i64.wrap (IntKind.i32.wrap ((runeAt (l) x.2.1).1 - 48)))) ?_ ?_ ?_; (conv => whnf))
        | (refine bc_true (by assumption) ?_; (conv => whnf))
        | (refine bc_false (by assumption) ?_; (conv => whnf))
        | (refine bc_intro (fun _ => ?_) (fun _ => ?_) <;> (conv => whnf))
        | (refine need_intro ?_ ?_; (conv => whnf))
      all_goals try simp only [decide_eq_true_eq, decide_eq_false_iff_not, beq_iff_eq, beq_eq_false_iff_ne, ne_eq, Int.toNat_one, Int.toNat_zero] at *
      all_goals first
        | exact ⟨trivial, trivial⟩
        | exact ⟨rfl, rfl⟩
        | exact DLe.refl _
        | exact trivial
        | exact numPre_step hx (by assumption) (by assumption) (by assumption) (by assumption)
        | exact numPre_lt hx (by assumption)
        | (have e := numPre_bad hx (by assumption) (.inl (by assumption)); refine ⟨LeS.of_eq ?_, trivial⟩; simp only [number, numTail, *, eq_self, List.length_nil, gt_iff_lt, Int.natCast_zero, Int.cast_ofNat_Int, and_self, true_and, and_true, true_or, or_true, or_false, false_or, and_false, false_and, if_true, if_false, not_true_eq_false, not_false_eq_true, reduceIte, reduceCtorEq, Bool.false_eq_true, Int.reduceEq, Int.reduceLT, Int.reduceLE, Int.reduceGT, Int.reduceGE]; done)
        | (have e := numPre_bad hx (by assumption) (.inr (by assumption)); refine ⟨LeS.of_eq ?_, trivial⟩; simp only [number, numTail, *, eq_self, List.length_nil, gt_iff_lt, Int.natCast_zero, Int.cast_ofNat_Int, and_self, true_and, and_true, true_or, or_true, or_false, false_or, and_false, false_and, if_true, if_false, not_true_eq_false, not_false_eq_true, reduceIte, reduceCtorEq, Bool.false_eq_true, Int.reduceEq, Int.reduceLT, Int.reduceLE, Int.reduceGT, Int.reduceGE]; done)
        | (have e := numPre_big hx (by assumption) (by assumption) (by assumption) (by assumption); refine ⟨LeS.of_eq ?_, trivial⟩; simp only [number, numTail, *, eq_self, List.length_nil, gt_iff_lt, Int.natCast_zero, Int.cast_ofNat_Int, and_self, true_and, and_true, true_or, or_true, or_false, false_or, and_false, false_and, if_true, if_false, not_true_eq_false, not_false_eq_true, reduceIte, reduceCtorEq, Bool.false_eq_true, Int.reduceEq, Int.reduceLT, Int.reduceLE, Int.reduceGT, Int.reduceGE]; done)
        | (have e := numPre_end hx (by assumption); refine ⟨LeS.of_eq ?_, trivial⟩; simp only [number, numTail, *, eq_self, List.length_nil, gt_iff_lt, Int.natCast_zero, Int.cast_ofNat_Int, and_self, true_and, and_true, true_or, or_true, or_false, false_or, and_false, false_and, if_true, if_false, not_true_eq_false, not_false_eq_true, reduceIte, reduceCtorEq, Bool.false_eq_true, Int.reduceEq, Int.reduceLT, Int.reduceLE, Int.reduceGT, Int.reduceGE]; done)
/-! sum.add -/
abbrev cells (f : FoldR) : List SV := [.d (.int .i64 f.count), .d (.int .i64 f.numbers), .d (.int .i64 f.sum), .d (.int .i64 f.low), .d (.int .i64 f.high), .d (.str f.first), .d (.str f.last)]
abbrev encRow (k v : List UInt8) : SV := .agg [.d (.str k), .d (.str v)]
def addF (f : FoldR) (k v : List UInt8) : FoldR :=
  if (number v).2 = true then
    { count := IntKind.i64.wrap (f.count + 1), first := if f.count = 0 then k else f.first, last := k, numbers := IntKind.i64.wrap (f.numbers + 1), sum := IntKind.i64.wrap (f.sum + (number v).1),
      low := if f.numbers = 0 ∨ (number v).1 < f.low then (number v).1 else f.low, high := if f.numbers = 0 ∨ (number v).1 > f.high then (number v).1 else f.high }
  else { count := IntKind.i64.wrap (f.count + 1), first := if f.count = 0 then k else f.first, last := k, numbers := f.numbers, sum := f.sum, low := f.low, high := f.high }
set_option maxRecDepth 100000 in
theorem add_spec0 (f : FoldR) (k v : List UInt8) : Sx.Spec Try.prog GG 12 [.ptr 1000 0, encRow k v] [(1000, .box (cells f))] (.tup []) [(1000, .box (cells (addF f k v)))] := by
  refine spec_intro (E := EE) (fn := Try.f12) eok (by kernel_rfl) (by kernel_rfl) Try.call12 (by kernel_rfl) (by kernel_rfl) ?_
  conv => whnf
  repeat' first
    | (refine call_intro (number_spec _) ?_ (by first | exact .inl rfl | exact .inr rfl); (conv => whnf))
    | (refine bc_true (by assumption) ?_; (conv => whnf))
    | (refine bc_false (by assumption) ?_; (conv => whnf))
    | (refine bc_intro (fun _ => ?_) (fun _ => ?_) <;> (conv => whnf))
    | (refine need_intro ?_ ?_; (conv => whnf))
  all_goals try simp only [decide_eq_true_eq, decide_eq_false_iff_not, beq_iff_eq, beq_eq_false_iff_ne, ne_eq, Int.toNat_one, Int.toNat_zero, Bool.not_eq_true', Bool.not_eq_false'] at *
  all_goals refine ⟨LeS.refl _, LeL.of_eq ?_, trivial⟩
  all_goals simp only [addF, *, eq_self, List.length_nil, gt_iff_lt, Int.natCast_zero, Int.cast_ofNat_Int, and_self, true_and, and_true, true_or, or_true, or_false, false_or, and_false, false_and, if_true, if_false, not_true_eq_false, not_false_eq_true, reduceIte, reduceCtorEq, Bool.false_eq_true, Int.reduceEq, Int.reduceLT, Int.reduceLE, Int.reduceGT, Int.reduceGE]
theorem add_spec (m : Nat) (f : FoldR) (k v : List UInt8) : Sx.Spec Try.prog GG 12 [.ptr m 0, encRow k v] [(m, .box (cells f))] (.tup []) [(m, .box (cells (addF f k v)))] := (add_spec0 f k v).at m
/-! fold.Of -/
def rowCell (rows : List (List UInt8 × List UInt8)) (i : Nat) : Nat → D
  | 0 => .str (rows.getD i ([], [])).1
  | _ => .str (rows.getD i ([], [])).2
abbrev encRows (rows : List (List UInt8 × List UInt8)) : SV := .d (.list rows.length 2 (rowCell rows))
def foldOf (rows : List (List UInt8 × List UInt8)) : FoldR := rows.foldl (fun f r => addF f r.1 r.2) ⟨0, 0, 0, 0, 0, [], []⟩
theorem foldOf_take {rows : List (List UInt8 × List UInt8)} {i : Nat} (h : i < rows.length) : foldOf (rows.take (i + 1)) = addF (foldOf (rows.take i)) (rows.getD i ([], [])).1 (rows.getD i ([], [])).2 := by
  rw [List.take_add_one, List.getElem?_eq_getElem h, foldOf, List.foldl_append]
  simp [foldOf, h]
set_option maxRecDepth 100000 in
theorem of_spec (rows : List (List UInt8 × List UInt8)) (hlen : rows.length ≤ 9223372036854775807) : Sx.Spec Try.prog GG 11 [encRows rows] [] (encFold (foldOf rows)) [] := by
  refine spec_intro (E := EE) (fn := Try.f11) eok (by kernel_rfl) (by kernel_rfl) Try.call11 (by kernel_rfl) (by kernel_rfl) ?_
  conv => whnf
  repeat' first
    | (refine bc_true (by assumption) ?_; (conv => whnf))
    | (refine bc_false (by assumption) ?_; (conv => whnf))
    | (refine bc_intro (fun _ => ?_) (fun _ => ?_) <;> (conv => whnf))
    | (refine need_intro ?_ ?_; (conv => whnf))
  refine loop_auto [2, 6, 7, 3] [2] (fun i : Nat => [(8, .d (.int .i64 i))]) (fun i => [(3, .box (cells (foldOf (rows.take i))))]) (fun i => i ≤ rows.length) (fun i => rows.length - i) 0 ?_ (fun i hi => ?_) (by simp)
  · conv => whnf
    repeat' first
      | (refine bc_true (by assumption) ?_; (conv => whnf))
      | (refine bc_false (by assumption) ?_; (conv => whnf))
      | (refine bc_intro (fun _ => ?_) (fun _ => ?_) <;> (conv => whnf))
      | (refine need_intro ?_ ?_; (conv => whnf))
    all_goals first | exact ⟨rfl, rfl⟩ | exact ⟨rfl, rfl, rfl⟩ | exact DLe.refl _ | exact trivial
  · conv => whnf
    repeat' first
      | (refine call_intro (add_spec 3 _ _ _) ?_ (by first | exact .inl rfl | exact .inr rfl); (conv => whnf))
      | (refine NextVC.mk (i + 1) ?_ ?_ ?_; (conv => whnf))
      | (refine bc_true (by assumption) ?_; (conv => whnf))
      | (refine bc_false (by assumption) ?_; (conv => whnf))
      | (refine bc_intro (fun _ => ?_) (fun _ => ?_) <;> (conv => whnf))
      | (refine need_intro ?_ ?_; (conv => whnf))
    all_goals try simp only [decide_eq_true_eq, decide_eq_false_iff_not, Int.toNat_natCast] at *
    all_goals first
      | omega
      | exact trivial
      | exact DLe.refl _
      | exact DLe.of_eq (by rw [foldOf_take (by omega)])
      | exact DLe.of_eq (by rw [wrap_succ (by omega) hlen])
      | (have : i = rows.length := by omega
         subst this
         refine ⟨LeS.of_eq ?_, trivial⟩
         simp only [List.take_length])
/-! awake -/
def awakeRows : List (List UInt8 × List UInt8) := [([97], [51]), ([98], [120]), ([99], [45, 49])]
theorem number_1 : number [45, 55] = (-7, true) := by decide
theorem number_2 : number [48, 55] = (0, false) := by decide
theorem foldOf_awake : foldOf awakeRows = ⟨3, 2, 2, -1, 3, [97], [99]⟩ := by rfl
theorem of_awake {get : Nat → Nat → D} (h : RowLe 3 2 get (rowCell awakeRows)) : Sx.Spec Try.prog GG 11 [.d (.list 3 2 get)] [] (encFold ⟨3, 2, 2, -1, 3, [97], [99]⟩) [] := by
  have := of_spec awakeRows (by decide)
  rw [foldOf_awake] at this
  exact this.arg (LeL.cons (LeS.d (DLe.list rfl (fun _ => rfl) h.le)) LeL.nil)
theorem number_at {l : List UInt8} {x : Int × Bool} (h : number l = x) : Sx.Spec Try.prog GG 6 [.d (.str l)] [] (.tup [.d (.int .i64 x.1), .d (.bool x.2)]) [] := h ▸ number_spec l
set_option maxRecDepth 100000 in
theorem awake_spec : Sx.Spec Try.prog GG 8 [] [] (.d (.bool true)) [] := by
  refine spec_intro (E := EE) (fn := Try.f8) eok (by kernel_rfl) (by kernel_rfl) Try.call8 (by kernel_rfl) (by kernel_rfl) ?_
  conv => whnf
  repeat' first
    | (refine call_intro (of_awake (.all (by repeat' first | exact trivial | exact rfl | apply And.intro))) ?_ (by first | exact .inl rfl | exact .inr rfl); (conv => whnf))
    | (refine call_intro (number_at number_1) ?_ (by first | exact .inl rfl | exact .inr rfl); (conv => whnf))
    | (refine call_intro (number_at number_2) ?_ (by first | exact .inl rfl | exact .inr rfl); (conv => whnf))
    | (refine bc_true (by assumption) ?_; (conv => whnf))
    | (refine bc_false (by assumption) ?_; (conv => whnf))
    | (refine bc_intro (fun _ => ?_) (fun _ => ?_) <;> (conv => whnf))
    | (refine need_intro ?_ ?_; (conv => whnf))
  all_goals exact ⟨LeS.refl _, trivial⟩
/-! FoldMean -/
theorem mean_at (c n s l h : Int) (f la : List UInt8) : Sx.Spec Try.prog GG 9 [.agg [.d (.int .i64 c), .d (.int .i64 n), .d (.int .i64 s), .d (.int .i64 l), .d (.int .i64 h), .d (.str f), .d (.str la)]] []
    (.tup [.d (.int .i64 (meanF ⟨c, n, s, l, h, f, la⟩).1), .d (.bool (meanF ⟨c, n, s, l, h, f, la⟩).2)]) [] := mean_spec ⟨c, n, s, l, h, f, la⟩
theorem mean2_at (c n s l h : Int) (f la : List UInt8) : Sx.Spec Try.prog GG 10 [.agg [.d (.int .i64 c), .d (.int .i64 n), .d (.int .i64 s), .d (.int .i64 l), .d (.int .i64 h), .d (.str f), .d (.str la)]] []
    (.tup [.d (.int .i64 (meanF ⟨c, n, s, l, h, f, la⟩).1), .d (.bool (meanF ⟨c, n, s, l, h, f, la⟩).2)]) [] := mean2_spec ⟨c, n, s, l, h, f, la⟩
theorem mean_law (n s : Int) (hs1 : -36028797018963968 ≤ s) (hs2 : s < 36028797018963968) (hn1 : 0 ≤ n) (hn2 : n < 256) (f : FoldR) (h1 : f.numbers = n) (h2 : f.sum = s) :
    (n ≤ 0 → meanF f = (0, false)) ∧ (0 < n → (meanF f).2 = true ∧ 0 ≤ s - (meanF f).1 * n ∧ s - (meanF f).1 * n < n ∧ -36028797018964300 < (meanF f).1 * n ∧ (meanF f).1 * n < 36028797018964300) := by
  subst h1; subst h2
  refine ⟨fun h => ?_, fun h => ?_⟩
  · simp only [meanF]
    rw [if_pos (by omega)]
  · have e := Int.tdiv_mul_add_tmod f.sum f.numbers
    have hlt : f.sum.tmod f.numbers < f.numbers := Int.tmod_lt_of_pos _ h
    have hgt : -f.numbers < f.sum.tmod f.numbers := Int.lt_tmod_of_pos _ h
    have hq := Int.natAbs_tdiv_le_natAbs f.sum f.numbers
    have hw1 : IntKind.i64.wrap (f.sum.tdiv f.numbers) = f.sum.tdiv f.numbers := wrap_of (by omega) (by omega)
    have hw2 : IntKind.i64.wrap (f.sum.tdiv f.numbers - 1) = f.sum.tdiv f.numbers - 1 := wrap_of (by omega) (by omega)
    simp only [meanF]
    rw [if_neg (by omega), hw1, hw2]
    split
    · simp only [Int.sub_mul]
      generalize f.sum.tdiv f.numbers * f.numbers = p at *
      refine ⟨trivial, ?_⟩
      omega
    · simp only
      generalize f.sum.tdiv f.numbers * f.numbers = p at *
      refine ⟨trivial, ?_⟩
      omega
set_option maxRecDepth 100000 in
theorem law_spec (raw : FoldR) (sum n : Int) (hs1 : -9223372036854775808 ≤ sum) (hs2 : sum < 9223372036854775808) (hn1 : 0 ≤ n) (hn2 : n < 256) : Sx.Spec Try.prog GG 4 [encFold raw, .d (.int .i64 sum), .d (.int .u8 n)] [] (.d (.bool true)) [] := by
  refine spec_intro (E := EE) (fn := Try.f4) eok (by kernel_rfl) (by kernel_rfl) Try.call4 (by kernel_rfl) (by kernel_rfl) ?_
  conv => whnf
  repeat' first
    | (refine bc_true (by assumption) ?_; (conv => whnf))
    | (refine bc_false (by assumption) ?_; (conv => whnf))
    | (refine bc_intro (fun _ => ?_) (fun _ => ?_) <;> (conv => whnf))
    | (refine need_intro ?_ ?_; (conv => whnf))
  refine loop_auto [0, 1, 2, 30, 31] [] (fun i : Nat => [(32, .d (.int .i64 i))]) (fun i => []) (fun i => i ≤ 3) (fun i => 3 - i) 0 ?_ (fun i hi => ?_) (by simp)
  · conv => whnf
    repeat' first
      | (refine bc_true (by assumption) ?_; (conv => whnf))
      | (refine bc_false (by assumption) ?_; (conv => whnf))
      | (refine bc_intro (fun _ => ?_) (fun _ => ?_) <;> (conv => whnf))
      | (refine need_intro ?_ ?_; (conv => whnf))
    all_goals first | exact ⟨rfl, rfl⟩ | exact ⟨rfl, rfl, rfl⟩ | exact DLe.refl _ | exact trivial
  · have hi : i = 0 ∨ i = 1 ∨ i = 2 ∨ i = 3 := by omega
    rcases hi with rfl | rfl | rfl | rfl
    · conv => whnf
      repeat' first
        | (refine call_intro (mean_at _ _ _ _ _ _ _) ?_ (by first | exact .inl rfl | exact .inr rfl); (conv => whnf))
        | (refine call_intro (mean2_at _ _ _ _ _ _ _) ?_ (by first | exact .inl rfl | exact .inr rfl); (conv => whnf))
        | (refine NextVC.mk 1 ?_ ?_ ?_; (conv => whnf))
        | (refine bc_true (by assumption) ?_; (conv => whnf))
        | (refine bc_false (by assumption) ?_; (conv => whnf))
        | (refine bc_intro (fun _ => ?_) (fun _ => ?_) <;> (conv => whnf))
        | (refine need_intro ?_ ?_; (conv => whnf))
      all_goals first
        | exact trivial
        | exact DLe.refl _
        | exact DLe.of_eq (by rfl)
        | omega
        | (exfalso; simp at *; done)
    · conv => whnf
      repeat' first
        | (refine call_intro (mean_at _ _ _ _ _ _ _) ?_ (by first | exact .inl rfl | exact .inr rfl); (conv => whnf))
        | (refine call_intro (mean2_at _ _ _ _ _ _ _) ?_ (by first | exact .inl rfl | exact .inr rfl); (conv => whnf))
        | (refine NextVC.mk 2 ?_ ?_ ?_; (conv => whnf))
        | (refine bc_true (by assumption) ?_; (conv => whnf))
        | (refine bc_false (by assumption) ?_; (conv => whnf))
        | (refine bc_intro (fun _ => ?_) (fun _ => ?_) <;> (conv => whnf))
        | (refine need_intro ?_ ?_; (conv => whnf))
      all_goals first
        | exact trivial
        | exact DLe.refl _
        | exact DLe.of_eq (by rfl)
        | omega
        | (exfalso; simp at *; done)
    · conv => whnf
      repeat' first
        | (refine call_intro (mean_at _ _ _ _ _ _ _) ?_ (by first | exact .inl rfl | exact .inr rfl); (conv => whnf))
        | (refine call_intro (mean2_at _ _ _ _ _ _ _) ?_ (by first | exact .inl rfl | exact .inr rfl); (conv => whnf))
        | (refine NextVC.mk 3 ?_ ?_ ?_; (conv => whnf))
        | (refine bc_true (by assumption) ?_; (conv => whnf))
        | (refine bc_false (by assumption) ?_; (conv => whnf))
        | (refine bc_intro (fun _ => ?_) (fun _ => ?_) <;> (conv => whnf))
        | (refine need_intro ?_ ?_; (conv => whnf))
      all_goals first
        | exact trivial
        | exact DLe.refl _
        | exact DLe.of_eq (by rfl)
        | omega
        | (exfalso; simp at *; done)
    · conv => whnf
      repeat' first
        | (refine call_intro (mean_at _ _ _ _ _ _ _) ?_ (by first | exact .inl rfl | exact .inr rfl); (conv => whnf))
        | (refine call_intro (mean2_at _ _ _ _ _ _ _) ?_ (by first | exact .inl rfl | exact .inr rfl); (conv => whnf))
        | (refine call_intro (awake_spec) ?_ (by first | exact .inl rfl | exact .inr rfl); (conv => whnf))
        | (refine bc_true (by assumption) ?_; (conv => whnf))
        | (refine bc_false (by assumption) ?_; (conv => whnf))
        | (refine bc_intro (fun _ => ?_) (fun _ => ?_) <;> (conv => whnf))
        | (refine need_intro ?_ ?_; (conv => whnf))
      all_goals try exact (by decide : (0 : Int) ≤ 8)
      all_goals
        have eN : IntKind.i64.wrap n = n := wrap_of (by omega) (by omega)
        have eS : sum.fdiv (2 ^ min (Int.toNat 8) IntKind.i64.bits) = sum / 256 := by
          rw [Int.fdiv_eq_ediv_of_nonneg]
          · rfl
          · decide
        have key := mean_law n (sum / 256) (by omega) (by omega) hn1 hn2 ⟨0, n, sum / 256, 0, 0, [], []⟩ rfl rfl
        simp only [eN, eS] at *
        generalize meanF ⟨0, n, sum / 256, 0, 0, [], []⟩ = m at *
        obtain ⟨k1, k2⟩ := key
        rcases Int.lt_or_le 0 n with h | h
        · obtain ⟨h1, h2, h3, h4, h5⟩ := k2 h
          have w1 : IntKind.i64.wrap (m.1 * n) = m.1 * n := wrap_of (by omega) (by omega)
          have w2 : IntKind.i64.wrap (sum / 256 - m.1 * n) = sum / 256 - m.1 * n := wrap_of (by omega) (by omega)
          simp only [w1, w2] at *
          first
            | exact ⟨LeS.refl _, trivial⟩
            | (exfalso; simp_all; done)
            | (exfalso; simp_all; omega)
        · have k1 := k1 (by omega)
          subst k1
          first
            | exact ⟨LeS.refl _, trivial⟩
            | (exfalso; simp_all; done)
            | (exfalso; simp_all; omega)
theorem own : ownKnob Try.prog.godebug = none := by kernel_rfl
theorem laidOut : laidOutB Try.prog = true := by kernel_rfl
theorem gok {I : Nat → Prop} {w : World} : GOk GG I w := fun g sz get h => by cases h
set_option maxRecDepth 100000 in
theorem lifted (os : Os) (started : os.Started) (H : Type) (enc : TypeId × Value → H) :
    ReturnsInHanded {} Try.checked os 4 .any (Rows.foldMeanSpec.pre6 enc Try.prog Try.f4 Rows.foldMeanRow.domain false) (Rows.foldMeanSpec.post enc Try.prog Try.f4 false true false false) := by
  refine returnsInHanded_of_change (C := Try.checked) own started (by kernel_rfl) Try.func4
    (ChangeSpec.witness6 (enc := enc) (C := Try.checked) false ⟨#[], #[.agg #[.int .i64 0, .int .i64 0, .int .i64 0, .int .i64 0, .int .i64 0, .string ⟨#[]⟩, .string ⟨#[]⟩], .int .i64 0, .int .u8 0], []⟩ 8 (by kernel_rfl) (by kernel_rfl) (by kernel_rfl) (by kernel_rfl)) ?_
  intro W base args ds gs before hval0 hW hcnd _
  have hval : ∀ (j : Nat) t v, Try.f4.params[j]? = some t → args[j]? = some v → Value.okWide Try.prog W .any base t v := hval0
  have hW' := hW
  obtain ⟨p, q, hA0, hV, rfl, hfz, hnd⟩ := hW
  have hA : DataW.TrodAll enc Try.prog W 0 (fun _ => true) true Try.f4.params.toList args.toList ds p := hA0
  rw [Try.params4] at hA hval
  obtain ⟨v0, vs0, d0, ds0, p0, q0, hargs, rfl, rfl, h0, r0⟩ := trodAll_cons hA
  obtain ⟨v1, vs1, d1, ds1, p1, q1, rfl, rfl, rfl, h1, r1⟩ := trodAll_cons r0
  obtain ⟨v2, vs2, d2, ds2, p2, q2, rfl, rfl, rfl, h2, r2⟩ := trodAll_cons r1
  obtain ⟨rfl, rfl, rfl⟩ := trodAll_nil r2
  obtain rfl : args = #[v0, v1, v2] := by cases args; simp_all
  obtain ⟨rfl, rfl⟩ := trodVars_none hV
  have lt0 : ∀ x ∈ p0, x.block < W.heap.size := by obtain ⟨m, hm⟩ := h0; exact DataW.trod_lt m _ _ _ hm
  have lt1 : ∀ x ∈ p1, x.block < W.heap.size := by obtain ⟨m, hm⟩ := h1; exact DataW.trod_lt m _ _ _ hm
  have lt2 : ∀ x ∈ p2, x.block < W.heap.size := by obtain ⟨m, hm⟩ := h2; exact DataW.trod_lt m _ _ _ hm
  obtain ⟨x0, t0, e0⟩ := arg_rep (f := 3) (ρ := fun _ => ⟨0, 0, 0, 0⟩) (by kernel_rfl) (hval 0 29 v0 rfl rfl) h0
  obtain ⟨x1, t1, e1⟩ := arg_rep (f := 3) (ρ := fun _ => ⟨0, 0, 0, 0⟩) (by kernel_rfl) (hval 1 2 v1 rfl rfl) h1
  obtain ⟨x2, t2, e2⟩ := arg_rep (f := 3) (ρ := fun _ => ⟨0, 0, 0, 0⟩) (by kernel_rfl) (hval 2 5 v2 rfl rfl) h2
  obtain ⟨_, _, rfl, ⟨a, rfl, _⟩, _, _, rfl, ⟨b, rfl, _⟩, _, _, rfl, ⟨c, rfl, _⟩, _, _, rfl, ⟨d, rfl, _⟩, _, _, rfl, ⟨e, rfl, _⟩, _, _, rfl, ⟨f, rfl, _⟩, _, _, rfl, ⟨g, rfl, _⟩, rfl⟩ := t0
  obtain ⟨s, rfl, ws⟩ := t1
  obtain ⟨n, rfl, wn⟩ := t2
  have ws := wf_i64 ws
  have wn := wf_u8 wn
  clear hA0 hval0
  refine ((law_spec ⟨a, b, c, d, e, f, g⟩ s n ws.1 ws.2 wn.1 wn.2).law (w := W) (vs := [v0, v1, v2]) ⟨_, _, rfl, e0, _, _, rfl, e1, _, _, rfl, e2, rfl⟩ gok).mono fun e W' ⟨he, bel⟩ => ?_
  subst he
  exact ⟨_, rfl, _, _, _, [], _, [], hW', trodAll_mk1 (shut_bool Try.underlying4 _), (trodAll_cons_mk (Below.trod laidOut (by kernel_rfl) (of_decide_eq_true (by kernel_rfl)) h0 bel lt0) (trodAll_cons_mk (Below.trod laidOut (by kernel_rfl) (of_decide_eq_true (by kernel_rfl)) h1 bel lt1) (trodAll_cons_mk (Below.trod laidOut (by kernel_rfl) (of_decide_eq_true (by kernel_rfl)) h2 bel lt2) trodAll_mk0))), rfl, bel.frame _, fun h => by cases h⟩

theorem over : Rows.foldMeanRow.holds Try.pinned (OpenSpec.ofChange Rows.foldMeanSpec) :=
  OpenClaim.holds_of_wide 4 Try.f4 rfl rfl rfl rfl rfl rfl rfl ⟨rfl, rfl, rfl, rfl, rfl⟩ rfl rfl rfl rfl rfl (by kernel_rfl) Try.func4 (by kernel_rfl)
    (of_decide_eq_true (by kernel_rfl)) (by unfold Func.isWrapper; first | (rw [if_pos (by decide +kernel)]; kernel_rfl) | (rw [if_neg (by decide +kernel)]; exact ⟨rfl, rfl⟩))
    (fun os started H enc _ => lifted os started H enc)
theorem proved : Rows.FoldMeanSaid := over
#print axioms proved

