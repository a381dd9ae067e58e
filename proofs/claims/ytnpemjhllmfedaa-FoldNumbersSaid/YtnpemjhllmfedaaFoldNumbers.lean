/- The law FoldNumbers of chapter 21 holds: for every input the call returns true and each argument reads behind the call as it read before. No condition. -/
import Derived.Test.YtnpemjhllmfedaaSxFrame
import Derived.Test.YtnpemjhllmfedaaRows
import Derived.Test.YtnpemjhllmfedaaProg
namespace Go.Proofs.Ytnpemjhllmfedaa.foldNumbers
open Go Go.Sx Go.ChangeShapes Go.WideShapes Go.ChangeAt Go.RowKit
set_option linter.unusedVariables false
set_option linter.unusedSimpArgs false
abbrev EE : List Nat := [29, 37]
theorem eok : EOk Try.prog EE := by
  refine ⟨by kernel_rfl, ?_⟩
  intro T hT
  simp only [memN_iff] at hT
  simp only [List.mem_cons, List.not_mem_nil, or_false] at hT
  rcases hT with rfl | rfl <;> exact ⟨by kernel_rfl, by kernel_rfl⟩
def GG : Nat → Option (Nat × (Nat → D)) := fun _ => none
structure FoldR where
  count : Int
  numbers : Int
  sum : Int
  low : Int
  high : Int
  first : List UInt8
  last : List UInt8
abbrev encFold (f : FoldR) : SV := .agg [.d (.int .i64 f.count), .d (.int .i64 f.numbers), .d (.int .i64 f.sum), .d (.int .i64 f.low), .d (.int .i64 f.high), .d (.str f.first), .d (.str f.last)]
def meanF (f : FoldR) : Int × Bool :=
  if f.numbers < 1 then (0, false)
  else if f.sum.tmod f.numbers < 0 then (IntKind.i64.wrap (IntKind.i64.wrap (f.sum.tdiv f.numbers) - 1), true) else (IntKind.i64.wrap (f.sum.tdiv f.numbers), true)
theorem mean_spec (f : FoldR) : Sx.Spec Try.prog GG 9 [encFold f] [] (.tup [.d (.int .i64 (meanF f).1), .d (.bool (meanF f).2)]) [] := by
  refine spec_intro (E := EE) (fn := Try.f9) eok (by kernel_rfl) (by kernel_rfl) Try.call9 (by kernel_rfl) (by kernel_rfl) ?_
  conv => whnf
  repeat' first
    | (refine bc_true (by assumption) ?_; (conv => whnf))
    | (refine bc_false (by assumption) ?_; (conv => whnf))
    | (refine bc_intro (fun _ => ?_) (fun _ => ?_) <;> (conv => whnf))
    | (refine need_intro ?_ ?_; (conv => whnf))
  all_goals try simp only [decide_eq_true_eq, decide_eq_false_iff_not] at *
  all_goals first | omega | (refine ⟨LeS.of_eq ?_, trivial⟩; simp [meanF, *])
theorem mean2_spec (f : FoldR) : Sx.Spec Try.prog GG 10 [encFold f] [] (.tup [.d (.int .i64 (meanF f).1), .d (.bool (meanF f).2)]) [] := by
  refine spec_intro (E := EE) (fn := Try.f10) eok (by kernel_rfl) (by kernel_rfl) Try.call10 (by kernel_rfl) (by kernel_rfl) ?_
  conv => whnf
  repeat' first
    | (refine bc_true (by assumption) ?_; (conv => whnf))
    | (refine bc_false (by assumption) ?_; (conv => whnf))
    | (refine bc_intro (fun _ => ?_) (fun _ => ?_) <;> (conv => whnf))
    | (refine need_intro ?_ ?_; (conv => whnf))
  all_goals try simp only [decide_eq_true_eq, decide_eq_false_iff_not] at *
  all_goals first | omega | (refine ⟨LeS.of_eq ?_, trivial⟩; simp [meanF, *])
/-! number -/
def numLoop (s : List UInt8) : Nat → Nat → Int → Option Int
  | 0, _, acc => some acc
  | f + 1, pos, acc => if pos < s.length then
      (if ((runeAt s pos).1 : Int) < 48 ∨ ((runeAt s pos).1 : Int) > 57 then none
       else
         if IntKind.i64.wrap (IntKind.i64.wrap (acc * 10) + IntKind.i64.wrap (IntKind.i32.wrap ((runeAt s pos).1 - 48))) > 1000000000000 then none
         else numLoop s f (pos + (runeAt s pos).2) (IntKind.i64.wrap (IntKind.i64.wrap (acc * 10) + IntKind.i64.wrap (IntKind.i32.wrap ((runeAt s pos).1 - 48)))))
    else some acc
theorem runeAt_pos {s : List UInt8} {pos : Nat} (h : pos < s.length) : 1 ≤ (runeAt s pos).2 := by
  unfold runeAt
  by_cases ha : ((ByteArray.mk ⟨s⟩)[pos]'h).toNat < 128
  · rw [decode_ascii ⟨⟨s⟩⟩ pos h ha]; exact Nat.le_refl _
  · exact (decode_high ⟨⟨s⟩⟩ pos h (by omega)).2
theorem numLoop_end {s : List UInt8} {f pos : Nat} {acc : Int} (h : ¬ pos < s.length) : numLoop s f pos acc = some acc := by
  cases f with
  | zero => rfl
  | succ f => simp [numLoop, h]
def numTail (s : List UInt8) (neg : Bool) : Int × Bool :=
  if s = [] then (0, false)
  else if ((s.getD 0 0).toNat : Int) = 48 ∧ ((s.length : Int) > 1 ∨ neg = true) then (0, false)
  else match numLoop s s.length 0 0 with
    | none => (0, false)
    | some v => (if neg then IntKind.i64.wrap (0 - v) else v, true)
def number (l : List UInt8) : Int × Bool :=
  if (l.length : Int) > 0 ∧ ((l.getD 0 0).toNat : Int) = 45 then numTail (l.drop 1) true else numTail l false
def numPre (s : List UInt8) (x : Nat × Nat × Int) : Prop := s.length ≤ x.2.1 + x.1 ∧ numLoop s x.1 x.2.1 x.2.2 = numLoop s s.length 0 0
theorem numPre_pos {s : List UInt8} {x : Nat × Nat × Int} (h : numPre s x) (hp : x.2.1.blt s.length = true) : ∃ f, x.1 = f + 1 ∧ x.2.1 < s.length := by
  have hp : x.2.1 < s.length := Nat.le_of_ble_eq_true hp
  have := h.1
  exact ⟨x.1 - 1, by omega, hp⟩
theorem numPre_bad {s : List UInt8} {x : Nat × Nat × Int} (h : numPre s x) (hp : x.2.1.blt s.length = true) (hc : ((runeAt s x.2.1).1 : Int) < 48 ∨ ((runeAt s x.2.1).1 : Int) > 57) : numLoop s s.length 0 0 = none := by
  obtain ⟨f, e, hlt⟩ := numPre_pos h hp
  rw [← h.2, e]
  simp only [numLoop, hlt, hc, if_true]
theorem numPre_big {s : List UInt8} {x : Nat × Nat × Int} (h : numPre s x) (hp : x.2.1.blt s.length = true) (h1 : ¬ ((runeAt s x.2.1).1 : Int) < 48) (h2 : ¬ ((runeAt s x.2.1).1 : Int) > 57)
    (h3 : IntKind.i64.wrap (IntKind.i64.wrap (x.2.2 * 10) + IntKind.i64.wrap (IntKind.i32.wrap ((runeAt s x.2.1).1 - 48))) > 1000000000000) : numLoop s s.length 0 0 = none := by
  obtain ⟨f, e, hlt⟩ := numPre_pos h hp
  rw [← h.2, e]
  simp only [numLoop, hlt, h1, h2, h3, or_self, if_true, if_false]
theorem numPre_step {s : List UInt8} {x : Nat × Nat × Int} (h : numPre s x) (hp : x.2.1.blt s.length = true) (h1 : ¬ ((runeAt s x.2.1).1 : Int) < 48) (h2 : ¬ ((runeAt s x.2.1).1 : Int) > 57)
    (h3 : ¬ IntKind.i64.wrap (IntKind.i64.wrap (x.2.2 * 10) + IntKind.i64.wrap (IntKind.i32.wrap ((runeAt s x.2.1).1 - 48))) > 1000000000000) :
    numPre s (x.1 - 1, x.2.1 + (runeAt s x.2.1).2, IntKind.i64.wrap (IntKind.i64.wrap (x.2.2 * 10) + IntKind.i64.wrap (IntKind.i32.wrap ((runeAt s x.2.1).1 - 48)))) := by
  obtain ⟨f, e, hlt⟩ := numPre_pos h hp
  have hw := runeAt_pos hlt
  refine ⟨by have := h.1; simp only; omega, ?_⟩
  rw [← h.2, e]
  simp only [numLoop, hlt, h1, h2, h3, or_self, if_true, if_false, Nat.add_sub_cancel]
theorem numPre_lt {s : List UInt8} {x : Nat × Nat × Int} (h : numPre s x) (hp : x.2.1.blt s.length = true) : x.1 - 1 < x.1 := by
  obtain ⟨f, e, hlt⟩ := numPre_pos h hp
  omega
theorem numPre_end {s : List UInt8} {x : Nat × Nat × Int} (h : numPre s x) (hp : x.2.1.blt s.length = false) : numLoop s s.length 0 0 = some x.2.2 := by
  rw [← h.2]
  refine numLoop_end (fun hlt => ?_)
  rw [show x.2.1.blt s.length = true from Nat.ble_eq_true_of_le hlt] at hp
  cases hp
set_option maxRecDepth 100000 in
theorem number_spec (l : List UInt8) : Sx.Spec Try.prog GG 6 [.d (.str l)] [] (.tup [.d (.int .i64 (number l).1), .d (.bool (number l).2)]) [] := by
  refine spec_intro (E := EE) (fn := Try.f6) eok (by kernel_rfl) (by kernel_rfl) Try.call6 (by kernel_rfl) (by kernel_rfl) ?_
  conv => whnf
  repeat' first
    | (refine bc_true (by assumption) ?_; (conv => whnf))
    | (refine bc_false (by assumption) ?_; (conv => whnf))
    | (refine bc_intro (fun _ => ?_) (fun _ => ?_) <;> (conv => whnf))
    | (refine need_intro ?_ ?_; (conv => whnf))
  all_goals try simp only [decide_eq_true_eq, decide_eq_false_iff_not, beq_iff_eq, beq_eq_false_iff_ne, ne_eq, Int.toNat_one, Int.toNat_zero] at *
  all_goals first
    | omega
    | (exfalso; have := lpos (by assumption : ¬ l = []); omega)
    | (have := lpos (by assumption : ¬ List.drop 1 l = []); exact ⟨by decide, by omega⟩)
    | (refine ⟨LeS.of_eq ?_, trivial⟩; simp only [number, numTail, *, eq_self, List.length_nil, gt_iff_lt, Int.natCast_zero, Int.cast_ofNat_Int, and_self, true_and, and_true, true_or, or_true, or_false, false_or, and_false, false_and, if_true, if_false, not_true_eq_false, not_false_eq_true, reduceIte, reduceCtorEq, Bool.false_eq_true, Int.reduceEq, Int.reduceLT, Int.reduceLE, Int.reduceGT, Int.reduceGE]; done)
    | (refine ⟨LeS.of_eq ?_, trivial⟩; simp_all [number, numTail]; done)
    | (exfalso; simp_all; done)
    | skip
  · skip
    refine loop_auto [5, 36] [] (fun x : Nat × Nat × Int => [(6, .d (.int .i64 x.2.2))]) (fun x => [(36, .iter (l.drop 1) x.2.1)]) (numPre (l.drop 1)) (fun x => x.1) (List.length (l.drop 1), 0, 0) ?_ (fun x hx => ?_) ⟨by simp, rfl⟩
    · conv => whnf
      repeat' first
        | (refine bc_true (by assumption) ?_; (conv => whnf))
        | (refine bc_false (by assumption) ?_; (conv => whnf))
        | (refine bc_intro (fun _ => ?_) (fun _ => ?_) <;> (conv => whnf))
        | (refine need_intro ?_ ?_; (conv => whnf))
      all_goals first | exact ⟨rfl, rfl⟩ | exact ⟨rfl, rfl, rfl⟩ | exact DLe.refl _ | exact trivial
    · conv => whnf
      repeat' first
        | (refine NextVC.mk (x.1 - 1, x.2.1 + (runeAt (l.drop 1) x.2.1).2, IntKind.i64.wrap (IntKind.i64.wrap (x.2.2 * 10) + IntKind.i64.wrap (IntKind.i32.wrap ((runeAt (l.drop 1) x.2.1).1 - 48)))) ?_ ?_ ?_; (conv => whnf))
        | (refine bc_true (by assumption) ?_; (conv => whnf))
        | (refine bc_false (by assumption) ?_; (conv => whnf))
        | (refine bc_intro (fun _ => ?_) (fun _ => ?_) <;> (conv => whnf))
        | (refine need_intro ?_ ?_; (conv => whnf))
      all_goals try simp only [decide_eq_true_eq, decide_eq_false_iff_not, beq_iff_eq, beq_eq_false_iff_ne, ne_eq, Int.toNat_one, Int.toNat_zero] at *
      all_goals first
        | exact ⟨trivial, trivial⟩
        | exact ⟨rfl, rfl⟩
        | exact DLe.refl _
        | exact trivial
        | exact numPre_step hx (by assumption) (by assumption) (by assumption) (by assumption)
        | exact numPre_lt hx (by assumption)
        | (have e := numPre_bad hx (by assumption) (.inl (by assumption)); refine ⟨LeS.of_eq ?_, trivial⟩; simp only [number, numTail, *, eq_self, List.length_nil, gt_iff_lt, Int.natCast_zero, Int.cast_ofNat_Int, and_self, true_and, and_true, true_or, or_true, or_false, false_or, and_false, false_and, if_true, if_false, not_true_eq_false, not_false_eq_true, reduceIte, reduceCtorEq, Bool.false_eq_true, Int.reduceEq, Int.reduceLT, Int.reduceLE, Int.reduceGT, Int.reduceGE]; done)
        | (have e := numPre_bad hx (by assumption) (.inr (by assumption)); refine ⟨LeS.of_eq ?_, trivial⟩; simp only [number, numTail, *, eq_self, List.length_nil, gt_iff_lt, Int.natCast_zero, Int.cast_ofNat_Int, and_self, true_and, and_true, true_or, or_true, or_false, false_or, and_false, false_and, if_true, if_false, not_true_eq_false, not_false_eq_true, reduceIte, reduceCtorEq, Bool.false_eq_true, Int.reduceEq, Int.reduceLT, Int.reduceLE, Int.reduceGT, Int.reduceGE]; done)
        | (have e := numPre_big hx (by assumption) (by assumption) (by assumption) (by assumption); refine ⟨LeS.of_eq ?_, trivial⟩; simp only [number, numTail, *, eq_self, List.length_nil, gt_iff_lt, Int.natCast_zero, Int.cast_ofNat_Int, and_self, true_and, and_true, true_or, or_true, or_false, false_or, and_false, false_and, if_true, if_false, not_true_eq_false, not_false_eq_true, reduceIte, reduceCtorEq, Bool.false_eq_true, Int.reduceEq, Int.reduceLT, Int.reduceLE, Int.reduceGT, Int.reduceGE]; done)
        | (have e := numPre_end hx (by assumption); refine ⟨LeS.of_eq ?_, trivial⟩; simp only [number, numTail, *, eq_self, List.length_nil, gt_iff_lt, Int.natCast_zero, Int.cast_ofNat_Int, and_self, true_and, and_true, true_or, or_true, or_false, false_or, and_false, false_and, if_true, if_false, not_true_eq_false, not_false_eq_true, reduceIte, reduceCtorEq, Bool.false_eq_true, Int.reduceEq, Int.reduceLT, Int.reduceLE, Int.reduceGT, Int.reduceGE]; done)
  · skip
    refine loop_auto [5, 36] [] (fun x : Nat × Nat × Int => [(6, .d (.int .i64 x.2.2))]) (fun x => [(36, .iter (l) x.2.1)]) (numPre (l)) (fun x => x.1) (List.length (l), 0, 0) ?_ (fun x hx => ?_) ⟨by simp, rfl⟩
    · conv => whnf
      repeat' first
        | (refine bc_true (by assumption) ?_; (conv => whnf))
        | (refine bc_false (by assumption) ?_; (conv => whnf))
        | (refine bc_intro (fun _ => ?_) (fun _ => ?_) <;> (conv => whnf))
        | (refine need_intro ?_ ?_; (conv => whnf))
      all_goals first | exact ⟨rfl, rfl⟩ | exact ⟨rfl, rfl, rfl⟩ | exact DLe.refl _ | exact trivial
    · conv => whnf
      repeat' first
        | (refine NextVC.mk (x.1 - 1, x.2.1 + (runeAt (l) x.2.1).2, IntKind.i64.wrap (IntKind.i64.wrap (x.2.2 * 10) + IntKind.i64.wrap (IntKind.i32.wrap ((runeAt (l) x.2.1).1 - 48)))) ?_ ?_ ?_; (conv => whnf))
        | (refine bc_true (by assumption) ?_; (conv => whnf))
        | (refine bc_false (by assumption) ?_; (conv => whnf))
        | (refine bc_intro (fun _ => ?_) (fun _ => ?_) <;> (conv => whnf))
        | (refine need_intro ?_ ?_; (conv => whnf))
      all_goals try simp only [decide_eq_true_eq, decide_eq_false_iff_not, beq_iff_eq, beq_eq_false_iff_ne, ne_eq, Int.toNat_one, Int.toNat_zero] at *
      all_goals first
        | exact ⟨trivial, trivial⟩
        | exact ⟨rfl, rfl⟩
        | exact DLe.refl _
        | exact trivial
        | exact numPre_step hx (by assumption) (by assumption) (by assumption) (by assumption)
        | exact numPre_lt hx (by assumption)
        | (have e := numPre_bad hx (by assumption) (.inl (by assumption)); refine ⟨LeS.of_eq ?_, trivial⟩; simp only [number, numTail, *, eq_self, List.length_nil, gt_iff_lt, Int.natCast_zero, Int.cast_ofNat_Int, and_self, true_and, and_true, true_or, or_true, or_false, false_or, and_false, false_and, if_true, if_false, not_true_eq_false, not_false_eq_true, reduceIte, reduceCtorEq, Bool.false_eq_true, Int.reduceEq, Int.reduceLT, Int.reduceLE, Int.reduceGT, Int.reduceGE]; done)
        | (have e := numPre_bad hx (by assumption) (.inr (by assumption)); refine ⟨LeS.of_eq ?_, trivial⟩; simp only [number, numTail, *, eq_self, List.length_nil, gt_iff_lt, Int.natCast_zero, Int.cast_ofNat_Int, and_self, true_and, and_true, true_or, or_true, or_false, false_or, and_false, false_and, if_true, if_false, not_true_eq_false, not_false_eq_true, reduceIte, reduceCtorEq, Bool.false_eq_true, Int.reduceEq, Int.reduceLT, Int.reduceLE, Int.reduceGT, Int.reduceGE]; done)
        | (have e := numPre_big hx (by assumption) (by assumption) (by assumption) (by assumption); refine ⟨LeS.of_eq ?_, trivial⟩; simp only [number, numTail, *, eq_self, List.length_nil, gt_iff_lt, Int.natCast_zero, Int.cast_ofNat_Int, and_self, true_and, and_true, true_or, or_true, or_false, false_or, and_false, false_and, if_true, if_false, not_true_eq_false, not_false_eq_true, reduceIte, reduceCtorEq, Bool.false_eq_true, Int.reduceEq, Int.reduceLT, Int.reduceLE, Int.reduceGT, Int.reduceGE]; done)
        | (have e := numPre_end hx (by assumption); refine ⟨LeS.of_eq ?_, trivial⟩; simp only [number, numTail, *, eq_self, List.length_nil, gt_iff_lt, Int.natCast_zero, Int.cast_ofNat_Int, and_self, true_and, and_true, true_or, or_true, or_false, false_or, and_false, false_and, if_true, if_false, not_true_eq_false, not_false_eq_true, reduceIte, reduceCtorEq, Bool.false_eq_true, Int.reduceEq, Int.reduceLT, Int.reduceLE, Int.reduceGT, Int.reduceGE]; done)
  · skip
    refine loop_auto [5, 36] [] (fun x : Nat × Nat × Int => [(6, .d (.int .i64 x.2.2))]) (fun x => [(36, .iter (l) x.2.1)]) (numPre (l)) (fun x => x.1) (List.length (l), 0, 0) ?_ (fun x hx => ?_) ⟨by simp, rfl⟩
    · conv => whnf
      repeat' first
        | (refine bc_true (by assumption) ?_; (conv => whnf))
        | (refine bc_false (by assumption) ?_; (conv => whnf))
        | (refine bc_intro (fun _ => ?_) (fun _ => ?_) <;> (conv => whnf))
        | (refine need_intro ?_ ?_; (conv => whnf))
      all_goals first | exact ⟨rfl, rfl⟩ | exact ⟨rfl, rfl, rfl⟩ | exact DLe.refl _ | exact trivial
    · conv => whnf
      repeat' first
        | (refine NextVC.mk (x.1 - 1, x.2.1 + (runeAt (l) x.2.1).2, IntKind.i64.wrap (IntKind.i64.wrap (x.2.2 * 10) + IntKind.i64.wrap (IntKind.i32.wrap ((runeAt (l) x.2.1).1 - 48)))) ?_ ?_ ?_; (conv => whnf))
        | (refine bc_true (by assumption) ?_; (conv => whnf))
        | (refine bc_false (by assumption) ?_; (conv => whnf))
        | (refine bc_intro (fun _ => ?_) (fun _ => ?_) <;> (conv => whnf))
        | (refine need_intro ?_ ?_; (conv => whnf))
      all_goals try simp only [decide_eq_true_eq, decide_eq_false_iff_not, beq_iff_eq, beq_eq_false_iff_ne, ne_eq, Int.toNat_one, Int.toNat_zero] at *
      all_goals first
        | exact ⟨trivial, trivial⟩
        | exact ⟨rfl, rfl⟩
        | exact DLe.refl _
        | exact trivial
        | exact numPre_step hx (by assumption) (by assumption) (by assumption) (by assumption)
        | exact numPre_lt hx (by assumption)
        | (have e := numPre_bad hx (by assumption) (.inl (by assumption)); refine ⟨LeS.of_eq ?_, trivial⟩; simp only [number, numTail, *, eq_self, List.length_nil, gt_iff_lt, Int.natCast_zero, Int.cast_ofNat_Int, and_self, true_and, and_true, true_or, or_true, or_false, false_or, and_false, false_and, if_true, if_false, not_true_eq_false, not_false_eq_true, reduceIte, reduceCtorEq, Bool.false_eq_true, Int.reduceEq, Int.reduceLT, Int.reduceLE, Int.reduceGT, Int.reduceGE]; done)
        | (have e := numPre_bad hx (by assumption) (.inr (by assumption)); refine ⟨LeS.of_eq ?_, trivial⟩; simp only [number, numTail, *, eq_self, List.length_nil, gt_iff_lt, Int.natCast_zero, Int.cast_ofNat_Int, and_self, true_and, and_true, true_or, or_true, or_false, false_or, and_false, false_and, if_true, if_false, not_true_eq_false, not_false_eq_true, reduceIte, reduceCtorEq, Bool.false_eq_true, Int.reduceEq, Int.reduceLT, Int.reduceLE, Int.reduceGT, Int.reduceGE]; done)
        | (have e := numPre_big hx (by assumption) (by assumption) (by assumption) (by assumption); refine ⟨LeS.of_eq ?_, trivial⟩; simp only [number, numTail, *, eq_self, List.length_nil, gt_iff_lt, Int.natCast_zero, Int.cast_ofNat_Int, and_self, true_and, and_true, true_or, or_true, or_false, false_or, and_false, false_and, if_true, if_false, not_true_eq_false, not_false_eq_true, reduceIte, reduceCtorEq, Bool.false_eq_true, Int.reduceEq, Int.reduceLT, Int.reduceLE, Int.reduceGT, Int.reduceGE]; done)
        | (have e := numPre_end hx (by assumption); refine ⟨LeS.of_eq ?_, trivial⟩; simp only [number, numTail, *, eq_self, List.length_nil, gt_iff_lt, Int.natCast_zero, Int.cast_ofNat_Int, and_self, true_and, and_true, true_or, or_true, or_false, false_or, and_false, false_and, if_true, if_false, not_true_eq_false, not_false_eq_true, reduceIte, reduceCtorEq, Bool.false_eq_true, Int.reduceEq, Int.reduceLT, Int.reduceLE, Int.reduceGT, Int.reduceGE]; done)
/-! sum.add -/
abbrev cells (f : FoldR) : List SV := [.d (.int .i64 f.count), .d (.int .i64 f.numbers), .d (.int .i64 f.sum), .d (.int .i64 f.low), .d (.int .i64 f.high), .d (.str f.first), .d (.str f.last)]
abbrev encRow (k v : List UInt8) : SV := .agg [.d (.str k), .d (.str v)]
def addF (f : FoldR) (k v : List UInt8) : FoldR :=
  if (number v).2 = true then
    { count := IntKind.i64.wrap (f.count + 1), first := if f.count = 0 then k else f.first, last := k, numbers := IntKind.i64.wrap (f.numbers + 1), sum := IntKind.i64.wrap (f.sum + (number v).1),
      low := if f.numbers = 0 ∨ (number v).1 < f.low then (number v).1 else f.low, high := if f.numbers = 0 ∨ (number v).1 > f.high then (number v).1 else f.high }
  else { count := IntKind.i64.wrap (f.count + 1), first := if f.count = 0 then k else f.first, last := k, numbers := f.numbers, sum := f.sum, low := f.low, high := f.high }
set_option maxRecDepth 100000 in
theorem add_spec0 (f : FoldR) (k v : List UInt8) : Sx.Spec Try.prog GG 12 [.ptr 1000 0, encRow k v] [(1000, .box (cells f))] (.tup []) [(1000, .box (cells (addF f k v)))] := by
  refine spec_intro (E := EE) (fn := Try.f12) eok (by kernel_rfl) (by kernel_rfl) Try.call12 (by kernel_rfl) (by kernel_rfl) ?_
  conv => whnf
  repeat' first
    | (refine call_intro (number_spec _) ?_ (by first | exact .inl rfl | exact .inr rfl); (conv => whnf))
    | (refine bc_true (by assumption) ?_; (conv => whnf))
    | (refine bc_false (by assumption) ?_; (conv => whnf))
    | (refine bc_intro (fun _ => ?_) (fun _ => ?_) <;> (conv => whnf))
    | (refine need_intro ?_ ?_; (conv => whnf))
  all_goals try simp only [decide_eq_true_eq, decide_eq_false_iff_not, beq_iff_eq, beq_eq_false_iff_ne, ne_eq, Int.toNat_one, Int.toNat_zero, Bool.not_eq_true', Bool.not_eq_false'] at *
  all_goals refine ⟨LeS.refl _, LeL.of_eq ?_, trivial⟩
  all_goals simp only [addF, *, eq_self, List.length_nil, gt_iff_lt, Int.natCast_zero, Int.cast_ofNat_Int, and_self, true_and, and_true, true_or, or_true, or_false, false_or, and_false, false_and, if_true, if_false, not_true_eq_false, not_false_eq_true, reduceIte, reduceCtorEq, Bool.false_eq_true, Int.reduceEq, Int.reduceLT, Int.reduceLE, Int.reduceGT, Int.reduceGE]
theorem add_spec (m : Nat) (f : FoldR) (k v : List UInt8) : Sx.Spec Try.prog GG 12 [.ptr m 0, encRow k v] [(m, .box (cells f))] (.tup []) [(m, .box (cells (addF f k v)))] := (add_spec0 f k v).at m
/-! fold.Of -/
def rowCell (rows : List (List UInt8 × List UInt8)) (i : Nat) : Nat → D
  | 0 => .str (rows.getD i ([], [])).1
  | _ => .str (rows.getD i ([], [])).2
abbrev encRows (rows : List (List UInt8 × List UInt8)) : SV := .d (.list rows.length 2 (rowCell rows))
def foldOf (rows : List (List UInt8 × List UInt8)) : FoldR := rows.foldl (fun f r => addF f r.1 r.2) ⟨0, 0, 0, 0, 0, [], []⟩
theorem foldOf_take {rows : List (List UInt8 × List UInt8)} {i : Nat} (h : i < rows.length) : foldOf (rows.take (i + 1)) = addF (foldOf (rows.take i)) (rows.getD i ([], [])).1 (rows.getD i ([], [])).2 := by
  rw [List.take_add_one, List.getElem?_eq_getElem h, foldOf, List.foldl_append]
  simp [foldOf, h]
set_option maxRecDepth 100000 in
theorem of_spec (rows : List (List UInt8 × List UInt8)) (hlen : rows.length ≤ 9223372036854775807) : Sx.Spec Try.prog GG 11 [encRows rows] [] (encFold (foldOf rows)) [] := by
  refine spec_intro (E := EE) (fn := Try.f11) eok (by kernel_rfl) (by kernel_rfl) Try.call11 (by kernel_rfl) (by kernel_rfl) ?_
  conv => whnf
  repeat' first
    | (refine bc_true (by assumption) ?_; (conv => whnf))
    | (refine bc_false (by assumption) ?_; (conv => whnf))
    | (refine bc_intro (fun _ => ?_) (fun _ => ?_) <;> (conv => whnf))
    | (refine need_intro ?_ ?_; (conv => whnf))
  refine loop_auto [2, 6, 7, 3] [2] (fun i : Nat => [(8, .d (.int .i64 i))]) (fun i => [(3, .box (cells (foldOf (rows.take i))))]) (fun i => i ≤ rows.length) (fun i => rows.length - i) 0 ?_ (fun i hi => ?_) (by simp)
  · conv => whnf
    repeat' first
      | (refine bc_true (by assumption) ?_; (conv => whnf))
      | (refine bc_false (by assumption) ?_; (conv => whnf))
      | (refine bc_intro (fun _ => ?_) (fun _ => ?_) <;> (conv => whnf))
      | (refine need_intro ?_ ?_; (conv => whnf))
    all_goals first | exact ⟨rfl, rfl⟩ | exact ⟨rfl, rfl, rfl⟩ | exact DLe.refl _ | exact trivial
  · conv => whnf
    repeat' first
      | (refine call_intro (add_spec 3 _ _ _) ?_ (by first | exact .inl rfl | exact .inr rfl); (conv => whnf))
      | (refine NextVC.mk (i + 1) ?_ ?_ ?_; (conv => whnf))
      | (refine bc_true (by assumption) ?_; (conv => whnf))
      | (refine bc_false (by assumption) ?_; (conv => whnf))
      | (refine bc_intro (fun _ => ?_) (fun _ => ?_) <;> (conv => whnf))
      | (refine need_intro ?_ ?_; (conv => whnf))
    all_goals try simp only [decide_eq_true_eq, decide_eq_false_iff_not, Int.toNat_natCast] at *
    all_goals first
      | omega
      | exact trivial
      | exact DLe.refl _
      | exact DLe.of_eq (by rw [foldOf_take (by omega)])
      | exact DLe.of_eq (by rw [wrap_succ (by omega) hlen])
      | (have : i = rows.length := by omega
         subst this
         refine ⟨LeS.of_eq ?_, trivial⟩
         simp only [List.take_length])
/-! awake -/
def awakeRows : List (List UInt8 × List UInt8) := [([97], [51]), ([98], [120]), ([99], [45, 49])]
theorem number_1 : number [45, 55] = (-7, true) := by decide
theorem number_2 : number [48, 55] = (0, false) := by decide
theorem foldOf_awake : foldOf awakeRows = ⟨3, 2, 2, -1, 3, [97], [99]⟩ := by rfl
theorem of_awake {get : Nat → Nat → D} (h : RowLe 3 2 get (rowCell awakeRows)) : Sx.Spec Try.prog GG 11 [.d (.list 3 2 get)] [] (encFold ⟨3, 2, 2, -1, 3, [97], [99]⟩) [] := by
  have := of_spec awakeRows (by decide)
  rw [foldOf_awake] at this
  exact this.arg (LeL.cons (LeS.d (DLe.list rfl (fun _ => rfl) h.le)) LeL.nil)
theorem number_at {l : List UInt8} {x : Int × Bool} (h : number l = x) : Sx.Spec Try.prog GG 6 [.d (.str l)] [] (.tup [.d (.int .i64 x.1), .d (.bool x.2)]) [] := h ▸ number_spec l
set_option maxRecDepth 100000 in
theorem awake_spec : Sx.Spec Try.prog GG 8 [] [] (.d (.bool true)) [] := by
  refine spec_intro (E := EE) (fn := Try.f8) eok (by kernel_rfl) (by kernel_rfl) Try.call8 (by kernel_rfl) (by kernel_rfl) ?_
  conv => whnf
  repeat' first
    | (refine call_intro (of_awake (.all (by repeat' first | exact trivial | exact rfl | apply And.intro))) ?_ (by first | exact .inl rfl | exact .inr rfl); (conv => whnf))
    | (refine call_intro (number_at number_1) ?_ (by first | exact .inl rfl | exact .inr rfl); (conv => whnf))
    | (refine call_intro (number_at number_2) ?_ (by first | exact .inl rfl | exact .inr rfl); (conv => whnf))
    | (refine bc_true (by assumption) ?_; (conv => whnf))
    | (refine bc_false (by assumption) ?_; (conv => whnf))
    | (refine bc_intro (fun _ => ?_) (fun _ => ?_) <;> (conv => whnf))
    | (refine need_intro ?_ ?_; (conv => whnf))
  all_goals exact ⟨LeS.refl _, trivial⟩
/-! decimal -/
def dig (n : Int) : UInt8 := UInt8.ofNat (IntKind.u8.wrap (IntKind.i64.wrap (48 + n.tmod 10))).toNat
def digs : Nat → Int → List UInt8 → List UInt8
  | 0, _, s => s
  | f + 1, n, s => if n > 0 then digs f (n.tdiv 10) (dig n :: s) else s
def decPos (n : Int) : List UInt8 := if digs n.toNat n [] = [] then [48] else digs n.toNat n []
def decimalS (n : Int) : List UInt8 := if n < 0 then 45 :: decPos (IntKind.i64.wrap (0 - n)) else decPos n
def decPre (m : Int) (x : Nat × Int × List UInt8) : Prop := 0 ≤ x.2.1 ∧ x.2.1 ≤ x.1 ∧ x.1 + x.2.2.length ≤ 4611686018427387904 ∧ digs x.1 x.2.1 x.2.2 = digs m.toNat m []
theorem decPre_step {m : Int} {x : Nat × Int × List UInt8} (h : decPre m x) (h1 : x.2.1 > 0) : decPre m (x.1 - 1, x.2.1.tdiv 10, dig x.2.1 :: x.2.2) ∧ x.1 - 1 < x.1 := by
  obtain ⟨f, n, s⟩ := x
  obtain ⟨h2, h3, h4, h5⟩ := h
  simp only at *
  obtain ⟨f, rfl⟩ : ∃ g, f = g + 1 := ⟨f - 1, by omega⟩
  have hd : n.tdiv 10 = n / 10 := Int.tdiv_eq_ediv_of_nonneg h2
  refine ⟨⟨by simp only [hd]; omega, by simp only [hd]; omega, by simp only [List.length_cons]; omega, ?_⟩, by omega⟩
  rw [← h5]
  simp only [digs, h1, if_true, Nat.add_sub_cancel]
theorem decPre_end {m : Int} {x : Nat × Int × List UInt8} (h : decPre m x) (h1 : ¬ x.2.1 > 0) : digs m.toNat m [] = x.2.2 := by
  obtain ⟨f, n, s⟩ := x
  obtain ⟨h2, h3, h4, h5⟩ := h
  rw [← h5]
  cases f with
  | zero => rfl
  | succ f => simp only at h1; simp only [digs, h1, if_false]
theorem decPre_len {m : Int} {x : Nat × Int × List UInt8} (h : decPre m x) : x.2.2.length ≤ 4611686018427387904 := by
  have := h.2.2.1
  omega
theorem decPre_wrap {m : Int} {x : Nat × Int × List UInt8} (h : decPre m x) : IntKind.i64.wrap (x.2.1.tdiv 10) = x.2.1.tdiv 10 := by
  have h2 := h.1
  have h3 := h.2.1
  have h4 := h.2.2.1
  have hd : x.2.1.tdiv 10 = x.2.1 / 10 := Int.tdiv_eq_ediv_of_nonneg h2
  rw [hd]
  exact wrap_of (by omega) (by omega)
set_option maxRecDepth 100000 in
theorem decimal_spec (n : Int) (h1 : -4611686018427387904 < n) (h2 : n < 4611686018427387904) : Sx.Spec Try.prog GG 5 [.d (.int .i64 n)] [] (.d (.str (decimalS n))) [] := by
  refine spec_intro (E := EE) (fn := Try.f5) eok (by kernel_rfl) (by kernel_rfl) Try.call5 (by kernel_rfl) (by kernel_rfl) ?_
  have eN : True := trivial
  conv => whnf
  repeat' first
    | (refine bc_true (by assumption) ?_; (conv => whnf))
    | (refine bc_false (by assumption) ?_; (conv => whnf))
    | (refine bc_intro (fun _ => ?_) (fun _ => ?_) <;> (conv => whnf))
    | (refine need_intro ?_ ?_; (conv => whnf))
  all_goals simp only [decide_eq_true_eq, decide_eq_false_iff_not] at *
  · refine loop_auto [4] [] (fun x : Nat × Int × List UInt8 => [(0, .d (.int .i64 x.2.1)), (3, .d (.str x.2.2))]) (fun _ => []) (decPre (IntKind.i64.wrap (0 - n))) (fun x => x.1) (Int.toNat (IntKind.i64.wrap (0 - n)), IntKind.i64.wrap (0 - n), []) ?_ (fun x hx => ?_) ?_
    · conv => whnf
      repeat' first
        | (refine bc_true (by assumption) ?_; (conv => whnf))
        | (refine bc_false (by assumption) ?_; (conv => whnf))
        | (refine bc_intro (fun _ => ?_) (fun _ => ?_) <;> (conv => whnf))
        | (refine need_intro ?_ ?_; (conv => whnf))
      all_goals first | exact ⟨rfl, rfl⟩ | exact ⟨rfl, rfl, rfl⟩ | exact DLe.refl _ | exact trivial
    · have hlen := decPre_len hx
      conv => whnf
      repeat' first
        | (refine NextVC.mk (x.1 - 1, x.2.1.tdiv 10, dig x.2.1 :: x.2.2) ?_ ?_ ?_; (conv => whnf))
        | (refine bc_true (by assumption) ?_; (conv => whnf))
        | (refine bc_false (by assumption) ?_; (conv => whnf))
        | (refine bc_intro (fun _ => ?_) (fun _ => ?_) <;> (conv => whnf))
        | (refine need_intro ?_ ?_; (conv => whnf))
      all_goals try simp only [decide_eq_true_eq, decide_eq_false_iff_not, beq_iff_eq, beq_eq_false_iff_ne, ne_eq] at *
      all_goals first
        | exact trivial
        | omega
        | exact DLe.refl _
        | exact DLe.of_eq rfl
        | (simp only [List.length_cons, List.length_nil]; omega)
        | exact DLe.of_eq (by rw [decPre_wrap hx])
        | exact (decPre_step hx (by assumption)).1
        | exact (decPre_step hx (by assumption)).2
        | exact (by decide : ¬ (10 : Int) = 0)
        | rfl
        | (refine Nat.le_trans (m := 1 + 4611686018427387904) ?_ (by decide); exact Nat.add_le_add (Nat.le_refl 1) hlen)
        | (have e := decPre_end hx (by assumption); refine ⟨LeS.of_eq ?_, trivial⟩; simp only [decimalS, decPos, eN, *, eq_self, List.length_nil, gt_iff_lt, Int.natCast_zero, Int.cast_ofNat_Int, and_self, true_and, and_true, true_or, or_true, or_false, false_or, and_false, false_and, if_true, if_false, not_true_eq_false, not_false_eq_true, reduceIte, reduceCtorEq, Bool.false_eq_true, Int.reduceEq, Int.reduceLT, Int.reduceLE, Int.reduceGT, Int.reduceGE]; done)
        | (have e := decPre_end hx (by assumption); refine ⟨LeS.of_eq ?_, trivial⟩; simp only [decimalS, decPos, eN, *, eq_self, List.length_nil, gt_iff_lt, Int.natCast_zero, Int.cast_ofNat_Int, and_self, true_and, and_true, true_or, or_true, or_false, false_or, and_false, false_and, if_true, if_false, not_true_eq_false, not_false_eq_true, reduceIte, reduceCtorEq, Bool.false_eq_true, Int.reduceEq, Int.reduceLT, Int.reduceLE, Int.reduceGT, Int.reduceGE]; rfl)
    · have : 0 ≤ IntKind.i64.wrap (0 - n) := by first | omega | (rw [wrap_of (by omega) (by omega)]; omega)
      have : IntKind.i64.wrap (0 - n) ≤ 4611686018427387904 := by first | omega | (rw [wrap_of (by omega) (by omega)]; omega)
      exact ⟨by assumption, by simp only; omega, by simp only [List.length_nil]; omega, rfl⟩
  · refine loop_auto [4] [] (fun x : Nat × Int × List UInt8 => [(0, .d (.int .i64 x.2.1)), (3, .d (.str x.2.2))]) (fun _ => []) (decPre (n)) (fun x => x.1) (Int.toNat (n), n, []) ?_ (fun x hx => ?_) ?_
    · conv => whnf
      repeat' first
        | (refine bc_true (by assumption) ?_; (conv => whnf))
        | (refine bc_false (by assumption) ?_; (conv => whnf))
        | (refine bc_intro (fun _ => ?_) (fun _ => ?_) <;> (conv => whnf))
        | (refine need_intro ?_ ?_; (conv => whnf))
      all_goals first | exact ⟨rfl, rfl⟩ | exact ⟨rfl, rfl, rfl⟩ | exact DLe.refl _ | exact trivial
    · have hlen := decPre_len hx
      conv => whnf
      repeat' first
        | (refine NextVC.mk (x.1 - 1, x.2.1.tdiv 10, dig x.2.1 :: x.2.2) ?_ ?_ ?_; (conv => whnf))
        | (refine bc_true (by assumption) ?_; (conv => whnf))
        | (refine bc_false (by assumption) ?_; (conv => whnf))
        | (refine bc_intro (fun _ => ?_) (fun _ => ?_) <;> (conv => whnf))
        | (refine need_intro ?_ ?_; (conv => whnf))
      all_goals try simp only [decide_eq_true_eq, decide_eq_false_iff_not, beq_iff_eq, beq_eq_false_iff_ne, ne_eq] at *
      all_goals first
        | exact trivial
        | omega
        | exact DLe.refl _
        | exact DLe.of_eq rfl
        | (simp only [List.length_cons, List.length_nil]; omega)
        | exact DLe.of_eq (by rw [decPre_wrap hx])
        | exact (decPre_step hx (by assumption)).1
        | exact (decPre_step hx (by assumption)).2
        | exact (by decide : ¬ (10 : Int) = 0)
        | rfl
        | (refine Nat.le_trans (m := 1 + 4611686018427387904) ?_ (by decide); exact Nat.add_le_add (Nat.le_refl 1) hlen)
        | (have e := decPre_end hx (by assumption); refine ⟨LeS.of_eq ?_, trivial⟩; simp only [decimalS, decPos, eN, *, eq_self, List.length_nil, gt_iff_lt, Int.natCast_zero, Int.cast_ofNat_Int, and_self, true_and, and_true, true_or, or_true, or_false, false_or, and_false, false_and, if_true, if_false, not_true_eq_false, not_false_eq_true, reduceIte, reduceCtorEq, Bool.false_eq_true, Int.reduceEq, Int.reduceLT, Int.reduceLE, Int.reduceGT, Int.reduceGE]; done)
        | (have e := decPre_end hx (by assumption); refine ⟨LeS.of_eq ?_, trivial⟩; simp only [decimalS, decPos, eN, *, eq_self, List.length_nil, gt_iff_lt, Int.natCast_zero, Int.cast_ofNat_Int, and_self, true_and, and_true, true_or, or_true, or_false, false_or, and_false, false_and, if_true, if_false, not_true_eq_false, not_false_eq_true, reduceIte, reduceCtorEq, Bool.false_eq_true, Int.reduceEq, Int.reduceLT, Int.reduceLE, Int.reduceGT, Int.reduceGE]; rfl)
    · have : 0 ≤ n := by first | omega | (rw [wrap_of (by omega) (by omega)]; omega)
      have : n ≤ 4611686018427387904 := by first | omega | (rw [wrap_of (by omega) (by omega)]; omega)
      exact ⟨by assumption, by simp only; omega, by simp only [List.length_nil]; omega, rfl⟩
/-! ref.Number -/
def refStep (acc : Int) (b : UInt8) : Int := IntKind.i64.wrap (IntKind.i64.wrap (10 * acc) + IntKind.i64.wrap (IntKind.u8.wrap ((b.toNat : Int) - 48)))
def refLoop : List UInt8 → Int → Option Int
  | [], acc => some acc
  | b :: l, acc => if (b.toNat : Int) < 48 ∨ (b.toNat : Int) > 57 then none else refLoop l (refStep acc b)
def refTail (s : List UInt8) (neg : Bool) : Int × Bool :=
  if (s.length : Int) = 0 ∨ (s.length : Int) > 13 then (0, false)
  else if ((s.getD 0 0).toNat : Int) = 48 ∧ ((s.length : Int) > 1 ∨ neg = true) then (0, false)
  else match refLoop s 0 with
    | none => (0, false)
    | some v => if v > 1000000000000 then (0, false) else (if neg then IntKind.i64.wrap (0 - v) else v, true)
def refNumber (l : List UInt8) : Int × Bool :=
  if (l.length : Int) > 1 ∧ ((l.getD 0 0).toNat : Int) = 45 then refTail (l.drop 1) true else refTail l false
def refPre (s : List UInt8) (x : Nat × Int) : Prop := x.1 ≤ s.length ∧ refLoop (s.drop x.1) x.2 = refLoop s 0
theorem refPre_drop {s : List UInt8} {i : Nat} (h : i < s.length) : s.drop i = s.getD i 0 :: s.drop (i + 1) := by
  rw [List.drop_eq_getElem_cons h]
  simp [List.getD, h]
theorem refPre_bad {s : List UInt8} {x : Nat × Int} (h : refPre s x) (h1 : (x.1 : Int) < s.length) (hc : ((s.getD x.1 0).toNat : Int) < 48 ∨ ((s.getD x.1 0).toNat : Int) > 57) : refLoop s 0 = none := by
  rw [← h.2, refPre_drop (by omega)]
  simp only [refLoop, hc, if_true]
theorem refPre_step {s : List UInt8} {x : Nat × Int} (h : refPre s x) (h1 : (x.1 : Int) < s.length) (h2 : ¬ ((s.getD x.1 0).toNat : Int) < 48) (h3 : ¬ ((s.getD x.1 0).toNat : Int) > 57) : refPre s (x.1 + 1, refStep x.2 (s.getD x.1 0)) := by
  refine ⟨by simp only; omega, ?_⟩
  rw [← h.2, refPre_drop (show x.1 < s.length by omega)]
  simp only [refLoop, h2, h3, or_self, if_false]
theorem refPre_end {s : List UInt8} {x : Nat × Int} (h : refPre s x) (h1 : ¬ (x.1 : Int) < s.length) : refLoop s 0 = some x.2 := by
  rw [← h.2, List.drop_eq_nil_of_le (by omega)]
  rfl
theorem refPre_idx {s : List UInt8} {x : Nat × Int} (h : (x.1 : Int) < s.length) (hl : ¬ (s.length : Int) > 13) : IntKind.i64.wrap ((x.1 : Int) + 1) = ((x.1 + 1 : Nat) : Int) := by
  rw [wrap_of (by omega) (by omega)]; rfl
set_option maxRecDepth 100000 in
theorem ref_spec (l : List UInt8) : Sx.Spec Try.prog GG 7 [.d (.str l)] [] (.tup [.d (.int .i64 (refNumber l).1), .d (.bool (refNumber l).2)]) [] := by
  refine spec_intro (E := EE) (fn := Try.f7) eok (by kernel_rfl) (by kernel_rfl) Try.call7 (by kernel_rfl) (by kernel_rfl) ?_
  conv => whnf
  repeat' first
    | (refine bc_true (by assumption) ?_; (conv => whnf))
    | (refine bc_false (by assumption) ?_; (conv => whnf))
    | (refine bc_intro (fun _ => ?_) (fun _ => ?_) <;> (conv => whnf))
    | (refine need_intro ?_ ?_; (conv => whnf))
  all_goals simp only [decide_eq_true_eq, decide_eq_false_iff_not, beq_iff_eq, beq_eq_false_iff_ne, ne_eq, Int.toNat_one, Int.toNat_zero] at *
  all_goals first
    | omega
    | exact ⟨by omega, by omega⟩
    | (exfalso; omega)
    | (refine ⟨LeS.of_eq ?_, trivial⟩; simp only [refNumber, refTail, *, eq_self, List.length_nil, gt_iff_lt, Int.natCast_zero, Int.cast_ofNat_Int, and_self, true_and, and_true, true_or, or_true, or_false, false_or, and_false, false_and, if_true, if_false, not_true_eq_false, not_false_eq_true, reduceIte, reduceCtorEq, Bool.false_eq_true, Int.reduceEq, Int.reduceLT, Int.reduceLE, Int.reduceGT, Int.reduceGE]; done)
    | (refine ⟨LeS.of_eq ?_, trivial⟩; simp_all [refNumber, refTail]; done)
    | skip
  · refine loop_auto [4, 5] [] (fun x : Nat × Int => [(6, .d (.int .i64 x.2)), (7, .d (.int .i64 x.1))]) (fun _ => []) (refPre (l.drop 1)) (fun x => List.length (l.drop 1) - x.1) (0, 0) ?_ (fun x hx => ?_) ⟨by simp, rfl⟩
    · conv => whnf
      repeat' first
        | (refine bc_true (by assumption) ?_; (conv => whnf))
        | (refine bc_false (by assumption) ?_; (conv => whnf))
        | (refine bc_intro (fun _ => ?_) (fun _ => ?_) <;> (conv => whnf))
        | (refine need_intro ?_ ?_; (conv => whnf))
      all_goals first | exact ⟨rfl, rfl⟩ | exact ⟨rfl, rfl, rfl⟩ | exact DLe.refl _ | exact trivial
    · conv => whnf
      repeat' first
        | (refine NextVC.mk (x.1 + 1, refStep x.2 (List.getD (l.drop 1) x.1 0)) ?_ ?_ ?_; (conv => whnf))
        | (refine bc_true (by assumption) ?_; (conv => whnf))
        | (refine bc_false (by assumption) ?_; (conv => whnf))
        | (refine bc_intro (fun _ => ?_) (fun _ => ?_) <;> (conv => whnf))
        | (refine need_intro ?_ ?_; (conv => whnf))
      all_goals try simp only [decide_eq_true_eq, decide_eq_false_iff_not, beq_iff_eq, beq_eq_false_iff_ne, ne_eq, Int.toNat_natCast] at *
      all_goals first
        | exact trivial
        | omega
        | exact ⟨by omega, by omega⟩
        | exact DLe.refl _
        | exact DLe.of_eq rfl
        | exact DLe.of_eq (by rw [refPre_idx (by assumption) (by assumption)])
        | exact refPre_step hx (by assumption) (by assumption) (by assumption)
        | (have e := refPre_bad hx (by assumption) (.inl (by assumption)); refine ⟨LeS.of_eq ?_, trivial⟩; simp only [refNumber, refTail, *, eq_self, List.length_nil, gt_iff_lt, Int.natCast_zero, Int.cast_ofNat_Int, and_self, true_and, and_true, true_or, or_true, or_false, false_or, and_false, false_and, if_true, if_false, not_true_eq_false, not_false_eq_true, reduceIte, reduceCtorEq, Bool.false_eq_true, Int.reduceEq, Int.reduceLT, Int.reduceLE, Int.reduceGT, Int.reduceGE]; done)
        | (have e := refPre_bad hx (by assumption) (.inr (by assumption)); refine ⟨LeS.of_eq ?_, trivial⟩; simp only [refNumber, refTail, *, eq_self, List.length_nil, gt_iff_lt, Int.natCast_zero, Int.cast_ofNat_Int, and_self, true_and, and_true, true_or, or_true, or_false, false_or, and_false, false_and, if_true, if_false, not_true_eq_false, not_false_eq_true, reduceIte, reduceCtorEq, Bool.false_eq_true, Int.reduceEq, Int.reduceLT, Int.reduceLE, Int.reduceGT, Int.reduceGE]; done)
        | (have e := refPre_end hx (by assumption); refine ⟨LeS.of_eq ?_, trivial⟩; simp only [refNumber, refTail, *, eq_self, List.length_nil, gt_iff_lt, Int.natCast_zero, Int.cast_ofNat_Int, and_self, true_and, and_true, true_or, or_true, or_false, false_or, and_false, false_and, if_true, if_false, not_true_eq_false, not_false_eq_true, reduceIte, reduceCtorEq, Bool.false_eq_true, Int.reduceEq, Int.reduceLT, Int.reduceLE, Int.reduceGT, Int.reduceGE]; done)
        | trace_state
  · refine loop_auto [4, 5] [] (fun x : Nat × Int => [(6, .d (.int .i64 x.2)), (7, .d (.int .i64 x.1))]) (fun _ => []) (refPre (l)) (fun x => List.length (l) - x.1) (0, 0) ?_ (fun x hx => ?_) ⟨by simp, rfl⟩
    · conv => whnf
      repeat' first
        | (refine bc_true (by assumption) ?_; (conv => whnf))
        | (refine bc_false (by assumption) ?_; (conv => whnf))
        | (refine bc_intro (fun _ => ?_) (fun _ => ?_) <;> (conv => whnf))
        | (refine need_intro ?_ ?_; (conv => whnf))
      all_goals first | exact ⟨rfl, rfl⟩ | exact ⟨rfl, rfl, rfl⟩ | exact DLe.refl _ | exact trivial
    · conv => whnf
      repeat' first
        | (refine NextVC.mk (x.1 + 1, refStep x.2 (List.getD (l) x.1 0)) ?_ ?_ ?_; (conv => whnf))
        | (refine bc_true (by assumption) ?_; (conv => whnf))
        | (refine bc_false (by assumption) ?_; (conv => whnf))
        | (refine bc_intro (fun _ => ?_) (fun _ => ?_) <;> (conv => whnf))
        | (refine need_intro ?_ ?_; (conv => whnf))
      all_goals try simp only [decide_eq_true_eq, decide_eq_false_iff_not, beq_iff_eq, beq_eq_false_iff_ne, ne_eq, Int.toNat_natCast] at *
      all_goals first
        | exact trivial
        | omega
        | exact ⟨by omega, by omega⟩
        | exact DLe.refl _
        | exact DLe.of_eq rfl
        | exact DLe.of_eq (by rw [refPre_idx (by assumption) (by assumption)])
        | exact refPre_step hx (by assumption) (by assumption) (by assumption)
        | (have e := refPre_bad hx (by assumption) (.inl (by assumption)); refine ⟨LeS.of_eq ?_, trivial⟩; simp only [refNumber, refTail, *, eq_self, List.length_nil, gt_iff_lt, Int.natCast_zero, Int.cast_ofNat_Int, and_self, true_and, and_true, true_or, or_true, or_false, false_or, and_false, false_and, if_true, if_false, not_true_eq_false, not_false_eq_true, reduceIte, reduceCtorEq, Bool.false_eq_true, Int.reduceEq, Int.reduceLT, Int.reduceLE, Int.reduceGT, Int.reduceGE]; done)
        | (have e := refPre_bad hx (by assumption) (.inr (by assumption)); refine ⟨LeS.of_eq ?_, trivial⟩; simp only [refNumber, refTail, *, eq_self, List.length_nil, gt_iff_lt, Int.natCast_zero, Int.cast_ofNat_Int, and_self, true_and, and_true, true_or, or_true, or_false, false_or, and_false, false_and, if_true, if_false, not_true_eq_false, not_false_eq_true, reduceIte, reduceCtorEq, Bool.false_eq_true, Int.reduceEq, Int.reduceLT, Int.reduceLE, Int.reduceGT, Int.reduceGE]; done)
        | (have e := refPre_end hx (by assumption); refine ⟨LeS.of_eq ?_, trivial⟩; simp only [refNumber, refTail, *, eq_self, List.length_nil, gt_iff_lt, Int.natCast_zero, Int.cast_ofNat_Int, and_self, true_and, and_true, true_or, or_true, or_false, false_or, and_false, false_and, if_true, if_false, not_true_eq_false, not_false_eq_true, reduceIte, reduceCtorEq, Bool.false_eq_true, Int.reduceEq, Int.reduceLT, Int.reduceLE, Int.reduceGT, Int.reduceGE]; done)
        | trace_state
  · refine loop_auto [4, 5] [] (fun x : Nat × Int => [(6, .d (.int .i64 x.2)), (7, .d (.int .i64 x.1))]) (fun _ => []) (refPre (l)) (fun x => List.length (l) - x.1) (0, 0) ?_ (fun x hx => ?_) ⟨by simp, rfl⟩
    · conv => whnf
      repeat' first
        | (refine bc_true (by assumption) ?_; (conv => whnf))
        | (refine bc_false (by assumption) ?_; (conv => whnf))
        | (refine bc_intro (fun _ => ?_) (fun _ => ?_) <;> (conv => whnf))
        | (refine need_intro ?_ ?_; (conv => whnf))
      all_goals first | exact ⟨rfl, rfl⟩ | exact ⟨rfl, rfl, rfl⟩ | exact DLe.refl _ | exact trivial
    · conv => whnf
      repeat' first
        | (refine NextVC.mk (x.1 + 1, refStep x.2 (List.getD (l) x.1 0)) ?_ ?_ ?_; (conv => whnf))
        | (refine bc_true (by assumption) ?_; (conv => whnf))
        | (refine bc_false (by assumption) ?_; (conv => whnf))
        | (refine bc_intro (fun _ => ?_) (fun _ => ?_) <;> (conv => whnf))
        | (refine need_intro ?_ ?_; (conv => whnf))
      all_goals try simp only [decide_eq_true_eq, decide_eq_false_iff_not, beq_iff_eq, beq_eq_false_iff_ne, ne_eq, Int.toNat_natCast] at *
      all_goals first
        | exact trivial
        | omega
        | exact ⟨by omega, by omega⟩
        | exact DLe.refl _
        | exact DLe.of_eq rfl
        | exact DLe.of_eq (by rw [refPre_idx (by assumption) (by assumption)])
        | exact refPre_step hx (by assumption) (by assumption) (by assumption)
        | (have e := refPre_bad hx (by assumption) (.inl (by assumption)); refine ⟨LeS.of_eq ?_, trivial⟩; simp only [refNumber, refTail, *, eq_self, List.length_nil, gt_iff_lt, Int.natCast_zero, Int.cast_ofNat_Int, and_self, true_and, and_true, true_or, or_true, or_false, false_or, and_false, false_and, if_true, if_false, not_true_eq_false, not_false_eq_true, reduceIte, reduceCtorEq, Bool.false_eq_true, Int.reduceEq, Int.reduceLT, Int.reduceLE, Int.reduceGT, Int.reduceGE]; done)
        | (have e := refPre_bad hx (by assumption) (.inr (by assumption)); refine ⟨LeS.of_eq ?_, trivial⟩; simp only [refNumber, refTail, *, eq_self, List.length_nil, gt_iff_lt, Int.natCast_zero, Int.cast_ofNat_Int, and_self, true_and, and_true, true_or, or_true, or_false, false_or, and_false, false_and, if_true, if_false, not_true_eq_false, not_false_eq_true, reduceIte, reduceCtorEq, Bool.false_eq_true, Int.reduceEq, Int.reduceLT, Int.reduceLE, Int.reduceGT, Int.reduceGE]; done)
        | (have e := refPre_end hx (by assumption); refine ⟨LeS.of_eq ?_, trivial⟩; simp only [refNumber, refTail, *, eq_self, List.length_nil, gt_iff_lt, Int.natCast_zero, Int.cast_ofNat_Int, and_self, true_and, and_true, true_or, or_true, or_false, false_or, and_false, false_and, if_true, if_false, not_true_eq_false, not_false_eq_true, reduceIte, reduceCtorEq, Bool.false_eq_true, Int.reduceEq, Int.reduceLT, Int.reduceLE, Int.reduceGT, Int.reduceGE]; done)
        | trace_state
  · refine loop_auto [4, 5] [] (fun x : Nat × Int => [(6, .d (.int .i64 x.2)), (7, .d (.int .i64 x.1))]) (fun _ => []) (refPre (l)) (fun x => List.length (l) - x.1) (0, 0) ?_ (fun x hx => ?_) ⟨by simp, rfl⟩
    · conv => whnf
      repeat' first
        | (refine bc_true (by assumption) ?_; (conv => whnf))
        | (refine bc_false (by assumption) ?_; (conv => whnf))
        | (refine bc_intro (fun _ => ?_) (fun _ => ?_) <;> (conv => whnf))
        | (refine need_intro ?_ ?_; (conv => whnf))
      all_goals first | exact ⟨rfl, rfl⟩ | exact ⟨rfl, rfl, rfl⟩ | exact DLe.refl _ | exact trivial
    · conv => whnf
      repeat' first
        | (refine NextVC.mk (x.1 + 1, refStep x.2 (List.getD (l) x.1 0)) ?_ ?_ ?_; (conv => whnf))
        | (refine bc_true (by assumption) ?_; (conv => whnf))
        | (refine bc_false (by assumption) ?_; (conv => whnf))
        | (refine bc_intro (fun _ => ?_) (fun _ => ?_) <;> (conv => whnf))
        | (refine need_intro ?_ ?_; (conv => whnf))
      all_goals try simp only [decide_eq_true_eq, decide_eq_false_iff_not, beq_iff_eq, beq_eq_false_iff_ne, ne_eq, Int.toNat_natCast] at *
      all_goals first
        | exact trivial
        | omega
        | exact ⟨by omega, by omega⟩
        | exact DLe.refl _
        | exact DLe.of_eq rfl
        | exact DLe.of_eq (by rw [refPre_idx (by assumption) (by assumption)])
        | exact refPre_step hx (by assumption) (by assumption) (by assumption)
        | (have e := refPre_bad hx (by assumption) (.inl (by assumption)); refine ⟨LeS.of_eq ?_, trivial⟩; simp only [refNumber, refTail, *, eq_self, List.length_nil, gt_iff_lt, Int.natCast_zero, Int.cast_ofNat_Int, and_self, true_and, and_true, true_or, or_true, or_false, false_or, and_false, false_and, if_true, if_false, not_true_eq_false, not_false_eq_true, reduceIte, reduceCtorEq, Bool.false_eq_true, Int.reduceEq, Int.reduceLT, Int.reduceLE, Int.reduceGT, Int.reduceGE]; done)
        | (have e := refPre_bad hx (by assumption) (.inr (by assumption)); refine ⟨LeS.of_eq ?_, trivial⟩; simp only [refNumber, refTail, *, eq_self, List.length_nil, gt_iff_lt, Int.natCast_zero, Int.cast_ofNat_Int, and_self, true_and, and_true, true_or, or_true, or_false, false_or, and_false, false_and, if_true, if_false, not_true_eq_false, not_false_eq_true, reduceIte, reduceCtorEq, Bool.false_eq_true, Int.reduceEq, Int.reduceLT, Int.reduceLE, Int.reduceGT, Int.reduceGE]; done)
        | (have e := refPre_end hx (by assumption); refine ⟨LeS.of_eq ?_, trivial⟩; simp only [refNumber, refTail, *, eq_self, List.length_nil, gt_iff_lt, Int.natCast_zero, Int.cast_ofNat_Int, and_self, true_and, and_true, true_or, or_true, or_false, false_or, and_false, false_and, if_true, if_false, not_true_eq_false, not_false_eq_true, reduceIte, reduceCtorEq, Bool.false_eq_true, Int.reduceEq, Int.reduceLT, Int.reduceLE, Int.reduceGT, Int.reduceGE]; done)
        | trace_state
/-! plain laws of numbers -/
def byteLoop : List UInt8 → Int → Option Int
  | [], acc => some acc
  | b :: l, acc => if (b.toNat : Int) < 48 ∨ (b.toNat : Int) > 57 then none else if acc * 10 + (b.toNat - 48) > 1000000000000 then none else byteLoop l (acc * 10 + (b.toNat - 48))
theorem wrap32_of {n : Int} (h1 : -2147483648 ≤ n) (h2 : n < 2147483648) : IntKind.i32.wrap n = n := by
  simp [IntKind.wrap, IntKind.bits, IntKind.signed]
  split <;> omega
theorem wrapu8_of {n : Int} (h1 : 0 ≤ n) (h2 : n < 256) : IntKind.u8.wrap n = n := by
  simp [IntKind.wrap, IntKind.bits, IntKind.signed]
  omega
theorem runeAt_low {s : List UInt8} {pos : Nat} (h : pos < s.length) (hb : (s.getD pos 0).toNat < 128) : runeAt s pos = ((s.getD pos 0).toNat, 1) := by
  have e : (s.getD pos 0) = (ByteArray.mk ⟨s⟩)[pos]'h := by simp [List.getD, h]; rfl
  rw [e] at hb ⊢
  exact decode_ascii ⟨⟨s⟩⟩ pos h hb
theorem runeAt_high {s : List UInt8} {pos : Nat} (h : pos < s.length) (hb : ¬ (s.getD pos 0).toNat < 128) : 128 ≤ (runeAt s pos).1 := by
  have e : (s.getD pos 0) = (ByteArray.mk ⟨s⟩)[pos]'h := by simp [List.getD, h]; rfl
  rw [e] at hb
  exact (decode_high ⟨⟨s⟩⟩ pos h (by omega)).1
theorem numLoop_bytes {s : List UInt8} : ∀ (f pos : Nat) (acc : Int), s.length ≤ pos + f → 0 ≤ acc → acc ≤ 1000000000000 → numLoop s f pos acc = byteLoop (s.drop pos) acc
  | 0, pos, acc, h, _, _ => by rw [List.drop_eq_nil_of_le (by omega)]; rfl
  | f + 1, pos, acc, h, h0, h1 => by
    by_cases hp : pos < s.length
    · rw [refPre_drop hp]
      by_cases hb : (s.getD pos 0).toNat < 128
      · simp only [numLoop, hp, if_true, runeAt_low hp hb, byteLoop]
        generalize (s.getD pos 0).toNat = b at *
        by_cases hd : (b : Int) < 48 ∨ (b : Int) > 57
        · simp only [hd, if_true]
        · simp only [hd, if_false]
          have w1 : IntKind.i64.wrap (acc * 10) = acc * 10 := wrap_of (by omega) (by omega)
          have w2 : IntKind.i32.wrap ((b : Int) - 48) = (b : Int) - 48 := wrap32_of (by omega) (by omega)
          have w3 : IntKind.i64.wrap ((b : Int) - 48) = (b : Int) - 48 := wrap_of (by omega) (by omega)
          have w4 : IntKind.i64.wrap (acc * 10 + ((b : Int) - 48)) = acc * 10 + ((b : Int) - 48) := wrap_of (by omega) (by omega)
          rw [w1, w2, w3, w4]
          by_cases hbig : acc * 10 + ((b : Int) - 48) > 1000000000000
          · simp only [hbig, if_true]
          · simp only [hbig, if_false]
            exact numLoop_bytes f (pos + 1) _ (by omega) (by omega) (by omega)
      · have hr := runeAt_high hp hb
        simp only [numLoop, hp, if_true, byteLoop]
        rw [if_pos (Or.inr (show ((runeAt s pos).1 : Int) > 57 by omega)), if_pos (Or.inr (show ((s.getD pos 0).toNat : Int) > 57 by omega))]
    · rw [List.drop_eq_nil_of_le (by omega)]
      simp only [numLoop, hp, if_false, byteLoop]
theorem numLoop_all (s : List UInt8) : numLoop s s.length 0 0 = byteLoop s 0 := by
  rw [numLoop_bytes s.length 0 0 (by omega) (by decide) (by decide)]; rfl
theorem byteLoop_low : ∀ {l : List UInt8} {acc v : Int}, byteLoop l acc = some v → 0 ≤ acc → acc * 10 ^ l.length ≤ v ∧ (acc ≤ 1000000000000 → v ≤ 1000000000000)
  | [], acc, v, h, _ => by
    simp only [byteLoop, Option.some.injEq] at h
    subst h
    simp
  | b :: l, acc, v, h, h0 => by
    simp only [byteLoop] at h
    split at h
    · cases h
    · rename_i hd
      split at h
      · cases h
      · rename_i hb
        obtain ⟨h1, h2⟩ := byteLoop_low h (by omega)
        refine ⟨?_, fun _ => h2 (by omega)⟩
        rw [List.length_cons, Int.pow_succ]
        have hp : (0 : Int) ≤ 10 ^ l.length := Int.pow_nonneg (by decide)
        have h3 : acc * 10 * 10 ^ l.length ≤ (acc * 10 + ((b.toNat : Int) - 48)) * 10 ^ l.length := Int.mul_le_mul_of_nonneg_right (by omega) hp
        have h4 : acc * (10 ^ l.length * 10) = acc * 10 * 10 ^ l.length := by rw [Int.mul_comm (10 ^ l.length) 10, Int.mul_assoc]
        rw [h4]
        omega
theorem byteLoop_long {l : List UInt8} (h : l.length > 13) (h0 : ¬ ((l.getD 0 0).toNat : Int) = 48) : byteLoop l 0 = none := by
  cases l with
  | nil => simp at h
  | cons b l =>
    simp only [List.getD_cons_zero] at h0
    cases hv : byteLoop (b :: l) 0 with
    | none => rfl
    | some v =>
      exfalso
      simp only [byteLoop] at hv
      split at hv
      · cases hv
      · split at hv
        · cases hv
        · obtain ⟨h1, h2⟩ := byteLoop_low hv (by omega)
          have h3 := h2 (by omega)
          have hp : (10 : Int) ^ 13 ≤ 10 ^ l.length := by
            have : (10 : Nat) ^ 13 ≤ 10 ^ l.length := Nat.pow_le_pow_right (by decide) (by simp at h; omega)
            exact_mod_cast this
          have h4 : 1 * 10 ^ l.length ≤ (0 * 10 + ((b.toNat : Int) - 48)) * 10 ^ l.length := Int.mul_le_mul_of_nonneg_right (by omega) (Int.pow_nonneg (by decide))
          have h5 : (10 : Int) ^ 13 = 10000000000000 := rfl
          omega
theorem refStep_of {acc : Int} {b : UInt8} (h0 : 0 ≤ acc) (h1 : acc ≤ 100000000000000000) (h2 : ¬ ((b.toNat : Int) < 48 ∨ (b.toNat : Int) > 57)) : refStep acc b = acc * 10 + (b.toNat - 48) := by
  unfold refStep
  rw [wrap_of (n := 10 * acc) (by omega) (by omega), wrapu8_of (n := (b.toNat : Int) - 48) (by omega) (by omega), wrap_of (n := (b.toNat : Int) - 48) (by omega) (by omega), wrap_of (by omega) (by omega)]
  omega
theorem bound_step {acc d : Int} {k : Nat} (h0 : 0 ≤ acc) (hd : d ≤ 9) (h : (acc + 1) * 10 ^ (k + 1) ≤ 100000000000000000) : acc ≤ 100000000000000000 ∧ (acc * 10 + d + 1) * 10 ^ k ≤ 100000000000000000 := by
  rw [Int.pow_succ] at h
  have hp : (1 : Int) ≤ 10 ^ k := by
    have : 1 ≤ (10 : Nat) ^ k := Nat.one_le_pow _ _ (by decide)
    exact_mod_cast this
  generalize (10 : Int) ^ k = p at *
  have e : (acc + 1) * (p * 10) = (acc * 10 + 10) * p := by rw [Int.mul_comm p 10, ← Int.mul_assoc, Int.add_mul]; rfl
  rw [e] at h
  refine ⟨?_, ?_⟩
  · have : (acc * 10 + 10) * 1 ≤ (acc * 10 + 10) * p := Int.mul_le_mul_of_nonneg_left hp (by omega)
    omega
  · have : (acc * 10 + d + 1) * p ≤ (acc * 10 + 10) * p := Int.mul_le_mul_of_nonneg_right (by omega) (by omega)
    omega
theorem refLoop_mono : ∀ {l : List UInt8} {acc v : Int}, 0 ≤ acc → (acc + 1) * 10 ^ l.length ≤ 100000000000000000 → refLoop l acc = some v → acc ≤ v
  | [], acc, v, _, _, h => by simp only [refLoop, Option.some.injEq] at h; omega
  | b :: l, acc, v, h0, hb, h => by
    simp only [refLoop] at h
    split at h
    · cases h
    · rename_i hd
      rw [List.length_cons] at hb
      obtain ⟨k1, k2⟩ := bound_step (d := (b.toNat : Int) - 48) h0 (by omega) hb
      rw [refStep_of h0 k1 hd] at h
      have := refLoop_mono (by omega) k2 h
      omega
theorem refLoop_bytes : ∀ {l : List UInt8} {acc : Int}, 0 ≤ acc → acc ≤ 1000000000000 → (acc + 1) * 10 ^ l.length ≤ 100000000000000000 →
    byteLoop l acc = match refLoop l acc with | none => none | some v => if v > 1000000000000 then none else some v
  | [], acc, _, h1, _ => by simp only [byteLoop, refLoop]; rw [if_neg (by omega)]
  | b :: l, acc, h0, h1, hb => by
    simp only [byteLoop, refLoop]
    by_cases hd : (b.toNat : Int) < 48 ∨ (b.toNat : Int) > 57
    · simp only [hd, if_true]
    · simp only [hd, if_false]
      rw [List.length_cons] at hb
      obtain ⟨k1, k2⟩ := bound_step (d := (b.toNat : Int) - 48) h0 (by omega) hb
      rw [refStep_of h0 k1 hd]
      by_cases hbig : acc * 10 + ((b.toNat : Int) - 48) > 1000000000000
      · simp only [hbig, if_true]
        cases hr : refLoop l (acc * 10 + ((b.toNat : Int) - 48)) with
        | none => rfl
        | some v =>
          have := refLoop_mono (by omega) k2 hr
          simp only
          rw [if_pos (by omega)]
      · simp only [hbig, if_false]
        exact refLoop_bytes (by omega) (by omega) k2
theorem tail_eq (s : List UInt8) (neg : Bool) : refTail s neg = numTail s neg := by
  unfold refTail numTail
  by_cases h0 : s = []
  · subst h0; simp
  · have hl := lpos h0
    rw [if_neg h0]
    by_cases h13 : (s.length : Int) > 13
    · rw [if_pos (.inr h13)]
      split
      · rfl
      · rename_i hz
        rw [numLoop_all, byteLoop_long (by omega) (fun e => hz ⟨e, .inl (by omega)⟩)]
    · rw [if_neg (by omega)]
      split
      · rfl
      · rw [numLoop_all, refLoop_bytes (by decide) (by decide)]
        · cases refLoop s 0 with
          | none => rfl
          | some v =>
            simp only
            by_cases hv : v > 1000000000000
            · simp only [hv, if_true]
            · simp only [hv, if_false]
        · have : (10 : Nat) ^ s.length ≤ 10 ^ 13 := Nat.pow_le_pow_right (by decide) (by omega)
          have h2 : (10 : Int) ^ s.length ≤ 10 ^ 13 := by exact_mod_cast this
          have h5 : (10 : Int) ^ 13 = 10000000000000 := rfl
          omega
theorem number_eq (l : List UInt8) : refNumber l = number l := by
  unfold refNumber number
  by_cases h1 : (l.length : Int) > 1
  · simp only [h1, true_and, tail_eq, show (l.length : Int) > 0 by omega]
  · rw [if_neg (fun h => h1 h.1), tail_eq]
    by_cases h2 : (l.length : Int) > 0 ∧ ((l.getD 0 0).toNat : Int) = 45
    · rw [if_pos h2]
      match l, h1, h2 with
      | [b], _, h2 =>
        have hb : b = 45 := UInt8.toNat.inj (by have := h2.2; simp only [List.getD_cons_zero] at this; show b.toNat = 45; omega)
        subst hb
        decide
      | [], _, h2 => simp at h2
      | _ :: _ :: _, h1, _ => simp at h1; omega
    · rw [if_neg h2]
theorem dig_toNat {n : Int} (h : 0 ≤ n) : ((dig n).toNat : Int) = 48 + n % 10 := by
  have e : n.tmod 10 = n % 10 := Int.tmod_eq_emod_of_nonneg h
  unfold dig
  rw [e, wrap_of (by omega) (by omega), wrapu8_of (by omega) (by omega), UInt8.toNat_ofNat']
  omega
theorem digs_zero (f : Nat) (s : List UInt8) : digs f 0 s = s := by
  cases f with
  | zero => rfl
  | succ f => simp [digs]
theorem byteLoop_digs : ∀ (f : Nat) (m : Int) (s : List UInt8), 0 < m → m ≤ f → byteLoop (digs f m s) 0 = if m > 1000000000000 then none else byteLoop s m
  | 0, m, s, h, hf => by omega
  | f + 1, m, s, h, hf => by
    have hd : m.tdiv 10 = m / 10 := Int.tdiv_eq_ediv_of_nonneg (by omega)
    have hg := dig_toNat (n := m) (by omega)
    simp only [digs, h, gt_iff_lt, if_true, hd]
    by_cases h0 : m / 10 = 0
    · rw [h0, digs_zero]
      simp only [byteLoop, hg]
      rw [if_neg (by omega)]
      have e : 0 * 10 + (48 + m % 10 - 48) = m := by omega
      rw [e]
    · rw [byteLoop_digs f (m / 10) _ (by omega) (by omega)]
      simp only [byteLoop, hg]
      have e : m / 10 * 10 + (48 + m % 10 - 48) = m := by omega
      rw [e]
      by_cases hb : m / 10 > 1000000000000
      · rw [if_pos hb, if_pos (by omega)]
      · rw [if_neg hb, if_neg (by omega)]
theorem digs_head : ∀ (f : Nat) (m : Int) (s : List UInt8), 0 < m → m ≤ f → digs f m s ≠ [] ∧ 49 ≤ (((digs f m s).getD 0 0).toNat : Int) ∧ (((digs f m s).getD 0 0).toNat : Int) ≤ 57
  | 0, m, s, h, hf => by omega
  | f + 1, m, s, h, hf => by
    have hd : m.tdiv 10 = m / 10 := Int.tdiv_eq_ediv_of_nonneg (by omega)
    have hg := dig_toNat (n := m) (by omega)
    simp only [digs, h, gt_iff_lt, if_true, hd]
    by_cases h0 : m / 10 = 0
    · rw [h0, digs_zero]
      simp only [List.getD_cons_zero, ne_eq, reduceCtorEq, not_false_eq_true, true_and]
      omega
    · exact digs_head f (m / 10) _ (by omega) (by omega)
theorem decPos_facts {m : Int} (h : 0 < m) : decPos m ≠ [] ∧ 49 ≤ (((decPos m).getD 0 0).toNat : Int) ∧ (((decPos m).getD 0 0).toNat : Int) ≤ 57 ∧ byteLoop (decPos m) 0 = if m > 1000000000000 then none else some m := by
  have hh := digs_head m.toNat m [] h (by omega)
  have hb := byteLoop_digs m.toNat m [] h (by omega)
  have e : decPos m = digs m.toNat m [] := by unfold decPos; rw [if_neg hh.1]
  rw [e]
  exact ⟨hh.1, hh.2.1, hh.2.2, by rw [hb]; rfl⟩
theorem numTail_dec {m : Int} (h : 0 < m) (neg : Bool) : numTail (decPos m) neg = if m > 1000000000000 then (0, false) else (if neg then IntKind.i64.wrap (0 - m) else m, true) := by
  obtain ⟨h1, h2, h3, h4⟩ := decPos_facts h
  unfold numTail
  rw [if_neg h1, if_neg (by omega), numLoop_all, h4]
  by_cases hb : m > 1000000000000
  · simp only [hb, if_true]
  · simp only [hb, if_false]
theorem number_dec {m : Int} (h1 : -4611686018427387904 < m) (h2 : m < 4611686018427387904) :
    ((m ≥ -1000000000000 ∧ m ≤ 1000000000000) → number (decimalS m) = (m, true)) ∧ (¬ (m ≥ -1000000000000 ∧ m ≤ 1000000000000) → number (decimalS m) = (0, false)) := by
  rcases Int.lt_trichotomy m 0 with h | h | h
  · have w : IntKind.i64.wrap (0 - m) = -m := by rw [wrap_of (by omega) (by omega)]; omega
    have e : number (decimalS m) = numTail (decPos (-m)) true := by
      unfold number decimalS
      rw [if_pos h, w, if_pos ⟨by simp only [List.length_cons]; omega, rfl⟩]
      rfl
    have w2 : IntKind.i64.wrap (0 - -m) = m := by rw [wrap_of (by omega) (by omega)]; omega
    rw [e, numTail_dec (by omega)]
    refine ⟨fun hr => ?_, fun hr => ?_⟩
    · rw [if_neg (by omega), if_pos rfl, w2]
    · rw [if_pos (by omega)]
  · subst h
    exact ⟨fun _ => by decide, fun hr => absurd ⟨by decide, by decide⟩ hr⟩
  · have e : number (decimalS m) = numTail (decPos m) false := by
      obtain ⟨_, k2, k3, _⟩ := decPos_facts h
      have d : decimalS m = decPos m := by unfold decimalS; rw [if_neg (by omega)]
      rw [d]
      unfold number
      rw [if_neg (by omega)]
    rw [e, numTail_dec h]
    refine ⟨fun hr => ?_, fun hr => ?_⟩
    · rw [if_neg (by omega)]; rfl
    · rw [if_pos (by omega)]
/-! FoldNumbers -/
theorem ref_at (l : List UInt8) : Sx.Spec Try.prog GG 7 [.d (.str l)] [] (.tup [.d (.int .i64 (number l).1), .d (.bool (number l).2)]) [] := number_eq l ▸ ref_spec l
structure DecOk (m : Int) : Prop where
  h1 : -4611686018427387904 < m
  h2 : m < 4611686018427387904
theorem decimal_at {m : Int} (h : DecOk m) : Sx.Spec Try.prog GG 5 [.d (.int .i64 m)] [] (.d (.str (decimalS m))) [] := decimal_spec m h.h1 h.h2
theorem digs_len : ∀ (f : Nat) (n : Int) (s : List UInt8), (digs f n s).length ≤ f + s.length
  | 0, _, s => by simp [digs]
  | f + 1, n, s => by
    simp only [digs]
    split
    · have := digs_len f (n.tdiv 10) (dig n :: s)
      simp only [List.length_cons] at this
      omega
    · omega
theorem decPos_len {m : Int} (h : m ≤ 4611686018427387904) : (decPos m).length ≤ 4611686018427387904 := by
  unfold decPos
  split
  · decide
  · have := digs_len m.toNat m []
    simp only [List.length_nil] at this
    omega
theorem decimal_len {m : Int} (h : DecOk m) : (decimalS m).length ≤ 4611686018427387905 := by
  obtain ⟨h1, h2⟩ := h
  unfold decimalS
  split
  · have := decPos_len (m := IntKind.i64.wrap (0 - m)) (by rw [wrap_of (by omega) (by omega)]; omega)
    simp only [List.length_cons]
    omega
  · have := decPos_len (m := m) (by omega)
    omega
def small (n : Int) : Int := n.tmod 2000000000000
def edge (k : Int) : Int := IntKind.i64.wrap (IntKind.i64.wrap (1000000000000 + IntKind.i64.wrap (k.tmod 5)) - 2)
set_option maxRecDepth 100000 in
theorem law_spec (s : List UInt8) (n k : Int) (hs : s.length ≤ 140737488355328) (hn1 : -9223372036854775808 ≤ n) (hn2 : n < 9223372036854775808) (hk1 : 0 ≤ k) (hk2 : k < 256) :
    Sx.Spec Try.prog GG 3 [.d (.str s), .d (.int .i64 n), .d (.int .u8 k)] [] (.d (.bool true)) [] := by
  have r1 := Int.tmod_lt_of_pos n (show (0 : Int) < 2000000000000 by decide)
  have r2 := Int.lt_tmod_of_pos n (show (0 : Int) < 2000000000000 by decide)
  have r3 : k.tmod 5 = k % 5 := Int.tmod_eq_emod_of_nonneg hk1
  have w1 : IntKind.i64.wrap (k.tmod 5) = k % 5 := by rw [r3]; exact wrap_of (by omega) (by omega)
  have w2 : IntKind.i64.wrap (IntKind.i64.wrap (1000000000000 + IntKind.i64.wrap (k.tmod 5)) - 2) = 999999999998 + k % 5 := by
    rw [w1, wrap_of (n := 1000000000000 + k % 5) (by omega) (by omega), wrap_of (by omega) (by omega)]; omega
  have d1 : DecOk (n.tmod 2000000000000) := ⟨by omega, by omega⟩
  have d2 : DecOk (IntKind.i64.wrap (IntKind.i64.wrap (1000000000000 + IntKind.i64.wrap (k.tmod 5)) - 2)) := by rw [w2]; exact ⟨by omega, by omega⟩
  have d3 : DecOk (IntKind.i64.wrap (0 - IntKind.i64.wrap (IntKind.i64.wrap (1000000000000 + IntKind.i64.wrap (k.tmod 5)) - 2))) := by rw [w2, wrap_of (by omega) (by omega)]; exact ⟨by omega, by omega⟩
  have d4 : DecOk (IntKind.i64.wrap k) := by rw [wrap_of (by omega) (by omega)]; exact ⟨by omega, by omega⟩
  clear r3 w1 w2
  refine spec_intro (E := EE) (fn := Try.f3) eok (by kernel_rfl) (by kernel_rfl) Try.call3 (by kernel_rfl) (by kernel_rfl) ?_
  have l1 := decimal_len d1
  have l2 := decimal_len d2
  conv => whnf
  repeat' first
    | (refine call_intro (decimal_at (by assumption)) ?_ (by first | exact .inl rfl | exact .inr rfl); (conv => whnf))
    | (refine bc_true (by assumption) ?_; (conv => whnf))
    | (refine bc_false (by assumption) ?_; (conv => whnf))
    | (refine bc_intro (fun _ => ?_) (fun _ => ?_) <;> (conv => whnf))
    | (refine need_intro ?_ ?_; (conv => whnf))
  all_goals try exact (by decide : ¬ (2000000000000 : Int) = 0)
  all_goals try exact (by decide : ¬ (5 : Int) = 0)
  all_goals try (simp only [List.length_cons, List.length_nil]; omega)
  all_goals try omega
  refine loop_auto [7, 47, 48] [] (fun i : Nat => [(49, .d (.int .i64 i))]) (fun i => []) (fun i => i ≤ 9) (fun i => 9 - i) 0 ?_ (fun i hi => ?_) (by simp)
  · conv => whnf
    repeat' first
      | (refine bc_true (by assumption) ?_; (conv => whnf))
      | (refine bc_false (by assumption) ?_; (conv => whnf))
      | (refine bc_intro (fun _ => ?_) (fun _ => ?_) <;> (conv => whnf))
      | (refine need_intro ?_ ?_; (conv => whnf))
    all_goals first | exact ⟨rfl, rfl⟩ | exact ⟨rfl, rfl, rfl⟩ | exact DLe.refl _ | exact trivial
  · have hi : i = 0 ∨ i = 1 ∨ i = 2 ∨ i = 3 ∨ i = 4 ∨ i = 5 ∨ i = 6 ∨ i = 7 ∨ i = 8 ∨ i = 9 := by omega
    rcases hi with rfl | rfl | rfl | rfl | rfl | rfl | rfl | rfl | rfl | rfl
    · skip
      conv => whnf
      repeat' first
        | (refine call_intro (number_spec _) ?_ (by first | exact .inl rfl | exact .inr rfl); (conv => whnf))
        | (refine call_intro (ref_at _) ?_ (by first | exact .inl rfl | exact .inr rfl); (conv => whnf))
        | (refine NextVC.mk 1 ?_ ?_ ?_; (conv => whnf))
        | (refine bc_true (by assumption) ?_; (conv => whnf))
        | (refine bc_false (by assumption) ?_; (conv => whnf))
        | (refine bc_intro (fun _ => ?_) (fun _ => ?_) <;> (conv => whnf))
        | (refine need_intro ?_ ?_; (conv => whnf))
      all_goals first
        | exact trivial
        | exact DLe.refl _
        | exact DLe.of_eq (by rfl)
        | omega
        | exact ⟨by decide, by decide⟩
        | (exfalso; simp at *; done)
    · skip
      conv => whnf
      repeat' first
        | (refine call_intro (number_spec _) ?_ (by first | exact .inl rfl | exact .inr rfl); (conv => whnf))
        | (refine call_intro (ref_at _) ?_ (by first | exact .inl rfl | exact .inr rfl); (conv => whnf))
        | (refine NextVC.mk 2 ?_ ?_ ?_; (conv => whnf))
        | (refine bc_true (by assumption) ?_; (conv => whnf))
        | (refine bc_false (by assumption) ?_; (conv => whnf))
        | (refine bc_intro (fun _ => ?_) (fun _ => ?_) <;> (conv => whnf))
        | (refine need_intro ?_ ?_; (conv => whnf))
      all_goals first
        | exact trivial
        | exact DLe.refl _
        | exact DLe.of_eq (by rfl)
        | omega
        | exact ⟨by decide, by decide⟩
        | (exfalso; simp at *; done)
    · skip
      conv => whnf
      repeat' first
        | (refine call_intro (number_spec _) ?_ (by first | exact .inl rfl | exact .inr rfl); (conv => whnf))
        | (refine call_intro (ref_at _) ?_ (by first | exact .inl rfl | exact .inr rfl); (conv => whnf))
        | (refine NextVC.mk 3 ?_ ?_ ?_; (conv => whnf))
        | (refine bc_true (by assumption) ?_; (conv => whnf))
        | (refine bc_false (by assumption) ?_; (conv => whnf))
        | (refine bc_intro (fun _ => ?_) (fun _ => ?_) <;> (conv => whnf))
        | (refine need_intro ?_ ?_; (conv => whnf))
      all_goals first
        | exact trivial
        | exact DLe.refl _
        | exact DLe.of_eq (by rfl)
        | omega
        | exact ⟨by decide, by decide⟩
        | (exfalso; simp at *; done)
    · skip
      conv => whnf
      repeat' first
        | (refine call_intro (number_spec _) ?_ (by first | exact .inl rfl | exact .inr rfl); (conv => whnf))
        | (refine call_intro (ref_at _) ?_ (by first | exact .inl rfl | exact .inr rfl); (conv => whnf))
        | (refine NextVC.mk 4 ?_ ?_ ?_; (conv => whnf))
        | (refine bc_true (by assumption) ?_; (conv => whnf))
        | (refine bc_false (by assumption) ?_; (conv => whnf))
        | (refine bc_intro (fun _ => ?_) (fun _ => ?_) <;> (conv => whnf))
        | (refine need_intro ?_ ?_; (conv => whnf))
      all_goals first
        | exact trivial
        | exact DLe.refl _
        | exact DLe.of_eq (by rfl)
        | omega
        | exact ⟨by decide, by decide⟩
        | (exfalso; simp at *; done)
    · skip
      conv => whnf
      repeat' first
        | (refine call_intro (number_spec _) ?_ (by first | exact .inl rfl | exact .inr rfl); (conv => whnf))
        | (refine call_intro (ref_at _) ?_ (by first | exact .inl rfl | exact .inr rfl); (conv => whnf))
        | (refine NextVC.mk 5 ?_ ?_ ?_; (conv => whnf))
        | (refine bc_true (by assumption) ?_; (conv => whnf))
        | (refine bc_false (by assumption) ?_; (conv => whnf))
        | (refine bc_intro (fun _ => ?_) (fun _ => ?_) <;> (conv => whnf))
        | (refine need_intro ?_ ?_; (conv => whnf))
      all_goals first
        | exact trivial
        | exact DLe.refl _
        | exact DLe.of_eq (by rfl)
        | omega
        | exact ⟨by decide, by decide⟩
        | (exfalso; simp at *; done)
    · skip
      conv => whnf
      repeat' first
        | (refine call_intro (number_spec _) ?_ (by first | exact .inl rfl | exact .inr rfl); (conv => whnf))
        | (refine call_intro (ref_at _) ?_ (by first | exact .inl rfl | exact .inr rfl); (conv => whnf))
        | (refine NextVC.mk 6 ?_ ?_ ?_; (conv => whnf))
        | (refine bc_true (by assumption) ?_; (conv => whnf))
        | (refine bc_false (by assumption) ?_; (conv => whnf))
        | (refine bc_intro (fun _ => ?_) (fun _ => ?_) <;> (conv => whnf))
        | (refine need_intro ?_ ?_; (conv => whnf))
      all_goals first
        | exact trivial
        | exact DLe.refl _
        | exact DLe.of_eq (by rfl)
        | omega
        | exact ⟨by decide, by decide⟩
        | (exfalso; simp at *; done)
    · skip
      conv => whnf
      repeat' first
        | (refine call_intro (number_spec _) ?_ (by first | exact .inl rfl | exact .inr rfl); (conv => whnf))
        | (refine call_intro (ref_at _) ?_ (by first | exact .inl rfl | exact .inr rfl); (conv => whnf))
        | (refine NextVC.mk 7 ?_ ?_ ?_; (conv => whnf))
        | (refine bc_true (by assumption) ?_; (conv => whnf))
        | (refine bc_false (by assumption) ?_; (conv => whnf))
        | (refine bc_intro (fun _ => ?_) (fun _ => ?_) <;> (conv => whnf))
        | (refine need_intro ?_ ?_; (conv => whnf))
      all_goals first
        | exact trivial
        | exact DLe.refl _
        | exact DLe.of_eq (by rfl)
        | omega
        | exact ⟨by decide, by decide⟩
        | (exfalso; simp at *; done)
    · skip
      conv => whnf
      repeat' first
        | (refine call_intro (number_spec _) ?_ (by first | exact .inl rfl | exact .inr rfl); (conv => whnf))
        | (refine call_intro (ref_at _) ?_ (by first | exact .inl rfl | exact .inr rfl); (conv => whnf))
        | (refine NextVC.mk 8 ?_ ?_ ?_; (conv => whnf))
        | (refine bc_true (by assumption) ?_; (conv => whnf))
        | (refine bc_false (by assumption) ?_; (conv => whnf))
        | (refine bc_intro (fun _ => ?_) (fun _ => ?_) <;> (conv => whnf))
        | (refine need_intro ?_ ?_; (conv => whnf))
      all_goals first
        | exact trivial
        | exact DLe.refl _
        | exact DLe.of_eq (by rfl)
        | omega
        | exact ⟨by decide, by decide⟩
        | (exfalso; simp at *; done)
    · skip
      conv => whnf
      repeat' first
        | (refine call_intro (number_spec _) ?_ (by first | exact .inl rfl | exact .inr rfl); (conv => whnf))
        | (refine call_intro (ref_at _) ?_ (by first | exact .inl rfl | exact .inr rfl); (conv => whnf))
        | (refine NextVC.mk 9 ?_ ?_ ?_; (conv => whnf))
        | (refine bc_true (by assumption) ?_; (conv => whnf))
        | (refine bc_false (by assumption) ?_; (conv => whnf))
        | (refine bc_intro (fun _ => ?_) (fun _ => ?_) <;> (conv => whnf))
        | (refine need_intro ?_ ?_; (conv => whnf))
      all_goals first
        | exact trivial
        | exact DLe.refl _
        | exact DLe.of_eq (by rfl)
        | omega
        | exact ⟨by decide, by decide⟩
        | (exfalso; simp at *; done)
    · conv => whnf
      repeat' first
        | (refine call_intro (decimal_at (by assumption)) ?_ (by first | exact .inl rfl | exact .inr rfl); (conv => whnf))
        | (refine call_intro (number_spec _) ?_ (by first | exact .inl rfl | exact .inr rfl); (conv => whnf))
        | (refine call_intro (awake_spec) ?_ (by first | exact .inl rfl | exact .inr rfl); (conv => whnf))
        | (refine bc_true (by assumption) ?_; (conv => whnf))
        | (refine bc_false (by assumption) ?_; (conv => whnf))
        | (refine bc_intro (fun _ => ?_) (fun _ => ?_) <;> (conv => whnf))
        | (refine need_intro ?_ ?_; (conv => whnf))
      all_goals
        obtain ⟨q1, q2⟩ := number_dec d1.h1 d1.h2
        generalize number (decimalS (n.tmod 2000000000000)) = v at *
        generalize n.tmod 2000000000000 = m at *
        first
          | exact ⟨LeS.refl _, trivial⟩
          | (exfalso
             by_cases hr : m ≥ -1000000000000 ∧ m ≤ 1000000000000
             · have := q1 hr; subst this; simp_all
             · have := q2 hr; subst this; first | (simp_all; done) | (simp_all; omega))
theorem own : ownKnob Try.prog.godebug = none := by kernel_rfl
theorem laidOut : laidOutB Try.prog = true := by kernel_rfl
theorem gok {I : Nat → Prop} {w : World} : GOk GG I w := fun g sz get h => by cases h
theorem inv3 {P : Program} {R : Nat} {a b c : Nat} {dss : List (List D)} (h : All2 (wfT P R 12) [a, b, c] dss) : ∃ x y z, dss = [x, y, z] ∧ wfT P R 12 a x ∧ wfT P R 12 b y ∧ wfT P R 12 c z := by
  cases h with
  | cons h1 h => cases h with
    | cons h2 h => cases h with
      | cons h3 h => cases h; exact ⟨_, _, _, rfl, h1, h2, h3⟩
theorem law_all (dss : List (List D)) (h : All2 (wfT Try.prog reachBytes 12) [9, 2, 5] dss) : Sx.Spec Try.prog GG 3 (svs Try.prog [9, 2, 5] dss) [] (.d (.bool true)) [] := by
  obtain ⟨x, y, z, rfl, hx, hy, hz⟩ := inv3 h
  obtain ⟨s, rfl, _, hs⟩ := hx
  obtain ⟨n, rfl, wn⟩ := hy
  obtain ⟨k, rfl, wk⟩ := hz
  have wn := wf_i64 wn
  have wk := wf_u8 wk
  exact law_spec s n k (Nat.le_trans hs (by decide)) wn.1 wn.2 wk.1 wk.2
set_option maxRecDepth 100000 in
theorem lifted (os : Os) (started : os.Started) (H : Type) (enc : TypeId × Value → H) :
    ReturnsInHanded {} Try.checked os 3 .any (Rows.foldNumbersSpec.pre6 enc Try.prog Try.f3 Rows.foldNumbersRow.domain false) (Rows.foldNumbersSpec.post enc Try.prog Try.f3 false true false false) := by
  refine returnsInHanded_of_change_sized (C := Try.checked) own started (by kernel_rfl) Try.func3
    (ChangeSpec.witness6 (enc := enc) (C := Try.checked) false ⟨#[], #[.string ⟨#[]⟩, .int .i64 0, .int .u8 0], []⟩ 8 (by kernel_rfl) (by kernel_rfl) (by kernel_rfl) (by kernel_rfl)) ?_
  intro W base args ds gs before hval hW hcnd hsz _
  refine law_contract (P := Try.prog) (ts := [9, 2, 5]) (bt := 4) (G := GG) laidOut (by rw [Try.params3]) (by kernel_rfl) Try.underlying4 (by kernel_rfl) rfl ?_ law_all hval hW hsz gok
  intro ds h
  match ds, h with
  | [_, _, _], _ => rfl
theorem over : Rows.foldNumbersRow.holds Try.pinned (OpenSpec.ofChange Rows.foldNumbersSpec) :=
  OpenClaim.holds_of_wide 3 Try.f3 rfl rfl rfl rfl rfl rfl rfl ⟨rfl, rfl, rfl, rfl, rfl⟩ rfl rfl rfl rfl rfl (by kernel_rfl) Try.func3 (by kernel_rfl)
    (of_decide_eq_true (by kernel_rfl)) (by unfold Func.isWrapper; first | (rw [if_pos (by decide +kernel)]; kernel_rfl) | (rw [if_neg (by decide +kernel)]; exact ⟨rfl, rfl⟩))
    (fun os started H enc _ => lifted os started H enc)
theorem proved : Rows.FoldNumbersSaid := over
#print axioms proved

