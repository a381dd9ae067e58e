/- Contracts of functions that the law reaches: YtnpemjhllmfedaaDoorFold. Written for this claim. -/
import Derived.Test.YtnpemjhllmfedaaDoorBase
namespace Go.Proofs.YtnpemjhllmfedaaDoor
open Go Go.Sx Go.ChangeShapes Go.WideShapes Go.ChangeAt Go.RowKit
set_option linter.unusedVariables false
set_option linter.unusedSimpArgs false
set_option maxRecDepth 100000
/-! numbers -/
set_option maxRecDepth 100000 in
theorem number_spec (l : List UInt8) : Sx.Spec Tryd.prog GG 27 [.d (.str l)] [] (.tup [.d (.int .i64 (number l).1), .d (.bool (number l).2)]) [] := by
  refine spec_intro (E := EE) (fn := Tryd.f27) eok (by kernel_rfl) (by kernel_rfl) Tryd.call27 (by kernel_rfl) (by kernel_rfl) ?_
  conv => whnf
  repeat' first
    | (refine bc_true (by assumption) ?_; (conv => whnf))
    | (refine bc_false (by assumption) ?_; (conv => whnf))
    | (refine bc_intro (fun _ => ?_) (fun _ => ?_) <;> (conv => whnf))
    | (refine need_intro ?_ ?_; (conv => whnf))
    | (refine wk_refl ?_; (conv => whnf))
    | (refine draw_intro (by kernel_rfl) ?_; (conv => whnf))
    | (refine ord_intro (by kernel_rfl) ?_; (conv => whnf))
  all_goals try simp only [decide_eq_true_eq, decide_eq_false_iff_not, beq_iff_eq, beq_eq_false_iff_ne, ne_eq, Int.toNat_one, Int.toNat_zero] at *
  all_goals first
    | omega
    | (exfalso; have := lpos (by assumption : ¬ l = []); omega)
    | (have := lpos (by assumption : ¬ List.drop 1 l = []); exact ⟨by decide, by omega⟩)
    | (refine ⟨LeS.of_eq ?_, trivial⟩; simp only [number, numTail, *, eq_self, List.length_nil, gt_iff_lt, Int.natCast_zero, Int.cast_ofNat_Int, and_self, true_and, and_true, true_or, or_true, or_false, false_or, and_false, false_and, if_true, if_false, not_true_eq_false, not_false_eq_true, reduceIte, reduceCtorEq, Bool.false_eq_true, Int.reduceEq, Int.reduceLT, Int.reduceLE, Int.reduceGT, Int.reduceGE]; done)
    | (refine ⟨LeS.of_eq ?_, trivial⟩; simp_all [number, numTail]; done)
    | (exfalso; simp_all; done)
    | skip
  · skip
    refine loop_auto [5, 36] [] (fun x : Nat × Nat × Int => [(6, .d (.int .i64 x.2.2))]) (fun x => [(36, .iter (l.drop 1) x.2.1)]) (numPre (l.drop 1)) (fun x => x.1) (List.length (l.drop 1), 0, 0) ?_ (fun x hx => ?_) ⟨by simp, rfl⟩
    · conv => whnf
      repeat' first
        | (refine bc_true (by assumption) ?_; (conv => whnf))
        | (refine bc_false (by assumption) ?_; (conv => whnf))
        | (refine bc_intro (fun _ => ?_) (fun _ => ?_) <;> (conv => whnf))
        | (refine need_intro ?_ ?_; (conv => whnf))
        | (refine wk_refl ?_; (conv => whnf))
        | (refine draw_intro (by kernel_rfl) ?_; (conv => whnf))
        | (refine ord_intro (by kernel_rfl) ?_; (conv => whnf))
      all_goals first | exact ⟨rfl, rfl⟩ | exact ⟨rfl, rfl, rfl⟩ | exact DLe.refl _ | exact RowLe.refl _ _ _ | exact trivial
    · conv => whnf
      repeat' first
        | (refine NextVC.mk (x.1 - 1, x.2.1 + (runeAt (l.drop 1) x.2.1).2, IntKind.i64.wrap (IntKind.i64.wrap (x.2.2 * 10) + IntKind.i64.wrap (IntKind.i32.wrap ((runeAt (l.drop 1) x.2.1).1 - 48)))) ?_ ?_ ?_; (conv => whnf))
        | (refine bc_true (by assumption) ?_; (conv => whnf))
        | (refine bc_false (by assumption) ?_; (conv => whnf))
        | (refine bc_intro (fun _ => ?_) (fun _ => ?_) <;> (conv => whnf))
        | (refine need_intro ?_ ?_; (conv => whnf))
        | (refine wk_refl ?_; (conv => whnf))
        | (refine draw_intro (by kernel_rfl) ?_; (conv => whnf))
        | (refine ord_intro (by kernel_rfl) ?_; (conv => whnf))
      all_goals try simp only [decide_eq_true_eq, decide_eq_false_iff_not, beq_iff_eq, beq_eq_false_iff_ne, ne_eq, Int.toNat_one, Int.toNat_zero] at *
      all_goals first
        | exact ⟨trivial, trivial⟩
        | exact ⟨rfl, rfl⟩
        | exact DLe.refl _
        | exact trivial
        | exact numPre_step hx (by assumption) (by assumption) (by assumption) (by assumption)
        | exact numPre_lt hx (by assumption)
        | (have e := numPre_bad hx (by assumption) (.inl (by assumption)); refine ⟨LeS.of_eq ?_, trivial⟩; simp only [number, numTail, *, eq_self, List.length_nil, gt_iff_lt, Int.natCast_zero, Int.cast_ofNat_Int, and_self, true_and, and_true, true_or, or_true, or_false, false_or, and_false, false_and, if_true, if_false, not_true_eq_false, not_false_eq_true, reduceIte, reduceCtorEq, Bool.false_eq_true, Int.reduceEq, Int.reduceLT, Int.reduceLE, Int.reduceGT, Int.reduceGE]; done)
        | (have e := numPre_bad hx (by assumption) (.inr (by assumption)); refine ⟨LeS.of_eq ?_, trivial⟩; simp only [number, numTail, *, eq_self, List.length_nil, gt_iff_lt, Int.natCast_zero, Int.cast_ofNat_Int, and_self, true_and, and_true, true_or, or_true, or_false, false_or, and_false, false_and, if_true, if_false, not_true_eq_false, not_false_eq_true, reduceIte, reduceCtorEq, Bool.false_eq_true, Int.reduceEq, Int.reduceLT, Int.reduceLE, Int.reduceGT, Int.reduceGE]; done)
        | (have e := numPre_big hx (by assumption) (by assumption) (by assumption) (by assumption); refine ⟨LeS.of_eq ?_, trivial⟩; simp only [number, numTail, *, eq_self, List.length_nil, gt_iff_lt, Int.natCast_zero, Int.cast_ofNat_Int, and_self, true_and, and_true, true_or, or_true, or_false, false_or, and_false, false_and, if_true, if_false, not_true_eq_false, not_false_eq_true, reduceIte, reduceCtorEq, Bool.false_eq_true, Int.reduceEq, Int.reduceLT, Int.reduceLE, Int.reduceGT, Int.reduceGE]; done)
        | (have e := numPre_end hx (by assumption); refine ⟨LeS.of_eq ?_, trivial⟩; simp only [number, numTail, *, eq_self, List.length_nil, gt_iff_lt, Int.natCast_zero, Int.cast_ofNat_Int, and_self, true_and, and_true, true_or, or_true, or_false, false_or, and_false, false_and, if_true, if_false, not_true_eq_false, not_false_eq_true, reduceIte, reduceCtorEq, Bool.false_eq_true, Int.reduceEq, Int.reduceLT, Int.reduceLE, Int.reduceGT, Int.reduceGE]; done)
  · skip
    refine loop_auto [5, 36] [] (fun x : Nat × Nat × Int => [(6, .d (.int .i64 x.2.2))]) (fun x => [(36, .iter (l) x.2.1)]) (numPre (l)) (fun x => x.1) (List.length (l), 0, 0) ?_ (fun x hx => ?_) ⟨by simp, rfl⟩
    · conv => whnf
      repeat' first
        | (refine bc_true (by assumption) ?_; (conv => whnf))
        | (refine bc_false (by assumption) ?_; (conv => whnf))
        | (refine bc_intro (fun _ => ?_) (fun _ => ?_) <;> (conv => whnf))
        | (refine need_intro ?_ ?_; (conv => whnf))
        | (refine wk_refl ?_; (conv => whnf))
        | (refine draw_intro (by kernel_rfl) ?_; (conv => whnf))
        | (refine ord_intro (by kernel_rfl) ?_; (conv => whnf))
      all_goals first | exact ⟨rfl, rfl⟩ | exact ⟨rfl, rfl, rfl⟩ | exact DLe.refl _ | exact RowLe.refl _ _ _ | exact trivial
    · conv => whnf
      repeat' first
        | (refine NextVC.mk (x.1 - 1, x.2.1 + (runeAt (l) x.2.1).2, IntKind.i64.wrap (IntKind.i64.wrap (x.2.2 * 10) + IntKind.i64.wrap (IntKind.i32.wrap ((runeAt (l) x.2.1).1 - 48)))) ?_ ?_ ?_; (conv => whnf))
        | (refine bc_true (by assumption) ?_; (conv => whnf))
        | (refine bc_false (by assumption) ?_; (conv => whnf))
        | (refine bc_intro (fun _ => ?_) (fun _ => ?_) <;> (conv => whnf))
        | (refine need_intro ?_ ?_; (conv => whnf))
        | (refine wk_refl ?_; (conv => whnf))
        | (refine draw_intro (by kernel_rfl) ?_; (conv => whnf))
        | (refine ord_intro (by kernel_rfl) ?_; (conv => whnf))
      all_goals try simp only [decide_eq_true_eq, decide_eq_false_iff_not, beq_iff_eq, beq_eq_false_iff_ne, ne_eq, Int.toNat_one, Int.toNat_zero] at *
      all_goals first
        | exact ⟨trivial, trivial⟩
        | exact ⟨rfl, rfl⟩
        | exact DLe.refl _
        | exact trivial
        | exact numPre_step hx (by assumption) (by assumption) (by assumption) (by assumption)
        | exact numPre_lt hx (by assumption)
        | (have e := numPre_bad hx (by assumption) (.inl (by assumption)); refine ⟨LeS.of_eq ?_, trivial⟩; simp only [number, numTail, *, eq_self, List.length_nil, gt_iff_lt, Int.natCast_zero, Int.cast_ofNat_Int, and_self, true_and, and_true, true_or, or_true, or_false, false_or, and_false, false_and, if_true, if_false, not_true_eq_false, not_false_eq_true, reduceIte, reduceCtorEq, Bool.false_eq_true, Int.reduceEq, Int.reduceLT, Int.reduceLE, Int.reduceGT, Int.reduceGE]; done)
        | (have e := numPre_bad hx (by assumption) (.inr (by assumption)); refine ⟨LeS.of_eq ?_, trivial⟩; simp only [number, numTail, *, eq_self, List.length_nil, gt_iff_lt, Int.natCast_zero, Int.cast_ofNat_Int, and_self, true_and, and_true, true_or, or_true, or_false, false_or, and_false, false_and, if_true, if_false, not_true_eq_false, not_false_eq_true, reduceIte, reduceCtorEq, Bool.false_eq_true, Int.reduceEq, Int.reduceLT, Int.reduceLE, Int.reduceGT, Int.reduceGE]; done)
        | (have e := numPre_big hx (by assumption) (by assumption) (by assumption) (by assumption); refine ⟨LeS.of_eq ?_, trivial⟩; simp only [number, numTail, *, eq_self, List.length_nil, gt_iff_lt, Int.natCast_zero, Int.cast_ofNat_Int, and_self, true_and, and_true, true_or, or_true, or_false, false_or, and_false, false_and, if_true, if_false, not_true_eq_false, not_false_eq_true, reduceIte, reduceCtorEq, Bool.false_eq_true, Int.reduceEq, Int.reduceLT, Int.reduceLE, Int.reduceGT, Int.reduceGE]; done)
        | (have e := numPre_end hx (by assumption); refine ⟨LeS.of_eq ?_, trivial⟩; simp only [number, numTail, *, eq_self, List.length_nil, gt_iff_lt, Int.natCast_zero, Int.cast_ofNat_Int, and_self, true_and, and_true, true_or, or_true, or_false, false_or, and_false, false_and, if_true, if_false, not_true_eq_false, not_false_eq_true, reduceIte, reduceCtorEq, Bool.false_eq_true, Int.reduceEq, Int.reduceLT, Int.reduceLE, Int.reduceGT, Int.reduceGE]; done)
  · skip
    refine loop_auto [5, 36] [] (fun x : Nat × Nat × Int => [(6, .d (.int .i64 x.2.2))]) (fun x => [(36, .iter (l) x.2.1)]) (numPre (l)) (fun x => x.1) (List.length (l), 0, 0) ?_ (fun x hx => ?_) ⟨by simp, rfl⟩
    · conv => whnf
      repeat' first
        | (refine bc_true (by assumption) ?_; (conv => whnf))
        | (refine bc_false (by assumption) ?_; (conv => whnf))
        | (refine bc_intro (fun _ => ?_) (fun _ => ?_) <;> (conv => whnf))
        | (refine need_intro ?_ ?_; (conv => whnf))
        | (refine wk_refl ?_; (conv => whnf))
        | (refine draw_intro (by kernel_rfl) ?_; (conv => whnf))
        | (refine ord_intro (by kernel_rfl) ?_; (conv => whnf))
      all_goals first | exact ⟨rfl, rfl⟩ | exact ⟨rfl, rfl, rfl⟩ | exact DLe.refl _ | exact RowLe.refl _ _ _ | exact trivial
    · conv => whnf
      repeat' first
        | (refine NextVC.mk (x.1 - 1, x.2.1 + (runeAt (l) x.2.1).2, IntKind.i64.wrap (IntKind.i64.wrap (x.2.2 * 10) + IntKind.i64.wrap (IntKind.i32.wrap ((runeAt (l) x.2.1).1 - 48)))) ?_ ?_ ?_; (conv => whnf))
        | (refine bc_true (by assumption) ?_; (conv => whnf))
        | (refine bc_false (by assumption) ?_; (conv => whnf))
        | (refine bc_intro (fun _ => ?_) (fun _ => ?_) <;> (conv => whnf))
        | (refine need_intro ?_ ?_; (conv => whnf))
        | (refine wk_refl ?_; (conv => whnf))
        | (refine draw_intro (by kernel_rfl) ?_; (conv => whnf))
        | (refine ord_intro (by kernel_rfl) ?_; (conv => whnf))
      all_goals try simp only [decide_eq_true_eq, decide_eq_false_iff_not, beq_iff_eq, beq_eq_false_iff_ne, ne_eq, Int.toNat_one, Int.toNat_zero] at *
      all_goals first
        | exact ⟨trivial, trivial⟩
        | exact ⟨rfl, rfl⟩
        | exact DLe.refl _
        | exact trivial
        | exact numPre_step hx (by assumption) (by assumption) (by assumption) (by assumption)
        | exact numPre_lt hx (by assumption)
        | (have e := numPre_bad hx (by assumption) (.inl (by assumption)); refine ⟨LeS.of_eq ?_, trivial⟩; simp only [number, numTail, *, eq_self, List.length_nil, gt_iff_lt, Int.natCast_zero, Int.cast_ofNat_Int, and_self, true_and, and_true, true_or, or_true, or_false, false_or, and_false, false_and, if_true, if_false, not_true_eq_false, not_false_eq_true, reduceIte, reduceCtorEq, Bool.false_eq_true, Int.reduceEq, Int.reduceLT, Int.reduceLE, Int.reduceGT, Int.reduceGE]; done)
        | (have e := numPre_bad hx (by assumption) (.inr (by assumption)); refine ⟨LeS.of_eq ?_, trivial⟩; simp only [number, numTail, *, eq_self, List.length_nil, gt_iff_lt, Int.natCast_zero, Int.cast_ofNat_Int, and_self, true_and, and_true, true_or, or_true, or_false, false_or, and_false, false_and, if_true, if_false, not_true_eq_false, not_false_eq_true, reduceIte, reduceCtorEq, Bool.false_eq_true, Int.reduceEq, Int.reduceLT, Int.reduceLE, Int.reduceGT, Int.reduceGE]; done)
        | (have e := numPre_big hx (by assumption) (by assumption) (by assumption) (by assumption); refine ⟨LeS.of_eq ?_, trivial⟩; simp only [number, numTail, *, eq_self, List.length_nil, gt_iff_lt, Int.natCast_zero, Int.cast_ofNat_Int, and_self, true_and, and_true, true_or, or_true, or_false, false_or, and_false, false_and, if_true, if_false, not_true_eq_false, not_false_eq_true, reduceIte, reduceCtorEq, Bool.false_eq_true, Int.reduceEq, Int.reduceLT, Int.reduceLE, Int.reduceGT, Int.reduceGE]; done)
        | (have e := numPre_end hx (by assumption); refine ⟨LeS.of_eq ?_, trivial⟩; simp only [number, numTail, *, eq_self, List.length_nil, gt_iff_lt, Int.natCast_zero, Int.cast_ofNat_Int, and_self, true_and, and_true, true_or, or_true, or_false, false_or, and_false, false_and, if_true, if_false, not_true_eq_false, not_false_eq_true, reduceIte, reduceCtorEq, Bool.false_eq_true, Int.reduceEq, Int.reduceLT, Int.reduceLE, Int.reduceGT, Int.reduceGE]; done)
/-! sum.add -/
set_option maxRecDepth 100000 in
theorem add_spec0 (f : FoldR) (k v : List UInt8) : Sx.Spec Tryd.prog GG 32 [.ptr 1000 0, encRowA k v] [(1000, .box (cells f))] (.tup []) [(1000, .box (cells (addF f k v)))] := by
  refine spec_intro (E := EE) (fn := Tryd.f32) eok (by kernel_rfl) (by kernel_rfl) Tryd.call32 (by kernel_rfl) (by kernel_rfl) ?_
  conv => whnf
  repeat' first
    | (refine call_intro (number_spec _) ?_ (by first | exact .inl rfl | exact .inr ⟨rfl, rfl⟩); (conv => whnf))
    | (refine bc_true (by assumption) ?_; (conv => whnf))
    | (refine bc_false (by assumption) ?_; (conv => whnf))
    | (refine bc_intro (fun _ => ?_) (fun _ => ?_) <;> (conv => whnf))
    | (refine need_intro ?_ ?_; (conv => whnf))
    | (refine wk_refl ?_; (conv => whnf))
    | (refine draw_intro (by kernel_rfl) ?_; (conv => whnf))
    | (refine ord_intro (by kernel_rfl) ?_; (conv => whnf))
  all_goals try simp only [decide_eq_true_eq, decide_eq_false_iff_not, beq_iff_eq, beq_eq_false_iff_ne, ne_eq, Int.toNat_one, Int.toNat_zero, Bool.not_eq_true', Bool.not_eq_false'] at *
  all_goals refine ⟨LeS.refl _, LeL.of_eq ?_, trivial⟩
  all_goals simp only [addF, *, eq_self, List.length_nil, gt_iff_lt, Int.natCast_zero, Int.cast_ofNat_Int, and_self, true_and, and_true, true_or, or_true, or_false, false_or, and_false, false_and, if_true, if_false, not_true_eq_false, not_false_eq_true, reduceIte, reduceCtorEq, Bool.false_eq_true, Int.reduceEq, Int.reduceLT, Int.reduceLE, Int.reduceGT, Int.reduceGE]
theorem add_spec (m : Nat) (f : FoldR) (k v : List UInt8) : Sx.Spec Tryd.prog GG 32 [.ptr m 0, encRowA k v] [(m, .box (cells f))] (.tup []) [(m, .box (cells (addF f k v)))] := (add_spec0 f k v).at m
/-! fold.Of, Join, All -/
theorem of_spec (rows : List Row) : rows.length ≤ 9223372036854775807 → Sx.Spec Tryd.prog GG 11 [.d (encL encRow 2 rows)] [] (encFold (foldOf rows)) [] := by
  intro hlen
  refine spec_intro (E := EE) (fn := Tryd.f11) eok (by kernel_rfl) (by kernel_rfl) Tryd.call11 (by kernel_rfl) (by kernel_rfl) ?_
  conv => whnf
  repeat' first
    | (refine bc_true (by assumption) ?_; (conv => whnf))
    | (refine bc_false (by assumption) ?_; (conv => whnf))
    | (refine bc_intro (fun _ => ?_) (fun _ => ?_) <;> (conv => whnf))
    | (refine need_intro ?_ ?_; (conv => whnf))
    | (refine wk_refl ?_; (conv => whnf))
    | (refine draw_intro (by kernel_rfl) ?_; (conv => whnf))
    | (refine ord_intro (by kernel_rfl) ?_; (conv => whnf))
  refine loop_auto [2, 6, 7, 3] [2] (fun i : Nat => [(8, .d (.int .i64 i))]) (fun i => [(3, .box (cells (foldOf (rows.take i))))]) (fun i => i ≤ rows.length) (fun i => rows.length - i) 0 ?_ (fun i hi => ?_) (by simp)
  · conv => whnf
    repeat' first
      | (refine bc_true (by assumption) ?_; (conv => whnf))
      | (refine bc_false (by assumption) ?_; (conv => whnf))
      | (refine bc_intro (fun _ => ?_) (fun _ => ?_) <;> (conv => whnf))
      | (refine need_intro ?_ ?_; (conv => whnf))
      | (refine wk_refl ?_; (conv => whnf))
      | (refine draw_intro (by kernel_rfl) ?_; (conv => whnf))
      | (refine ord_intro (by kernel_rfl) ?_; (conv => whnf))
    all_goals first | exact ⟨rfl, rfl⟩ | exact ⟨rfl, rfl, rfl⟩ | exact DLe.refl _ | exact RowLe.refl _ _ _ | exact trivial
  · conv => whnf
    repeat' first
      | (refine call_intro (add_spec 3 _ _ _) ?_ (by first | exact .inl rfl | exact .inr ⟨rfl, rfl⟩); (conv => whnf))
      | (refine NextVC.mk (i + 1) ?_ ?_ ?_; (conv => whnf))
      | (refine bc_true (by assumption) ?_; (conv => whnf))
      | (refine bc_false (by assumption) ?_; (conv => whnf))
      | (refine bc_intro (fun _ => ?_) (fun _ => ?_) <;> (conv => whnf))
      | (refine need_intro ?_ ?_; (conv => whnf))
      | (refine wk_refl ?_; (conv => whnf))
      | (refine draw_intro (by kernel_rfl) ?_; (conv => whnf))
      | (refine ord_intro (by kernel_rfl) ?_; (conv => whnf))
    all_goals try simp only [decide_eq_true_eq, decide_eq_false_iff_not, Int.toNat_natCast] at *
    all_goals first
      | omega
      | exact trivial
      | exact DLe.refl _
      | exact DLe.of_eq (by rw [foldOf_take (by omega)])
      | exact DLe.of_eq (by rw [wrap_succ (by omega) hlen])
      | (have : i = rows.length := by omega
         subst this
         refine ⟨LeS.of_eq ?_, trivial⟩
         simp only [List.take_length])
theorem of_awake {get : Nat → Nat → D} (h : RowLe 3 2 get (cellOf encRow awakeRows)) : Sx.Spec Tryd.prog GG 11 [.d (.list 3 2 get)] [] (encFold ⟨3, 2, 2, -1, 3, [97], [99]⟩) [] := by
  have := of_spec awakeRows (by decide)
  rw [foldOf_awake] at this
  exact this.arg (LeL.cons (LeS.d (DLe.rows rfl h)) LeL.nil)
theorem number_at {l : List UInt8} {x : Int × Bool} (h : number l = x) : Sx.Spec Tryd.prog GG 27 [.d (.str l)] [] (.tup [.d (.int .i64 x.1), .d (.bool x.2)]) [] := h ▸ number_spec l
theorem awake_spec : Sx.Spec Tryd.prog GG 7 [] [] (.d (.bool true)) [] := by
  refine spec_intro (E := EE) (fn := Tryd.f7) eok (by kernel_rfl) (by kernel_rfl) Tryd.call7 (by kernel_rfl) (by kernel_rfl) ?_
  conv => whnf
  repeat' first
    | (refine call_intro (of_awake (.all (by repeat' first | exact trivial | exact rfl | apply And.intro))) ?_ (by first | exact .inl rfl | exact .inr ⟨rfl, rfl⟩); (conv => whnf))
    | (refine call_intro (number_at number_1) ?_ (by first | exact .inl rfl | exact .inr ⟨rfl, rfl⟩); (conv => whnf))
    | (refine call_intro (number_at number_2) ?_ (by first | exact .inl rfl | exact .inr ⟨rfl, rfl⟩); (conv => whnf))
    | (refine bc_true (by assumption) ?_; (conv => whnf))
    | (refine bc_false (by assumption) ?_; (conv => whnf))
    | (refine bc_intro (fun _ => ?_) (fun _ => ?_) <;> (conv => whnf))
    | (refine need_intro ?_ ?_; (conv => whnf))
    | (refine wk_refl ?_; (conv => whnf))
    | (refine draw_intro (by kernel_rfl) ?_; (conv => whnf))
    | (refine ord_intro (by kernel_rfl) ?_; (conv => whnf))
  all_goals exact ⟨LeS.refl _, trivial⟩
theorem joinr_at (c n s l h : Int) (f la : List UInt8) (c' n' s' l' h' : Int) (f' la' : List UInt8) : Sx.Spec Tryd.prog GG 33 [foldA c n s l h f la, foldA c' n' s' l' h' f' la'] [] (encFold (joinF ⟨c, n, s, l, h, f, la⟩ ⟨c', n', s', l', h', f', la'⟩)) [] := by
  refine spec_intro (E := EE) (fn := Tryd.f33) eok (by kernel_rfl) (by kernel_rfl) Tryd.call33 (by kernel_rfl) (by kernel_rfl) ?_
  conv => whnf
  repeat' first
    | (refine bc_true (by assumption) ?_; (conv => whnf))
    | (refine bc_false (by assumption) ?_; (conv => whnf))
    | (refine bc_intro (fun _ => ?_) (fun _ => ?_) <;> (conv => whnf))
    | (refine need_intro ?_ ?_; (conv => whnf))
    | (refine wk_refl ?_; (conv => whnf))
    | (refine draw_intro (by kernel_rfl) ?_; (conv => whnf))
    | (refine ord_intro (by kernel_rfl) ?_; (conv => whnf))
  all_goals try simp only [decide_eq_true_eq, decide_eq_false_iff_not, beq_iff_eq, beq_eq_false_iff_ne, ne_eq] at *
  all_goals (refine ⟨LeS.of_eq ?_, trivial⟩; simp only [joinF, *, eq_self, List.length_nil, gt_iff_lt, Int.natCast_zero, Int.cast_ofNat_Int, and_self, true_and, and_true, true_or, or_true, or_false, false_or, and_false, false_and, if_true, if_false, not_true_eq_false, not_false_eq_true, reduceIte, reduceCtorEq, Bool.false_eq_true, Int.reduceEq, Int.reduceLT, Int.reduceLE, Int.reduceGT, Int.reduceGE])
theorem joinr_spec (a b : FoldR) : Sx.Spec Tryd.prog GG 33 [encFold a, encFold b] [] (encFold (joinF a b)) [] := joinr_at a.count a.numbers a.sum a.low a.high a.first a.last b.count b.numbers b.sum b.low b.high b.first b.last
/-! the numbers of the reference -/
set_option maxRecDepth 100000 in
theorem ref_spec (l : List UInt8) : Sx.Spec Tryd.prog GG 50 [.d (.str l)] [] (.tup [.d (.int .i64 (refNumber l).1), .d (.bool (refNumber l).2)]) [] := by
  refine spec_intro (E := EE) (fn := Tryd.f50) eok (by kernel_rfl) (by kernel_rfl) Tryd.call50 (by kernel_rfl) (by kernel_rfl) ?_
  conv => whnf
  repeat' first
    | (refine bc_true (by assumption) ?_; (conv => whnf))
    | (refine bc_false (by assumption) ?_; (conv => whnf))
    | (refine bc_intro (fun _ => ?_) (fun _ => ?_) <;> (conv => whnf))
    | (refine need_intro ?_ ?_; (conv => whnf))
    | (refine wk_refl ?_; (conv => whnf))
    | (refine draw_intro (by kernel_rfl) ?_; (conv => whnf))
    | (refine ord_intro (by kernel_rfl) ?_; (conv => whnf))
  all_goals simp only [decide_eq_true_eq, decide_eq_false_iff_not, beq_iff_eq, beq_eq_false_iff_ne, ne_eq, Int.toNat_one, Int.toNat_zero] at *
  all_goals first
    | omega
    | exact ⟨by omega, by omega⟩
    | (exfalso; omega)
    | (refine ⟨LeS.of_eq ?_, trivial⟩; simp only [refNumber, refTail, *, eq_self, List.length_nil, gt_iff_lt, Int.natCast_zero, Int.cast_ofNat_Int, and_self, true_and, and_true, true_or, or_true, or_false, false_or, and_false, false_and, if_true, if_false, not_true_eq_false, not_false_eq_true, reduceIte, reduceCtorEq, Bool.false_eq_true, Int.reduceEq, Int.reduceLT, Int.reduceLE, Int.reduceGT, Int.reduceGE]; done)
    | (refine ⟨LeS.of_eq ?_, trivial⟩; simp_all [refNumber, refTail]; done)
    | skip
  · refine loop_auto [4, 5] [] (fun x : Nat × Int => [(6, .d (.int .i64 x.2)), (7, .d (.int .i64 x.1))]) (fun _ => []) (refPre (l.drop 1)) (fun x => List.length (l.drop 1) - x.1) (0, 0) ?_ (fun x hx => ?_) ⟨by simp, rfl⟩
    · conv => whnf
      repeat' first
        | (refine bc_true (by assumption) ?_; (conv => whnf))
        | (refine bc_false (by assumption) ?_; (conv => whnf))
        | (refine bc_intro (fun _ => ?_) (fun _ => ?_) <;> (conv => whnf))
        | (refine need_intro ?_ ?_; (conv => whnf))
        | (refine wk_refl ?_; (conv => whnf))
        | (refine draw_intro (by kernel_rfl) ?_; (conv => whnf))
        | (refine ord_intro (by kernel_rfl) ?_; (conv => whnf))
      all_goals first | exact ⟨rfl, rfl⟩ | exact ⟨rfl, rfl, rfl⟩ | exact DLe.refl _ | exact RowLe.refl _ _ _ | exact trivial
    · conv => whnf
      repeat' first
        | (refine NextVC.mk (x.1 + 1, refStep x.2 (List.getD (l.drop 1) x.1 0)) ?_ ?_ ?_; (conv => whnf))
        | (refine bc_true (by assumption) ?_; (conv => whnf))
        | (refine bc_false (by assumption) ?_; (conv => whnf))
        | (refine bc_intro (fun _ => ?_) (fun _ => ?_) <;> (conv => whnf))
        | (refine need_intro ?_ ?_; (conv => whnf))
        | (refine wk_refl ?_; (conv => whnf))
        | (refine draw_intro (by kernel_rfl) ?_; (conv => whnf))
        | (refine ord_intro (by kernel_rfl) ?_; (conv => whnf))
      all_goals try simp only [decide_eq_true_eq, decide_eq_false_iff_not, beq_iff_eq, beq_eq_false_iff_ne, ne_eq, Int.toNat_natCast] at *
      all_goals first
        | exact trivial
        | omega
        | exact ⟨by omega, by omega⟩
        | exact DLe.refl _
        | exact DLe.of_eq rfl
        | exact DLe.of_eq (by rw [refPre_idx (by assumption) (by assumption)])
        | exact refPre_step hx (by assumption) (by assumption) (by assumption)
        | (have e := refPre_bad hx (by assumption) (.inl (by assumption)); refine ⟨LeS.of_eq ?_, trivial⟩; simp only [refNumber, refTail, *, eq_self, List.length_nil, gt_iff_lt, Int.natCast_zero, Int.cast_ofNat_Int, and_self, true_and, and_true, true_or, or_true, or_false, false_or, and_false, false_and, if_true, if_false, not_true_eq_false, not_false_eq_true, reduceIte, reduceCtorEq, Bool.false_eq_true, Int.reduceEq, Int.reduceLT, Int.reduceLE, Int.reduceGT, Int.reduceGE]; done)
        | (have e := refPre_bad hx (by assumption) (.inr (by assumption)); refine ⟨LeS.of_eq ?_, trivial⟩; simp only [refNumber, refTail, *, eq_self, List.length_nil, gt_iff_lt, Int.natCast_zero, Int.cast_ofNat_Int, and_self, true_and, and_true, true_or, or_true, or_false, false_or, and_false, false_and, if_true, if_false, not_true_eq_false, not_false_eq_true, reduceIte, reduceCtorEq, Bool.false_eq_true, Int.reduceEq, Int.reduceLT, Int.reduceLE, Int.reduceGT, Int.reduceGE]; done)
        | (have e := refPre_end hx (by assumption); refine ⟨LeS.of_eq ?_, trivial⟩; simp only [refNumber, refTail, *, eq_self, List.length_nil, gt_iff_lt, Int.natCast_zero, Int.cast_ofNat_Int, and_self, true_and, and_true, true_or, or_true, or_false, false_or, and_false, false_and, if_true, if_false, not_true_eq_false, not_false_eq_true, reduceIte, reduceCtorEq, Bool.false_eq_true, Int.reduceEq, Int.reduceLT, Int.reduceLE, Int.reduceGT, Int.reduceGE]; done)
        | trace_state
  · refine loop_auto [4, 5] [] (fun x : Nat × Int => [(6, .d (.int .i64 x.2)), (7, .d (.int .i64 x.1))]) (fun _ => []) (refPre (l)) (fun x => List.length (l) - x.1) (0, 0) ?_ (fun x hx => ?_) ⟨by simp, rfl⟩
    · conv => whnf
      repeat' first
        | (refine bc_true (by assumption) ?_; (conv => whnf))
        | (refine bc_false (by assumption) ?_; (conv => whnf))
        | (refine bc_intro (fun _ => ?_) (fun _ => ?_) <;> (conv => whnf))
        | (refine need_intro ?_ ?_; (conv => whnf))
        | (refine wk_refl ?_; (conv => whnf))
        | (refine draw_intro (by kernel_rfl) ?_; (conv => whnf))
        | (refine ord_intro (by kernel_rfl) ?_; (conv => whnf))
      all_goals first | exact ⟨rfl, rfl⟩ | exact ⟨rfl, rfl, rfl⟩ | exact DLe.refl _ | exact RowLe.refl _ _ _ | exact trivial
    · conv => whnf
      repeat' first
        | (refine NextVC.mk (x.1 + 1, refStep x.2 (List.getD (l) x.1 0)) ?_ ?_ ?_; (conv => whnf))
        | (refine bc_true (by assumption) ?_; (conv => whnf))
        | (refine bc_false (by assumption) ?_; (conv => whnf))
        | (refine bc_intro (fun _ => ?_) (fun _ => ?_) <;> (conv => whnf))
        | (refine need_intro ?_ ?_; (conv => whnf))
        | (refine wk_refl ?_; (conv => whnf))
        | (refine draw_intro (by kernel_rfl) ?_; (conv => whnf))
        | (refine ord_intro (by kernel_rfl) ?_; (conv => whnf))
      all_goals try simp only [decide_eq_true_eq, decide_eq_false_iff_not, beq_iff_eq, beq_eq_false_iff_ne, ne_eq, Int.toNat_natCast] at *
      all_goals first
        | exact trivial
        | omega
        | exact ⟨by omega, by omega⟩
        | exact DLe.refl _
        | exact DLe.of_eq rfl
        | exact DLe.of_eq (by rw [refPre_idx (by assumption) (by assumption)])
        | exact refPre_step hx (by assumption) (by assumption) (by assumption)
        | (have e := refPre_bad hx (by assumption) (.inl (by assumption)); refine ⟨LeS.of_eq ?_, trivial⟩; simp only [refNumber, refTail, *, eq_self, List.length_nil, gt_iff_lt, Int.natCast_zero, Int.cast_ofNat_Int, and_self, true_and, and_true, true_or, or_true, or_false, false_or, and_false, false_and, if_true, if_false, not_true_eq_false, not_false_eq_true, reduceIte, reduceCtorEq, Bool.false_eq_true, Int.reduceEq, Int.reduceLT, Int.reduceLE, Int.reduceGT, Int.reduceGE]; done)
        | (have e := refPre_bad hx (by assumption) (.inr (by assumption)); refine ⟨LeS.of_eq ?_, trivial⟩; simp only [refNumber, refTail, *, eq_self, List.length_nil, gt_iff_lt, Int.natCast_zero, Int.cast_ofNat_Int, and_self, true_and, and_true, true_or, or_true, or_false, false_or, and_false, false_and, if_true, if_false, not_true_eq_false, not_false_eq_true, reduceIte, reduceCtorEq, Bool.false_eq_true, Int.reduceEq, Int.reduceLT, Int.reduceLE, Int.reduceGT, Int.reduceGE]; done)
        | (have e := refPre_end hx (by assumption); refine ⟨LeS.of_eq ?_, trivial⟩; simp only [refNumber, refTail, *, eq_self, List.length_nil, gt_iff_lt, Int.natCast_zero, Int.cast_ofNat_Int, and_self, true_and, and_true, true_or, or_true, or_false, false_or, and_false, false_and, if_true, if_false, not_true_eq_false, not_false_eq_true, reduceIte, reduceCtorEq, Bool.false_eq_true, Int.reduceEq, Int.reduceLT, Int.reduceLE, Int.reduceGT, Int.reduceGE]; done)
        | trace_state
  · refine loop_auto [4, 5] [] (fun x : Nat × Int => [(6, .d (.int .i64 x.2)), (7, .d (.int .i64 x.1))]) (fun _ => []) (refPre (l)) (fun x => List.length (l) - x.1) (0, 0) ?_ (fun x hx => ?_) ⟨by simp, rfl⟩
    · conv => whnf
      repeat' first
        | (refine bc_true (by assumption) ?_; (conv => whnf))
        | (refine bc_false (by assumption) ?_; (conv => whnf))
        | (refine bc_intro (fun _ => ?_) (fun _ => ?_) <;> (conv => whnf))
        | (refine need_intro ?_ ?_; (conv => whnf))
        | (refine wk_refl ?_; (conv => whnf))
        | (refine draw_intro (by kernel_rfl) ?_; (conv => whnf))
        | (refine ord_intro (by kernel_rfl) ?_; (conv => whnf))
      all_goals first | exact ⟨rfl, rfl⟩ | exact ⟨rfl, rfl, rfl⟩ | exact DLe.refl _ | exact RowLe.refl _ _ _ | exact trivial
    · conv => whnf
      repeat' first
        | (refine NextVC.mk (x.1 + 1, refStep x.2 (List.getD (l) x.1 0)) ?_ ?_ ?_; (conv => whnf))
        | (refine bc_true (by assumption) ?_; (conv => whnf))
        | (refine bc_false (by assumption) ?_; (conv => whnf))
        | (refine bc_intro (fun _ => ?_) (fun _ => ?_) <;> (conv => whnf))
        | (refine need_intro ?_ ?_; (conv => whnf))
        | (refine wk_refl ?_; (conv => whnf))
        | (refine draw_intro (by kernel_rfl) ?_; (conv => whnf))
        | (refine ord_intro (by kernel_rfl) ?_; (conv => whnf))
      all_goals try simp only [decide_eq_true_eq, decide_eq_false_iff_not, beq_iff_eq, beq_eq_false_iff_ne, ne_eq, Int.toNat_natCast] at *
      all_goals first
        | exact trivial
        | omega
        | exact ⟨by omega, by omega⟩
        | exact DLe.refl _
        | exact DLe.of_eq rfl
        | exact DLe.of_eq (by rw [refPre_idx (by assumption) (by assumption)])
        | exact refPre_step hx (by assumption) (by assumption) (by assumption)
        | (have e := refPre_bad hx (by assumption) (.inl (by assumption)); refine ⟨LeS.of_eq ?_, trivial⟩; simp only [refNumber, refTail, *, eq_self, List.length_nil, gt_iff_lt, Int.natCast_zero, Int.cast_ofNat_Int, and_self, true_and, and_true, true_or, or_true, or_false, false_or, and_false, false_and, if_true, if_false, not_true_eq_false, not_false_eq_true, reduceIte, reduceCtorEq, Bool.false_eq_true, Int.reduceEq, Int.reduceLT, Int.reduceLE, Int.reduceGT, Int.reduceGE]; done)
        | (have e := refPre_bad hx (by assumption) (.inr (by assumption)); refine ⟨LeS.of_eq ?_, trivial⟩; simp only [refNumber, refTail, *, eq_self, List.length_nil, gt_iff_lt, Int.natCast_zero, Int.cast_ofNat_Int, and_self, true_and, and_true, true_or, or_true, or_false, false_or, and_false, false_and, if_true, if_false, not_true_eq_false, not_false_eq_true, reduceIte, reduceCtorEq, Bool.false_eq_true, Int.reduceEq, Int.reduceLT, Int.reduceLE, Int.reduceGT, Int.reduceGE]; done)
        | (have e := refPre_end hx (by assumption); refine ⟨LeS.of_eq ?_, trivial⟩; simp only [refNumber, refTail, *, eq_self, List.length_nil, gt_iff_lt, Int.natCast_zero, Int.cast_ofNat_Int, and_self, true_and, and_true, true_or, or_true, or_false, false_or, and_false, false_and, if_true, if_false, not_true_eq_false, not_false_eq_true, reduceIte, reduceCtorEq, Bool.false_eq_true, Int.reduceEq, Int.reduceLT, Int.reduceLE, Int.reduceGT, Int.reduceGE]; done)
        | trace_state
  · refine loop_auto [4, 5] [] (fun x : Nat × Int => [(6, .d (.int .i64 x.2)), (7, .d (.int .i64 x.1))]) (fun _ => []) (refPre (l)) (fun x => List.length (l) - x.1) (0, 0) ?_ (fun x hx => ?_) ⟨by simp, rfl⟩
    · conv => whnf
      repeat' first
        | (refine bc_true (by assumption) ?_; (conv => whnf))
        | (refine bc_false (by assumption) ?_; (conv => whnf))
        | (refine bc_intro (fun _ => ?_) (fun _ => ?_) <;> (conv => whnf))
        | (refine need_intro ?_ ?_; (conv => whnf))
        | (refine wk_refl ?_; (conv => whnf))
        | (refine draw_intro (by kernel_rfl) ?_; (conv => whnf))
        | (refine ord_intro (by kernel_rfl) ?_; (conv => whnf))
      all_goals first | exact ⟨rfl, rfl⟩ | exact ⟨rfl, rfl, rfl⟩ | exact DLe.refl _ | exact RowLe.refl _ _ _ | exact trivial
    · conv => whnf
      repeat' first
        | (refine NextVC.mk (x.1 + 1, refStep x.2 (List.getD (l) x.1 0)) ?_ ?_ ?_; (conv => whnf))
        | (refine bc_true (by assumption) ?_; (conv => whnf))
        | (refine bc_false (by assumption) ?_; (conv => whnf))
        | (refine bc_intro (fun _ => ?_) (fun _ => ?_) <;> (conv => whnf))
        | (refine need_intro ?_ ?_; (conv => whnf))
        | (refine wk_refl ?_; (conv => whnf))
        | (refine draw_intro (by kernel_rfl) ?_; (conv => whnf))
        | (refine ord_intro (by kernel_rfl) ?_; (conv => whnf))
      all_goals try simp only [decide_eq_true_eq, decide_eq_false_iff_not, beq_iff_eq, beq_eq_false_iff_ne, ne_eq, Int.toNat_natCast] at *
      all_goals first
        | exact trivial
        | omega
        | exact ⟨by omega, by omega⟩
        | exact DLe.refl _
        | exact DLe.of_eq rfl
        | exact DLe.of_eq (by rw [refPre_idx (by assumption) (by assumption)])
        | exact refPre_step hx (by assumption) (by assumption) (by assumption)
        | (have e := refPre_bad hx (by assumption) (.inl (by assumption)); refine ⟨LeS.of_eq ?_, trivial⟩; simp only [refNumber, refTail, *, eq_self, List.length_nil, gt_iff_lt, Int.natCast_zero, Int.cast_ofNat_Int, and_self, true_and, and_true, true_or, or_true, or_false, false_or, and_false, false_and, if_true, if_false, not_true_eq_false, not_false_eq_true, reduceIte, reduceCtorEq, Bool.false_eq_true, Int.reduceEq, Int.reduceLT, Int.reduceLE, Int.reduceGT, Int.reduceGE]; done)
        | (have e := refPre_bad hx (by assumption) (.inr (by assumption)); refine ⟨LeS.of_eq ?_, trivial⟩; simp only [refNumber, refTail, *, eq_self, List.length_nil, gt_iff_lt, Int.natCast_zero, Int.cast_ofNat_Int, and_self, true_and, and_true, true_or, or_true, or_false, false_or, and_false, false_and, if_true, if_false, not_true_eq_false, not_false_eq_true, reduceIte, reduceCtorEq, Bool.false_eq_true, Int.reduceEq, Int.reduceLT, Int.reduceLE, Int.reduceGT, Int.reduceGE]; done)
        | (have e := refPre_end hx (by assumption); refine ⟨LeS.of_eq ?_, trivial⟩; simp only [refNumber, refTail, *, eq_self, List.length_nil, gt_iff_lt, Int.natCast_zero, Int.cast_ofNat_Int, and_self, true_and, and_true, true_or, or_true, or_false, false_or, and_false, false_and, if_true, if_false, not_true_eq_false, not_false_eq_true, reduceIte, reduceCtorEq, Bool.false_eq_true, Int.reduceEq, Int.reduceLT, Int.reduceLE, Int.reduceGT, Int.reduceGE]; done)
        | trace_state
theorem joinp_at (c n s l h : Int) (f la : List UInt8) (c' n' s' l' h' : Int) (f' la' : List UInt8) : Sx.Spec Tryd.prog GG 19 [foldA c n s l h f la, foldA c' n' s' l' h' f' la'] [] (encFold (joinF ⟨c, n, s, l, h, f, la⟩ ⟨c', n', s', l', h', f', la'⟩)) [] := by
  refine spec_intro (E := EE) (fn := Tryd.f19) eok (by kernel_rfl) (by kernel_rfl) Tryd.call19 (by kernel_rfl) (by kernel_rfl) ?_
  conv => whnf
  repeat' first
    | (refine bc_true (by assumption) ?_; (conv => whnf))
    | (refine bc_false (by assumption) ?_; (conv => whnf))
    | (refine bc_intro (fun _ => ?_) (fun _ => ?_) <;> (conv => whnf))
    | (refine need_intro ?_ ?_; (conv => whnf))
    | (refine wk_refl ?_; (conv => whnf))
    | (refine draw_intro (by kernel_rfl) ?_; (conv => whnf))
    | (refine ord_intro (by kernel_rfl) ?_; (conv => whnf))
  all_goals try simp only [decide_eq_true_eq, decide_eq_false_iff_not, beq_iff_eq, beq_eq_false_iff_ne, ne_eq] at *
  all_goals (refine ⟨LeS.of_eq ?_, trivial⟩; simp only [joinF, *, eq_self, List.length_nil, gt_iff_lt, Int.natCast_zero, Int.cast_ofNat_Int, and_self, true_and, and_true, true_or, or_true, or_false, false_or, and_false, false_and, if_true, if_false, not_true_eq_false, not_false_eq_true, reduceIte, reduceCtorEq, Bool.false_eq_true, Int.reduceEq, Int.reduceLT, Int.reduceLE, Int.reduceGT, Int.reduceGE])
theorem joinp_spec (a b : FoldR) : Sx.Spec Tryd.prog GG 19 [encFold a, encFold b] [] (encFold (joinF a b)) [] := joinp_at a.count a.numbers a.sum a.low a.high a.first a.last b.count b.numbers b.sum b.low b.high b.first b.last
theorem refNumber_spec (l : List UInt8) : Sx.Spec Tryd.prog GG 50 [.d (.str l)] [] (.tup [.d (.int .i64 (number l).1), .d (.bool (number l).2)]) [] := number_eq l ▸ ref_spec l
theorem one_spec (k v : List UInt8) : Sx.Spec Tryd.prog GG 34 [encRowA k v] [] (encFold (oneF k v)) [] := by
  refine spec_intro (E := EE) (fn := Tryd.f34) eok (by kernel_rfl) (by kernel_rfl) Tryd.call34 (by kernel_rfl) (by kernel_rfl) ?_
  conv => whnf
  repeat' first
    | (refine call_intro (refNumber_spec _) ?_ (by first | exact .inl rfl | exact .inr ⟨rfl, rfl⟩); (conv => whnf))
    | (refine bc_true (by assumption) ?_; (conv => whnf))
    | (refine bc_false (by assumption) ?_; (conv => whnf))
    | (refine bc_intro (fun _ => ?_) (fun _ => ?_) <;> (conv => whnf))
    | (refine need_intro ?_ ?_; (conv => whnf))
    | (refine wk_refl ?_; (conv => whnf))
    | (refine draw_intro (by kernel_rfl) ?_; (conv => whnf))
    | (refine ord_intro (by kernel_rfl) ?_; (conv => whnf))
  all_goals (refine ⟨LeS.of_eq ?_, trivial⟩; simp only [oneF, *, eq_self, List.length_nil, gt_iff_lt, Int.natCast_zero, Int.cast_ofNat_Int, and_self, true_and, and_true, true_or, or_true, or_false, false_or, and_false, false_and, if_true, if_false, not_true_eq_false, not_false_eq_true, reduceIte, reduceCtorEq, Bool.false_eq_true, Int.reduceEq, Int.reduceLT, Int.reduceLE, Int.reduceGT, Int.reduceGE])
theorem refOf_spec (rows : List Row) : rows.length ≤ 9223372036854775807 → Sx.Spec Tryd.prog GG 12 [.d (encL encRow 2 rows)] [] (encFold (refOf rows)) [] := by
  intro hlen
  refine spec_intro (E := EE) (fn := Tryd.f12) eok (by kernel_rfl) (by kernel_rfl) Tryd.call12 (by kernel_rfl) (by kernel_rfl) ?_
  conv => whnf
  repeat' first
    | (refine bc_true (by assumption) ?_; (conv => whnf))
    | (refine bc_false (by assumption) ?_; (conv => whnf))
    | (refine bc_intro (fun _ => ?_) (fun _ => ?_) <;> (conv => whnf))
    | (refine need_intro ?_ ?_; (conv => whnf))
    | (refine wk_refl ?_; (conv => whnf))
    | (refine draw_intro (by kernel_rfl) ?_; (conv => whnf))
    | (refine ord_intro (by kernel_rfl) ?_; (conv => whnf))
  refine loop_auto [2, 6, 7, 3] [2] (fun i : Nat => [(8, .d (.int .i64 i))]) (fun i => [(3, .box (cells (refOf (rows.take i))))]) (fun i => i ≤ rows.length) (fun i => rows.length - i) 0 ?_ (fun i hi => ?_) (by simp)
  · conv => whnf
    repeat' first
      | (refine bc_true (by assumption) ?_; (conv => whnf))
      | (refine bc_false (by assumption) ?_; (conv => whnf))
      | (refine bc_intro (fun _ => ?_) (fun _ => ?_) <;> (conv => whnf))
      | (refine need_intro ?_ ?_; (conv => whnf))
      | (refine wk_refl ?_; (conv => whnf))
      | (refine draw_intro (by kernel_rfl) ?_; (conv => whnf))
      | (refine ord_intro (by kernel_rfl) ?_; (conv => whnf))
    all_goals first | exact ⟨rfl, rfl⟩ | exact ⟨rfl, rfl, rfl⟩ | exact DLe.refl _ | exact RowLe.refl _ _ _ | exact trivial
  · conv => whnf
    repeat' first
      | (refine call_intro (one_spec _ _) ?_ (by first | exact .inl rfl | exact .inr ⟨rfl, rfl⟩); (conv => whnf))
      | (refine call_intro (joinr_spec (refOf (rows.take i)) (oneF _ _)) ?_ (by first | exact .inl rfl | exact .inr ⟨rfl, rfl⟩); (conv => whnf))
      | (refine NextVC.mk (i + 1) ?_ ?_ ?_; (conv => whnf))
      | (refine bc_true (by assumption) ?_; (conv => whnf))
      | (refine bc_false (by assumption) ?_; (conv => whnf))
      | (refine bc_intro (fun _ => ?_) (fun _ => ?_) <;> (conv => whnf))
      | (refine need_intro ?_ ?_; (conv => whnf))
      | (refine wk_refl ?_; (conv => whnf))
      | (refine draw_intro (by kernel_rfl) ?_; (conv => whnf))
      | (refine ord_intro (by kernel_rfl) ?_; (conv => whnf))
    all_goals try simp only [decide_eq_true_eq, decide_eq_false_iff_not, Int.toNat_natCast] at *
    all_goals first
      | omega
      | exact trivial
      | exact DLe.refl _
      | exact DLe.of_eq (by rw [refOf_take (by omega)])
      | exact DLe.of_eq (by rw [wrap_succ (by omega) hlen])
      | (have : i = rows.length := by omega
         subst this
         refine ⟨LeS.of_eq ?_, trivial⟩
         simp only [List.take_length])
      | trace_state
/-! All -/
def encFoldD (f : FoldR) : List D := [.int .i64 f.count, .int .i64 f.numbers, .int .i64 f.sum, .int .i64 f.low, .int .i64 f.high, .str f.first, .str f.last]
theorem allp_spec (l : List FoldR) : l.length ≤ 9223372036854775807 → Sx.Spec Tryd.prog GG 20 [.d (encL encFoldD 7 l)] [] (encFold (allF l)) [] := by
  intro hlen
  refine spec_intro (E := EE) (fn := Tryd.f20) eok (by kernel_rfl) (by kernel_rfl) Tryd.call20 (by kernel_rfl) (by kernel_rfl) ?_
  conv => whnf
  repeat' first
    | (refine bc_true (by assumption) ?_; (conv => whnf))
    | (refine bc_false (by assumption) ?_; (conv => whnf))
    | (refine bc_intro (fun _ => ?_) (fun _ => ?_) <;> (conv => whnf))
    | (refine need_intro ?_ ?_; (conv => whnf))
    | (refine wk_refl ?_; (conv => whnf))
    | (refine draw_intro (by kernel_rfl) ?_; (conv => whnf))
    | (refine ord_intro (by kernel_rfl) ?_; (conv => whnf))
  refine loop_auto [2, 6, 7, 3] [2] (fun i : Nat => [(8, .d (.int .i64 i))]) (fun i => [(3, .box (cells (allF (l.take i))))]) (fun i => i ≤ l.length) (fun i => l.length - i) 0 ?_ (fun i hi => ?_) (by simp)
  · conv => whnf
    repeat' first
      | (refine bc_true (by assumption) ?_; (conv => whnf))
      | (refine bc_false (by assumption) ?_; (conv => whnf))
      | (refine bc_intro (fun _ => ?_) (fun _ => ?_) <;> (conv => whnf))
      | (refine need_intro ?_ ?_; (conv => whnf))
      | (refine wk_refl ?_; (conv => whnf))
      | (refine draw_intro (by kernel_rfl) ?_; (conv => whnf))
      | (refine ord_intro (by kernel_rfl) ?_; (conv => whnf))
    all_goals first | exact ⟨rfl, rfl⟩ | exact ⟨rfl, rfl, rfl⟩ | exact DLe.refl _ | exact RowLe.refl _ _ _ | exact trivial
  · conv => whnf
    repeat' first
      | (refine call_intro (joinp_spec (allF (l.take i)) (l.getD i default)) ?_ (by first | exact .inl rfl | exact .inr ⟨rfl, rfl⟩); (conv => whnf))
      | (refine NextVC.mk (i + 1) ?_ ?_ ?_; (conv => whnf))
      | (refine bc_true (by assumption) ?_; (conv => whnf))
      | (refine bc_false (by assumption) ?_; (conv => whnf))
      | (refine bc_intro (fun _ => ?_) (fun _ => ?_) <;> (conv => whnf))
      | (refine need_intro ?_ ?_; (conv => whnf))
      | (refine wk_refl ?_; (conv => whnf))
      | (refine draw_intro (by kernel_rfl) ?_; (conv => whnf))
      | (refine ord_intro (by kernel_rfl) ?_; (conv => whnf))
    all_goals try simp only [decide_eq_true_eq, decide_eq_false_iff_not, Int.toNat_natCast, beq_iff_eq, beq_eq_false_iff_ne, ne_eq] at *
    all_goals first
      | omega
      | exact trivial
      | exact DLe.refl _
      | exact DLe.of_eq (by rw [allF_take (by omega), if_pos (by omega)]; rfl)
      | exact DLe.of_eq (by rw [allF_take (by omega), if_neg (by omega)])
      | exact DLe.of_eq (by rw [wrap_succ (by omega) hlen])
      | exact ⟨by omega, by omega⟩
      | (have : i = l.length := by omega
         subst this
         refine ⟨LeS.of_eq ?_, trivial⟩
         simp only [List.take_length])
      | trace_state
theorem refOf_at (rows : List Row) : rows.length ≤ 9000000 → Sx.Spec Tryd.prog GG 12 [.d (encL encRow 2 rows)] [] (encFold (foldOf rows)) [] := fun h => of_eq h ▸ refOf_spec rows (by omega)
theorem of_nil : Sx.Spec Tryd.prog GG 11 [.d (.val (.slice none 0 0))] [] (encFold foldZ) [] := (of_spec [] (by decide)).arg (LeL.cons (LeS.d DLe.nil) LeL.nil)

