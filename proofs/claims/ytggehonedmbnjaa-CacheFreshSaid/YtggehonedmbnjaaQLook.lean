/- Contracts of functions that the law reaches: YtggehonedmbnjaaQLook. Written for this claim. -/
import Derived.Test.YtggehonedmbnjaaQChk
namespace Go.Proofs.Ytggehonedmbnjaa
open Go Go.Sx Go.ChangeShapes Go.WideShapes Go.ChangeAt Go.RowKit
set_option linter.unusedVariables false
set_option linter.unusedSimpArgs false
set_option maxRecDepth 100000
/-! the first lease of a key -/
theorem index0 (l : List LseT) : l.length ≤ 1000000 → Sx.Spec Try.prog GG 24 [.d (encL encLse 9 l)] [] (.mp 1000) [(1000, .smap .i64 fun k => findL l k)] := by
  intro hl
  refine spec_intro (E := EE) (fn := Try.f24) eok (by kernel_rfl) (by kernel_rfl) Try.call24 (by kernel_rfl) (by kernel_rfl) ?_
  conv => whnf
  repeat' first
    | (refine bc_true (by assumption) ?_; (conv => whnf))
    | (refine bc_false (by assumption) ?_; (conv => whnf))
    | (refine need_intro ?_ ?_; (conv => whnf))
    | (refine wk_refl ?_; (conv => whnf))
    | (refine draw_intro (by kernel_rfl) ?_; (conv => whnf))
    | (refine ord_intro (by kernel_rfl) ?_; (conv => whnf))
  have w0 : IntKind.i64.wrap ((l.length : Int) - 1) = (l.length : Int) - 1 := wrap_of (by omega) (by omega)
  refine loop_auto [0, 3] [] (fun i : Nat => [(4, .d (.int .i64 ((i : Int) - 1)))]) (fun i => [(5, .smap .i64 fun k => idxL k (l.drop i) i)]) (fun i => i ≤ l.length) (fun i => i) l.length ?_ (fun i hi => ?_) (Nat.le_refl _)
  · conv => whnf
    repeat' first
      | (refine bc_true (by assumption) ?_; (conv => whnf))
      | (refine bc_false (by assumption) ?_; (conv => whnf))
      | (refine bc_intro (fun _ => ?_) (fun _ => ?_) <;> (conv => whnf))
      | (refine need_intro ?_ ?_; (conv => whnf))
      | (refine wk_refl ?_; (conv => whnf))
      | (refine draw_intro (by kernel_rfl) ?_; (conv => whnf))
      | (refine ord_intro (by kernel_rfl) ?_; (conv => whnf))
    all_goals first
      | exact trivial
      | exact DLe.refl _
      | exact DLe.of_eq (by rw [w0])
      | exact ⟨rfl, funext fun k => by rw [idx_end (Nat.le_refl _)]⟩
      | trace_state
  · have w1 : IntKind.i64.wrap ((i : Int) - 1 - 1) = ((i - 1 : Nat) : Int) - 1 ∨ i = 0 := by
      by_cases h : i = 0
      · exact .inr h
      · exact .inl (by rw [wrap_of (by omega) (by omega)]; omega)
    have wt : ((i : Int) - 1).toNat = i - 1 := by omega
    conv => whnf
    repeat' first
      | (refine NextVC.mk (i - 1) ?_ ?_ ?_; (conv => whnf))
      | (refine bc_true (by assumption) ?_; (conv => whnf))
      | (refine bc_false (by assumption) ?_; (conv => whnf))
      | (refine bc_intro (fun _ => ?_) (fun _ => ?_) <;> (conv => whnf))
      | (refine need_intro ?_ ?_; (conv => whnf))
      | (refine wk_refl ?_; (conv => whnf))
      | (refine draw_intro (by kernel_rfl) ?_; (conv => whnf))
      | (refine ord_intro (by kernel_rfl) ?_; (conv => whnf))
    all_goals try simp only [decide_eq_true_eq, decide_eq_false_iff_not, wt] at *
    all_goals first
      | exact trivial
      | omega
      | exact DLe.refl _
      | exact DLe.of_eq (by rw [w1.resolve_right (by omega)])
      | exact ⟨by omega, by omega⟩
      | (refine ⟨trivial, funext fun k => ?_⟩
         have e : i - 1 + 1 = i := by omega
         rw [idx_at (i := i - 1) (by omega), e]
         by_cases hk : (l.getD (i - 1) default).key = k
         · subst hk
           simp only [beq_self_eq_true, if_true]
           congr 1; omega
         · have hk2 : ((l.getD (i - 1) default).key == k) = false := by simpa using hk
           simp only [hk2, Bool.false_eq_true, if_false, if_neg (Ne.symm hk)])
      | (have e : i = 0 := by omega
         subst e
         exact ⟨trivial, rfl⟩)
      | trace_state
theorem index_at (m : Nat) (l : List LseT) : l.length ≤ 1000000 → Sx.Spec Try.prog GG 24 [.d (encL encLse 9 l)] [] (.mp m) [(m, .smap .i64 fun k => findL l k)] := fun h => (index0 l h).new1 m
def findI (l : List LseT) (k : List UInt8) : Int := (findL l k).getD (-1)
theorem findI_none {l : List LseT} {k : List UInt8} (h : findL l k = none) : findI l k = -1 := by rw [findI, h]; rfl
theorem findI_some {l : List LseT} {k : List UInt8} {n : Int} (h : findL l k = some n) : findI l k = n := by rw [findI, h]; rfl
theorem look_none {l : List LseT} {node : Int} {k : List UInt8} (h : findL l k = none) : lookL l node k = ([], false, false) := by rw [lookL, h]
theorem look_no {l : List LseT} {node : Int} {k : List UInt8} {p : Nat} (h : findL l k = some (p : Int)) (hn : (l.getD p default).hold.contains node = false) : lookL l node k = ([], false, false) := by
  rw [lookL, h]; simp only [Int.toNat_natCast, hn, Bool.false_eq_true, if_false]
theorem look_yes {l : List LseT} {node : Int} {k : List UInt8} {p : Nat} (h : findL l k = some (p : Int)) (hn : (l.getD p default).hold.contains node = true) : lookL l node k = ((l.getD p default).val, (l.getD p default).has, true) := by
  rw [lookL, h]; simp only [Int.toNat_natCast, hn, if_true]
theorem lookupp_spec (l : List LseT) (node : Int) (k : List UInt8) : LsB l → Sx.Spec Try.prog GG 19 [.d (encL encLse 9 l), .d (.int .i64 node), .d (.str k)] [] (.tup [.d (.str (lookL l node k).1), .d (.bool (lookL l node k).2.1), .d (.bool (lookL l node k).2.2)]) [] := by
  intro h
  have hl := h.len
  have hb := h.at
  cases hf : findL l k with
  | none =>
    have hln := look_none (node := node) hf
    refine spec_intro (E := EE) (fn := Try.f19) eok (by kernel_rfl) (by kernel_rfl) Try.call19 (by kernel_rfl) (by kernel_rfl) ?_
    conv => whnf
    repeat' first
      | (refine call_if (index_at 1000 l) (by first | exact .inl rfl | exact .inr ⟨rfl, rfl⟩) (need_intro ?_ ?_); (conv => whnf))
      | (refine bc_true (by assumption) ?_; (conv => whnf))
      | (refine bc_false (by assumption) ?_; (conv => whnf))
      | (refine bc_intro (fun _ => ?_) (fun _ => ?_) <;> (conv => whnf))
      | (refine need_intro ?_ ?_; (conv => whnf))
      | (refine wk_refl ?_; (conv => whnf))
      | (refine draw_intro (by kernel_rfl) ?_; (conv => whnf))
      | (refine ord_intro (by kernel_rfl) ?_; (conv => whnf))
    all_goals try simp only [hf, Option.isSome_none] at *
    all_goals first
      | omega
      | contradiction
      | (rw [hln]; exact ⟨LeS.refl _, trivial⟩)
      | trace_state
  | some n =>
    obtain ⟨p, rfl, hp, hk⟩ := find_some hf
    have hbp := hb p
    have e0 : (findL l k).getD 0 = (p : Int) := by rw [hf]; rfl
    have hln := look_no (node := node) hf
    have hly := look_yes (node := node) hf
    refine spec_intro (E := EE) (fn := Try.f19) eok (by kernel_rfl) (by kernel_rfl) Try.call19 (by kernel_rfl) (by kernel_rfl) ?_
    conv => whnf
    repeat' first
      | (refine call_if (index_at 1000 l) (by first | exact .inl rfl | exact .inr ⟨rfl, rfl⟩) (need_intro ?_ ?_); (conv => whnf))
      | (refine call_if (hasp_spec _ _) (by first | exact .inl rfl | exact .inr ⟨rfl, rfl⟩) (need_intro ?_ ?_); (conv => whnf))
      | (refine bc_true (by assumption) ?_; (conv => whnf))
      | (refine bc_false (by assumption) ?_; (conv => whnf))
      | (refine bc_intro (fun _ => ?_) (fun _ => ?_) <;> (conv => whnf))
      | (refine need_intro ?_ ?_; (conv => whnf))
      | (refine wk_refl ?_; (conv => whnf))
      | (refine draw_intro (by kernel_rfl) ?_; (conv => whnf))
      | (refine ord_intro (by kernel_rfl) ?_; (conv => whnf))
    all_goals try rw [e0] at *
    all_goals try simp only [e0, hf, Option.isSome_some, Int.toNat_natCast, Bool.not_eq_true', Bool.not_eq_false', Bool.true_eq_false] at *
    all_goals first
      | omega
      | contradiction
      | exact ⟨by omega, by omega⟩
      | (rw [hln (by assumption)]; exact ⟨LeS.refl _, trivial⟩)
      | (rw [hly (by assumption)]; exact ⟨LeS.refl _, trivial⟩)
      | trace_state
end Go.Proofs.Ytggehonedmbnjaa
