/- Contracts of functions that the law reaches: YtigmgeglnbjfeaaDoorK10. Written for this claim. -/
import Derived.Test.YtigmgeglnbjfeaaDoorK9
import Derived.Test.YtigmgeglnbjfeaaDoorSxCmp
namespace Go.Proofs.YtigmgeglnbjfeaaDoor
open Go Go.Sx Go.ChangeShapes Go.WideShapes Go.ChangeAt Go.RowKit
set_option linter.unusedVariables false
set_option linter.unusedSimpArgs false
set_option maxRecDepth 100000
theorem cellsF : Tryd.prog.cellsOf 40 = 3 := by kernel_rfl
theorem bytesF : Tryd.prog.bytesOf 40 = 32 := by kernel_rfl
theorem readp_raw (ck : Int) (cd : Bool) (b : List UInt8) : b.length ≤ 140737488351232 → Sx.Spec Tryd.prog GG 35 [.agg [.d (.int .i64 ck), .d (.bool cd)], .d (.list b.length 1 fun i j => byteRow b (0 + i) j)] [] (.tup [.agg [.d (.int .i64 (rdP (ck, cd) b).1.1), .d (.int .i64 (rdP (ck, cd) b).1.2.1), .d (.str (rdP (ck, cd) b).1.2.2)], .d (encL encB 1 (rdP (ck, cd) b).2.1), .d (.bool (rdP (ck, cd) b).2.2)]) [] := fun h =>
  (readp_spec ck cd b h).arg (LeL.cons (LeS.refl _) (LeL.cons (LeS.d (DLe.rows rfl (row_sh0 row_byte))) LeL.nil))
theorem decp_spec (s : List Col) (key : List UInt8) : (s.length ≤ 1000 ∧ key.length ≤ 140737488351232) → Sx.Spec Tryd.prog GG 24 [.d (encL encCol 2 s), .d (.str key)] [] (.tup [.d (encL encFld 3 (decodeS s key).1), .d (.int .i64 (decodeS s key).2)]) [] := by
  rintro ⟨hs1, hk1⟩
  refine spec_intro (E := EE) (fn := Tryd.f24) eok (by kernel_rfl) (by kernel_rfl) Tryd.call24 (by kernel_rfl) (by kernel_rfl) ?_
  conv => whnf
  repeat' first
    | (refine call_if (validSp_spec s) (by first | exact .inl rfl | exact .inr ⟨rfl, rfl⟩) (need_intro ?_ ?_); (conv => whnf))
    | (refine bc_true (by assumption) ?_; (conv => whnf))
    | (refine bc_false (by assumption) ?_; (conv => whnf))
    | (refine bc_intro (fun _ => ?_) (fun _ => ?_) <;> (conv => whnf))
    | (refine need_intro ?_ ?_; (conv => whnf))
    | (refine wk_refl ?_; (conv => whnf))
    | (refine draw_intro (by kernel_rfl) ?_; (conv => whnf))
    | (refine ord_intro (by kernel_rfl) ?_; (conv => whnf))
  all_goals try simp only [true_and, and_true, decide_eq_true_eq, decide_eq_false_iff_not, beq_iff_eq, bne_iff_ne, beq_eq_false_iff_ne, bne_eq_false_iff_eq, ne_eq, Decidable.not_not, Bool.not_eq_true', Bool.not_eq_false', Int.toNat_natCast] at *
  all_goals try first
    | exact hs1
    | (rw [decode_bad (by assumption)]; exact ⟨LeS.tup (LeL.cons (les_nil rfl) (LeL.cons (LeS.refl _) LeL.nil)), trivial⟩)
  have hv : validS s = true := by assumption
  have hs6 := validS_six hv
  refine loop_auto [0, 1, 18, 19] [] (fun x : Option (Nat × List Fld × List UInt8) => match x with
    | none => [(20, .d (.int .i64 0)), (6, .osl 501 1 0 key.length), (7, .d (.val (.slice none 0 0)))]
    | some (i, out, rest) => [(20, .d (.int .i64 i)), (6, .d (encL encB 1 rest)), (7, .osl 500 3 0 i)])
    (fun x => match x with
    | none => [(501, .row 5 1 key.length (byteRow key))]
    | some (i, out, rest) => [(500, .row 40 3 i (cellOf encFld out))])
    (fun x => match x with
    | none => True
    | some (i, out, rest) => DcI s key i out rest ∧ out.length = i ∧ i ≤ s.length ∧ rest.length ≤ key.length) (fun x => match x with
    | none => s.length + 1
    | some (i, out, rest) => s.length - i) none ?_ (fun x hx => ?_) trivial
  · conv => whnf
    repeat' first
      | (refine bc_true (by assumption) ?_; (conv => whnf))
      | (refine bc_false (by assumption) ?_; (conv => whnf))
      | (refine bc_intro (fun _ => ?_) (fun _ => ?_) <;> (conv => whnf))
      | (refine need_intro ?_ ?_; (conv => whnf))
      | (refine wk_refl ?_; (conv => whnf))
      | (refine draw_intro (by kernel_rfl) ?_; (conv => whnf))
      | (refine ord_intro (by kernel_rfl) ?_; (conv => whnf))
    all_goals first | exact trivial | exact DLe.refl _ | exact DLe.nil | exact RowLe.refl _ _ _ | exact ⟨rfl, rfl⟩ | exact ⟨rfl, rfl, rfl⟩ | trace_state
  · cases x with
    | none =>
      have h0 : DcI s key 0 [] key := DcI.zero
      have ho : ([] : List Fld).length = 0 := rfl
      conv => whnf
      repeat' first
        | (refine call_if (readp_raw _ _ key) (by first | exact .inl rfl | exact .inr ⟨rfl, rfl⟩) (need_intro ?_ ?_); (conv => whnf))
        | (refine call_intro (fitsFp_spec _ _ _ _ _) ?_ (by first | exact .inl rfl | exact .inr ⟨rfl, rfl⟩); (conv => whnf))
        | (refine NextVC.mk (some (1, [(rdP (s.getD 0 default) key).1], (rdP (s.getD 0 default) key).2.1)) ?_ ?_ ?_; (conv => whnf))
        | (refine bc_true (by assumption) ?_; (conv => whnf))
        | (refine bc_false (by assumption) ?_; (conv => whnf))
        | (refine bc_intro (fun _ => ?_) (fun _ => ?_) <;> (conv => whnf))
        | (refine need_intro ?_ ?_; (conv => whnf))
        | (refine wk_refl ?_; (conv => whnf))
        | (refine draw_intro (by kernel_rfl) ?_; (conv => whnf))
        | (refine ord_intro (by kernel_rfl) ?_; (conv => whnf))
      all_goals try simp only [cellsF, bytesF, true_and, and_true, Int.toNat_natCast, decide_eq_true_eq, decide_eq_false_iff_not, Bool.not_eq_true', Bool.not_eq_false'] at *
      all_goals first
        | exact trivial
        | omega
        | exact DLe.refl _
        | exact DLe.of_eq (by rw [hs])
        | exact ⟨by omega, by omega⟩
        | (rw [dec_no hv h0 (by omega) (by assumption)]; exact ⟨LeS.tup (LeL.cons (les_nil rfl) (LeL.cons (LeS.refl _) LeL.nil)), trivial⟩)
        | (rw [dec_odd hv h0 (by omega) (by assumption) (by assumption)]; exact ⟨LeS.tup (LeL.cons (les_nil rfl) (LeL.cons (LeS.refl _) LeL.nil)), trivial⟩)
        | exact row_one (jl3 (DLe.refl _) (DLe.refl _) (DLe.refl _))
        | exact row_snoc ho.symm (RowLe.refl _ _ _) (jl3 (DLe.refl _) (DLe.refl _) (DLe.refl _))
        | exact ⟨dec_next h0 (by omega) (by assumption) (by assumption), by simp [ho], by omega, Nat.le_trans rdP_rest (by omega)⟩
        | exact ⟨dec_next h0 (by omega) (by assumption) (by assumption), rfl, by omega, Nat.le_trans rdP_rest (by omega)⟩
        | (have e : i = s.length := by omega
           subst e
           first
             | (rw [decode_rest hv h0.done (.inl (by omega))]; exact ⟨LeS.tup (LeL.cons (les_nil rfl) (LeL.cons (LeS.refl _) LeL.nil)), trivial⟩)
             | (rw [decode_rest hv h0.done (.inr (by omega))]; exact ⟨LeS.tup (LeL.cons (les_nil rfl) (LeL.cons (LeS.refl _) LeL.nil)), trivial⟩)
             | (rw [decode_ok hv h0.done (by omega)]; exact ⟨LeS.tup (LeL.cons (les_row ho.symm (RowLe.refl _ _ _)) (LeL.cons (LeS.refl _) LeL.nil)), trivial⟩))
        | trace_state
    | some x =>
      obtain ⟨i, out, rest⟩ := x
      obtain ⟨h0, ho, hi, hr⟩ := hx
      have hs : IntKind.i64.wrap ((i : Int) + 1) = ((i + 1 : Nat) : Int) := wrap_succ (n := 2000) (by omega) (by omega)
      conv => whnf
      repeat' first
        | (refine call_if (readp_spec _ _ rest) (by first | exact .inl rfl | exact .inr ⟨rfl, rfl⟩) (need_intro ?_ ?_); (conv => whnf))
        | (refine call_intro (fitsFp_spec _ _ _ _ _) ?_ (by first | exact .inl rfl | exact .inr ⟨rfl, rfl⟩); (conv => whnf))
        | (refine NextVC.mk (some (i + 1, out ++ [(rdP (s.getD i default) rest).1], (rdP (s.getD i default) rest).2.1)) ?_ ?_ ?_; (conv => whnf))
        | (refine bc_true (by assumption) ?_; (conv => whnf))
        | (refine bc_false (by assumption) ?_; (conv => whnf))
        | (refine bc_intro (fun _ => ?_) (fun _ => ?_) <;> (conv => whnf))
        | (refine need_intro ?_ ?_; (conv => whnf))
        | (refine wk_refl ?_; (conv => whnf))
        | (refine draw_intro (by kernel_rfl) ?_; (conv => whnf))
        | (refine ord_intro (by kernel_rfl) ?_; (conv => whnf))
      all_goals try simp only [cellsF, bytesF, true_and, and_true, Int.toNat_natCast, decide_eq_true_eq, decide_eq_false_iff_not, Bool.not_eq_true', Bool.not_eq_false'] at *
      all_goals first
        | exact trivial
        | omega
        | exact DLe.refl _
        | exact DLe.of_eq (by rw [hs])
        | exact ⟨by omega, by omega⟩
        | (rw [dec_no hv h0 (by omega) (by assumption)]; exact ⟨LeS.tup (LeL.cons (les_nil rfl) (LeL.cons (LeS.refl _) LeL.nil)), trivial⟩)
        | (rw [dec_odd hv h0 (by omega) (by assumption) (by assumption)]; exact ⟨LeS.tup (LeL.cons (les_nil rfl) (LeL.cons (LeS.refl _) LeL.nil)), trivial⟩)
        | exact row_one (jl3 (DLe.refl _) (DLe.refl _) (DLe.refl _))
        | exact row_snoc ho.symm (RowLe.refl _ _ _) (jl3 (DLe.refl _) (DLe.refl _) (DLe.refl _))
        | exact ⟨dec_next h0 (by omega) (by assumption) (by assumption), by simp [ho], by omega, Nat.le_trans rdP_rest (by omega)⟩
        | exact ⟨dec_next h0 (by omega) (by assumption) (by assumption), rfl, by omega, Nat.le_trans rdP_rest (by omega)⟩
        | (have e : i = s.length := by omega
           subst e
           first
             | (rw [decode_rest hv h0.done (.inl (by omega))]; exact ⟨LeS.tup (LeL.cons (les_nil rfl) (LeL.cons (LeS.refl _) LeL.nil)), trivial⟩)
             | (rw [decode_rest hv h0.done (.inr (by omega))]; exact ⟨LeS.tup (LeL.cons (les_nil rfl) (LeL.cons (LeS.refl _) LeL.nil)), trivial⟩)
             | (rw [decode_ok hv h0.done (by omega)]; exact ⟨LeS.tup (LeL.cons (les_row ho.symm (RowLe.refl _ _ _)) (LeL.cons (LeS.refl _) LeL.nil)), trivial⟩))
        | trace_state
end Go.Proofs.YtigmgeglnbjfeaaDoor
