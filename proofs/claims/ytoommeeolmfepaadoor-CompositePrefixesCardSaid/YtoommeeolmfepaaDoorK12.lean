/- Contracts of functions that the law reaches: YtoommeeolmfepaaDoorK12. Written for this claim. -/
import Derived.Test.YtoommeeolmfepaaDoorK11
import Derived.Test.YtoommeeolmfepaaDoorSxCmp
namespace Go.Proofs.YtoommeeolmfepaaDoor
open Go Go.Sx Go.ChangeShapes Go.WideShapes Go.ChangeAt Go.RowKit
set_option linter.unusedVariables false
set_option linter.unusedSimpArgs false
set_option maxRecDepth 100000
theorem fieldr_raw (ck : Int) (cd : Bool) (B : List UInt8) {n : Nat} (hn : n = B.length) : B.length ≤ 1000 → Sx.Spec Tryd.prog GG 49 [.agg [.d (.int .i64 ck), .d (.bool cd)], .d (.list n 1 fun i j => cellOf encB B (0 + i) j)] [] (.tup [.agg [.d (.int .i64 (refF ck B).1.1), .d (.int .i64 (refF ck B).1.2.1), .d (.str (refF ck B).1.2.2)], .d (.int .i64 (refF ck B).2)]) [] := fun h =>
  (fieldr_spec ck cd B h).arg (LeL.cons (LeS.refl _) (LeL.cons (LeS.d (DLe.rows hn row_zero)) LeL.nil))
theorem row_zeros {r : List UInt8} {d : Bool} {n : Nat} {g : Nat → Nat → D} (hg : ∀ i, i < n → g i 0 = .int .u8 0) (hn : n = r.length) : RowLe n 1 g (cellOf encB (copyB d r 0)) := .of_eq fun i j hi hj => by
  have : j = 0 := by omega
  subst this
  have h2 : i < r.length := by omega
  rw [hg i hi, copyB_zero]
  simp [cellOf, encB, List.getD, h2]
theorem decr_spec (s : List Col) (key : List UInt8) : (s.length ≤ 1000 ∧ key.length ≤ 140737488351232) → Sx.Spec Tryd.prog GG 18 [.d (encL encCol 2 s), .d (.str key)] [] (.tup [.d (encL encFld 3 (decodeS s key).1), .d (.int .i64 (decodeS s key).2)]) [] := by
  rintro ⟨hs1, hk1⟩
  refine spec_intro (E := EE) (fn := Tryd.f18) eok (by kernel_rfl) (by kernel_rfl) Tryd.call18 (by kernel_rfl) (by kernel_rfl) ?_
  conv => whnf
  repeat' first
    | (refine call_if (validSr_spec s) (by first | exact .inl rfl | exact .inr ⟨rfl, rfl⟩) (need_intro ?_ ?_); (conv => whnf))
    | (refine bc_true (by assumption) ?_; (conv => whnf))
    | (refine bc_false (by assumption) ?_; (conv => whnf))
    | (refine bc_intro (fun _ => ?_) (fun _ => ?_) <;> (conv => whnf))
    | (refine need_intro ?_ ?_; (conv => whnf))
    | (refine wk_refl ?_; (conv => whnf))
    | (refine draw_intro (by kernel_rfl) ?_; (conv => whnf))
    | (refine ord_intro (by kernel_rfl) ?_; (conv => whnf))
  all_goals try simp only [true_and, and_true, decide_eq_true_eq, decide_eq_false_iff_not, beq_iff_eq, bne_iff_ne, beq_eq_false_iff_ne, bne_eq_false_iff_eq, ne_eq, Decidable.not_not, Bool.not_eq_true', Bool.not_eq_false', Int.toNat_natCast] at *
  all_goals try first
    | exact hs1
    | exact ⟨by omega, by omega⟩
    | (rw [decode_bad (by assumption)]; exact ⟨LeS.tup (LeL.cons (les_nil rfl) (LeL.cons (LeS.refl _) LeL.nil)), trivial⟩)
    | (rw [decode_long (by assumption) (by omega)]; exact ⟨LeS.tup (LeL.cons (les_nil rfl) (LeL.cons (LeS.refl _) LeL.nil)), trivial⟩)
  have hv : validS s = true := by assumption
  have hs6 := validS_six hv
  have hk6 : key.length ≤ 64 := by omega
  refine loop_auto [0, 1] [] (fun x : Nat × List Fld × Nat => [(8, .d (.int .i64 x.1)), (7, .osl 501 1 x.2.2 (key.length - x.2.2)), (6, .osl 500 3 0 x.1)])
    (fun x => [(501, .row 5 1 key.length (cellOf encB key)), (500, .row 76 3 x.1 (cellOf encFld x.2.1))])
    (fun x => DcI s key x.1 x.2.1 (key.drop x.2.2) ∧ x.2.1.length = x.1 ∧ x.1 ≤ s.length ∧ x.2.2 ≤ key.length) (fun x => s.length - x.1) (0, [], 0) ?_ (fun x hx => ?_) ⟨DcI.zero, rfl, Nat.zero_le _, Nat.zero_le _⟩
  · conv => whnf
    repeat' first
      | (refine bc_true (by assumption) ?_; (conv => whnf))
      | (refine bc_false (by assumption) ?_; (conv => whnf))
      | (refine bc_intro (fun _ => ?_) (fun _ => ?_) <;> (conv => whnf))
      | (refine need_intro ?_ ?_; (conv => whnf))
      | (refine wk_refl ?_; (conv => whnf))
      | (refine draw_intro (by kernel_rfl) ?_; (conv => whnf))
      | (refine ord_intro (by kernel_rfl) ?_; (conv => whnf))
    all_goals first | exact trivial | exact DLe.refl _ | exact DLe.nil | exact RowLe.refl _ _ _ | exact row_byte | exact ⟨rfl, rfl⟩ | exact ⟨rfl, rfl, rfl⟩ | trace_state
  · obtain ⟨i, out, off⟩ := x
    obtain ⟨h0, ho, hi, hoff⟩ := hx
    simp only at h0 ho hi hoff
    simp only
    have hs : IntKind.i64.wrap ((i : Int) + 1) = ((i + 1 : Nat) : Int) := wrap_succ (n := 2000) (by omega) (by omega)
    have hrl : (key.drop off).length = key.length - off := List.length_drop
    conv => whnf
    repeat' first
      | (refine bc_true (by assumption) ?_; (conv => whnf))
      | (refine bc_false (by assumption) ?_; (conv => whnf))
      | (refine need_intro ?_ ?_; (conv => whnf))
      | (refine wk_refl ?_; (conv => whnf))
      | (refine draw_intro (by kernel_rfl) ?_; (conv => whnf))
      | (refine ord_intro (by kernel_rfl) ?_; (conv => whnf))
    refine bc_intro (fun h1 => ?_) (fun h1 => ?_) <;> (conv => whnf)
    · have hi2 : i < s.length := by simp only [decide_eq_true_eq] at h1; omega
      conv => whnf
      repeat' first
        | (refine bc_true (by assumption) ?_; (conv => whnf))
        | (refine bc_false (by assumption) ?_; (conv => whnf))
        | (refine need_intro ?_ ?_; (conv => whnf))
        | (refine wk_refl ?_; (conv => whnf))
        | (refine draw_intro (by kernel_rfl) ?_; (conv => whnf))
        | (refine ord_intro (by kernel_rfl) ?_; (conv => whnf))
      · refine loop_auto [0, 1, 6, 7, 8] [500, 501] (fun k : Nat => [(10, .d (.int .i64 k)), (9, .osl 502 1 0 (key.length - off))]) (fun k => [(502, .row 5 1 (key.length - off) (cellOf encB (copyB (s.getD i default).2 (key.drop off) k)))]) (fun k => k ≤ key.length - off) (fun k => key.length - off - k) 0 ?_ (fun k hk => ?_) (by omega)
        · conv => whnf
          repeat' first
            | (refine bc_true (by assumption) ?_; (conv => whnf))
            | (refine bc_false (by assumption) ?_; (conv => whnf))
            | (refine bc_intro (fun _ => ?_) (fun _ => ?_) <;> (conv => whnf))
            | (refine need_intro ?_ ?_; (conv => whnf))
            | (refine wk_refl ?_; (conv => whnf))
            | (refine draw_intro (by kernel_rfl) ?_; (conv => whnf))
            | (refine ord_intro (by kernel_rfl) ?_; (conv => whnf))
          all_goals first | exact trivial | exact DLe.refl _ | exact RowLe.refl _ _ _ | exact ⟨rfl, rfl⟩ | exact ⟨rfl, rfl, rfl⟩ | exact row_zeros (fun _ _ => rfl) hrl.symm | trace_state
        · have hks : IntKind.i64.wrap ((k : Int) + 1) = ((k + 1 : Nat) : Int) := wrap_succ (n := 2000) (by omega) (by omega)
          conv => whnf
          repeat' first
            | (refine bc_true (by assumption) ?_; (conv => whnf))
            | (refine bc_false (by assumption) ?_; (conv => whnf))
            | (refine need_intro ?_ ?_; (conv => whnf))
            | (refine wk_refl ?_; (conv => whnf))
            | (refine draw_intro (by kernel_rfl) ?_; (conv => whnf))
            | (refine ord_intro (by kernel_rfl) ?_; (conv => whnf))
          refine bc_intro (fun h2 => ?_) (fun h2 => ?_) <;> (conv => whnf)
          · have hk2 : k < key.length - off := by simp only [decide_eq_true_eq] at h2; omega
            have hgd : (key.drop off).getD k default = key.getD (off + k) default := by simp [List.getD]
            conv => whnf
            repeat' first
              | (refine NextVC.mk (k + 1) ?_ ?_ ?_; (conv => whnf))
              | (refine bc_true (by assumption) ?_; (conv => whnf))
              | (refine bc_false (by assumption) ?_; (conv => whnf))
              | (refine bc_intro (fun _ => ?_) (fun _ => ?_) <;> (conv => whnf))
              | (refine need_intro ?_ ?_; (conv => whnf))
              | (refine wk_refl ?_; (conv => whnf))
              | (refine draw_intro (by kernel_rfl) ?_; (conv => whnf))
              | (refine ord_intro (by kernel_rfl) ?_; (conv => whnf))
            all_goals try simp only [cellsB8, bytesB8, true_and, and_true, Int.toNat_natCast]
            all_goals first
              | exact trivial
              | omega
              | exact DLe.refl _
              | exact RowLe.refl _ _ _
              | exact DLe.of_eq (by rw [hks])
              | exact ⟨by omega, by omega⟩
              | exact row_copy (by assumption) hrl.symm (by omega) (RowLe.refl _ _ _) (by rw [hgd])
              | exact row_turn (by assumption) hrl.symm (by omega) (RowLe.refl _ _ _) (by rw [hgd]) (by rw [hgd]; exact sub_byte _)
              | trace_state
          · have hk2 : k = (key.drop off).length := by simp only [decide_eq_false_iff_not] at h2; omega
            subst hk2
            rw [copyB_all]
            have hfl : (flipB (s.getD i default).2 (key.drop off)).length = key.length - off := by rw [flip_len, hrl]
            conv => whnf
            repeat' first
              | (refine call_if (fieldr_raw _ _ (flipB (s.getD i default).2 (key.drop off)) hfl.symm) (by first | exact .inl rfl | exact .inr ⟨rfl, rfl⟩) (need_intro ?_ ?_); (conv => whnf))
              | (refine NextVC.mk (i + 1, out ++ [(refF (s.getD i default).1 (flipB (s.getD i default).2 (key.drop off))).1], off + (refF (s.getD i default).1 (flipB (s.getD i default).2 (key.drop off))).2) ?_ ?_ ?_; (conv => whnf))
              | (refine bc_true (by assumption) ?_; (conv => whnf))
              | (refine bc_false (by assumption) ?_; (conv => whnf))
              | (refine bc_intro (fun _ => ?_) (fun _ => ?_) <;> (conv => whnf))
              | (refine need_intro ?_ ?_; (conv => whnf))
              | (refine wk_refl ?_; (conv => whnf))
              | (refine draw_intro (by kernel_rfl) ?_; (conv => whnf))
              | (refine ord_intro (by kernel_rfl) ?_; (conv => whnf))
            all_goals try simp only [true_and, and_true, decide_eq_true_eq, decide_eq_false_iff_not, beq_iff_eq, bne_iff_ne, beq_eq_false_iff_ne, bne_eq_false_iff_eq, ne_eq, Decidable.not_not, Bool.not_eq_true', Bool.not_eq_false', Int.toNat_natCast] at *
            have hle : (refF (s.getD i default).1 (flipB (s.getD i default).2 (key.drop off))).2 ≤ key.length - off := by rw [← hfl]; exact refF_le
            all_goals have hle : (refF (s.getD i default).1 (flipB (s.getD i default).2 (key.drop off))).2 ≤ key.length - off := by rw [← hfl]; exact refF_le
            all_goals try simp only [cellsF, bytesF, true_and, and_true, Option.getD, Int.toNat_natCast]
            all_goals first
              | exact trivial
              | omega
              | exact DLe.refl _
              | exact RowLe.refl _ _ _
              | exact DLe.of_eq (by rw [hs])
              | exact ⟨by omega, by omega⟩
              | exact ⟨by omega, by omega, by omega⟩
              | (rw [ref_no hv h0 hi2 (by omega)]; exact ⟨LeS.tup (LeL.cons (les_nil rfl) (LeL.cons (LeS.refl _) LeL.nil)), trivial⟩)
              | (rw [ref_odd hv h0 hi2 (by omega) (by omega)]; exact ⟨LeS.tup (LeL.cons (les_nil rfl) (LeL.cons (LeS.refl _) LeL.nil)), trivial⟩)
              | exact row_snoc ho.symm (RowLe.refl _ _ _) (jl3 (DLe.refl _) (DLe.refl _) (DLe.refl _))
              | exact ⟨by rw [← List.drop_drop]; exact ref_next hv h0 hi2 (by omega) (by omega), by simp [ho], by omega, by omega⟩
              | trace_state
      · rw [bytesB8]; exact ⟨by omega, by omega, by omega, by omega⟩
    · conv => whnf
      repeat' first
        | (refine bc_true (by assumption) ?_; (conv => whnf))
        | (refine bc_false (by assumption) ?_; (conv => whnf))
        | (refine bc_intro (fun _ => ?_) (fun _ => ?_) <;> (conv => whnf))
        | (refine need_intro ?_ ?_; (conv => whnf))
        | (refine wk_refl ?_; (conv => whnf))
        | (refine draw_intro (by kernel_rfl) ?_; (conv => whnf))
        | (refine ord_intro (by kernel_rfl) ?_; (conv => whnf))
      all_goals try simp only [true_and, and_true, decide_eq_true_eq, decide_eq_false_iff_not, beq_iff_eq, bne_iff_ne, beq_eq_false_iff_ne, bne_eq_false_iff_eq, ne_eq, Decidable.not_not, Bool.not_eq_true', Bool.not_eq_false', Int.toNat_natCast] at *
      all_goals first
        | (have e : i = s.length := by omega
           subst e
           first
             | (rw [decode_rest hv h0.done (.inl (by omega))]; exact ⟨LeS.tup (LeL.cons (les_nil rfl) (LeL.cons (LeS.refl _) LeL.nil)), trivial⟩)
             | (rw [decode_ok hv h0.done (by omega)]; exact ⟨LeS.tup (LeL.cons (les_row ho.symm (RowLe.refl _ _ _)) (LeL.cons (LeS.refl _) LeL.nil)), trivial⟩))
        | trace_state
end Go.Proofs.YtoommeeolmfepaaDoor
