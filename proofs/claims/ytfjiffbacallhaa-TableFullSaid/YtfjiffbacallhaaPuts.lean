/- Contracts of functions that the law reaches: YtfjiffbacallhaaPuts. Written for this claim. -/
import Derived.Test.YtfjiffbacallhaaPlace
import Derived.Test.YtfjiffbacallhaaSxTab
namespace Go.Proofs.Ytfjiffbacallhaa
open Go Go.Sx Go.ChangeShapes Go.WideShapes Go.ChangeAt Go.RowKit
set_option linter.unusedVariables false
set_option linter.unusedSimpArgs false
set_option maxRecDepth 100000
def delF (rows : List Row) (k : List UInt8) : List Row × Int :=
  if !(validT rows) || !(decide ((k.length : Int) ≤ 64)) then ([], 1) else if (getF rows k).2 then (withoutF rows k, 0) else ([], 18)
theorem put_bad {rows : List Row} {k v : List UInt8} (h : validT rows = false ∨ rowOk (k, v) = false) : putF rows k v = ([], 1) := by
  unfold putF
  rw [validT_one]
  rcases h with h | h <;> simp [h]
theorem put_full {rows : List Row} {k v : List UInt8} (h1 : validT rows = true) (h2 : rowOk (k, v) = true) (h : (withF rows (k, v)).length > 1024) : putF rows k v = ([], 16) := by
  unfold putF
  rw [validT_one]
  simp [h1, h2, h]
theorem put_ok {rows : List Row} {k v : List UInt8} (h1 : validT rows = true) (h2 : rowOk (k, v) = true) (h : ¬ (withF rows (k, v)).length > 1024) : putF rows k v = (withF rows (k, v), 0) := by
  unfold putF
  rw [validT_one]
  simp [h1, h2, h]
theorem putp_spec (rows : List Row) (k v : List UInt8) : Sx.Spec Try.prog GG 6 [.d (encL encRow 2 rows), .agg [.d (.str k), .d (.str v)]] [] (.tup [.d (encL encRow 2 (putF rows k v).1), .d (.int .i64 (putF rows k v).2)]) [] := by
  have hpl : placeF rows k false ≤ rows.length := place_le
  refine spec_intro (E := EE) (fn := Try.f6) eok (by kernel_rfl) (by kernel_rfl) Try.call6 (by kernel_rfl) (by kernel_rfl) ?_
  conv => whnf
  repeat' first
    | (refine call_intro (validTp_spec _) ?_ (by first | exact .inl rfl | exact .inr ⟨rfl, rfl⟩); (conv => whnf))
    | (refine call_intro (validRowp_spec _ _) ?_ (by first | exact .inl rfl | exact .inr ⟨rfl, rfl⟩); (conv => whnf))
    | (refine call_if (place_spec _ _ _) (by first | exact .inl rfl | exact .inr ⟨rfl, rfl⟩) (need_intro ?_ ?_); (conv => whnf))
    | (refine bc_true (by assumption) ?_; (conv => whnf))
    | (refine bc_false (by assumption) ?_; (conv => whnf))
    | (refine bc_intro (fun _ => ?_) (fun _ => ?_) <;> (conv => whnf))
    | (refine need_intro ?_ ?_; (conv => whnf))
    | (refine wk_refl ?_; (conv => whnf))
    | (refine draw_intro (by kernel_rfl) ?_; (conv => whnf))
    | (refine ord_intro (by kernel_rfl) ?_; (conv => whnf))
  all_goals try simp only [decide_eq_true_eq, decide_eq_false_iff_not, Bool.not_eq_true', Bool.not_eq_false', beq_iff_eq, beq_eq_false_iff_ne, ne_eq, Int.toNat_natCast] at *
  all_goals first
    | exact len_of (by assumption)
    | (have := validT_len ‹validT rows = true›; omega)
    | (have := validT_len ‹validT rows = true›; exact ⟨by omega, by omega⟩)
    | (rw [put_bad (.inl (by assumption))]; exact ⟨LeS.tup (LeL.cons (les_nil rfl) (LeL.cons (LeS.refl _) LeL.nil)), trivial⟩)
    | (rw [put_bad (.inr (by assumption))]; exact ⟨LeS.tup (LeL.cons (les_nil rfl) (LeL.cons (LeS.refl _) LeL.nil)), trivial⟩)
    | (have hv := ‹validT rows = true›
       have hlen := validT_len hv
       try simp only [cellsRow, bytesRow, Option.getD_none, Option.getD_some, Int.sub_zero, Int.toNat_natCast, Int.toNat_zero, Nat.zero_add, true_and]
       first
         | omega
         | exact ⟨by omega, by omega⟩
         | exact ⟨by omega, by omega, by omega⟩
         | (obtain ⟨_, e1⟩ := place_found (v := v) (validT_iff.1 hv).sorted (by omega) ‹(rows.getD (placeF rows k false) default).1 = k›
            have e : putF rows k v = (withF rows (k, v), 0) := put_ok hv (by assumption) (by rw [e1]; simp only [List.length_append, List.length_take, List.length_cons, List.length_drop]; omega)
            rw [e, e1]
            refine ⟨LeS.tup (LeL.cons (les_list rfl ?_ (fun i j hi hj => ?_)) (LeL.cons (LeS.refl _) LeL.nil)), trivial⟩
            · simp only [List.length_append, List.length_take, List.length_cons, List.length_drop]; omega
            · rcases Nat.lt_trichotomy i (placeF rows k false) with h | h | h
              · rw [if_neg (by omega)]; simp only [cellOf, getD_ins place_le, if_pos h]
              · subst h
                simp only [cellOf, getD_ins place_le, if_true, Nat.lt_irrefl, if_false]
                exact jlt2 (p := fun j => (if j < 0 then (encRow (rows.getD (placeF rows k false) default)).getD j default else if j < [D.str k, D.str v].length then [D.str k, D.str v].getD (j - 0) default else (encRow (rows.getD (placeF rows k false) default)).getD j default) = (encRow (k, v)).getD j default) rfl rfl j hj
              · rw [if_neg (by omega)]
                simp only [cellOf, getD_ins place_le, if_neg (show ¬ i < placeF rows k false by omega), if_neg (show ¬ i = placeF rows k false by omega)]
                rw [show placeF rows k false + 1 + (i - placeF rows k false - 1) = i by omega])
         | (have hne : ¬ (placeF rows k false < rows.length ∧ (rows.getD (placeF rows k false) default).1 = k) := by
              first
                | (intro h; exact absurd h.2 (by assumption))
                | (intro h; have := h.1; omega)
            obtain ⟨_, e1⟩ := place_new (v := v) (validT_iff.1 hv).sorted hne
            have e : putF rows k v = ([], 16) := put_full hv (by assumption) (by rw [e1]; simp only [List.length_append, List.length_take, List.length_cons, List.length_drop]; omega)
            rw [e]
            exact ⟨LeS.tup (LeL.cons (les_nil rfl) (LeL.cons (LeS.refl _) LeL.nil)), trivial⟩)
         | (have hne : ¬ (placeF rows k false < rows.length ∧ (rows.getD (placeF rows k false) default).1 = k) := by
              first
                | (intro h; exact absurd h.2 (by assumption))
                | (intro h; have := h.1; omega)
            obtain ⟨_, e1⟩ := place_new (v := v) (validT_iff.1 hv).sorted hne
            have e : putF rows k v = (withF rows (k, v), 0) := put_ok hv (by assumption) (by rw [e1]; simp only [List.length_append, List.length_take, List.length_cons, List.length_drop]; omega)
            rw [e, e1]
            refine ⟨LeS.tup (LeL.cons (les_list rfl ?_ (fun i j hi hj => ?_)) (LeL.cons (LeS.refl _) LeL.nil)), trivial⟩
            · simp only [List.length_append, List.length_take, List.length_cons, List.length_drop]; omega
            · rcases Nat.lt_trichotomy i (placeF rows k false) with h | h | h
              · rw [if_pos (by omega), if_pos h]; simp only [cellOf, getD_ins place_le, if_pos h]
              · subst h
                rw [if_pos (by omega), if_neg (by omega)]
                simp only [cellOf, getD_ins place_le, if_true, Nat.lt_irrefl, if_false, Nat.sub_self]
                exact jlt2 (p := fun j => tabF (fun x j => [D.str [], D.str []].getD j default) [(0, [D.str k, D.str v])] 0 j = (encRow (k, v)).getD j default) rfl rfl j hj
              · rw [if_neg (by omega)]
                simp only [cellOf, getD_ins place_le, if_neg (show ¬ i < placeF rows k false by omega), if_neg (show ¬ i = placeF rows k false by omega)]
                rw [show placeF rows k false + (i - (placeF rows k false + 1)) = placeF rows k false + (i - placeF rows k false - 1) by omega]))
    | trace_state
end Go.Proofs.Ytfjiffbacallhaa
