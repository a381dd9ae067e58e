/- Contracts of functions that the law reaches: YtfjiffbacallhaaBase. Written for this claim. -/
import Derived.Test.YtfjiffbacallhaaSxTab
import Derived.Test.YtfjiffbacallhaaRows
import Derived.Test.YtfjiffbacallhaaProg
namespace Go.Proofs.Ytfjiffbacallhaa
open Go Go.Sx Go.ChangeShapes Go.WideShapes Go.ChangeAt Go.RowKit
set_option linter.unusedVariables false
set_option linter.unusedSimpArgs false
set_option maxRecDepth 100000
abbrev EE : List Nat := [25, 33, 35, 53]
theorem eok : EOk Try.prog EE := by
  refine ⟨by kernel_rfl, ?_⟩
  intro T hT
  simp only [memN_iff] at hT
  simp only [List.mem_cons, List.not_mem_nil, or_false] at hT
  rcases hT with rfl | rfl | rfl | rfl <;> exact ⟨by kernel_rfl, by kernel_rfl⟩
def GG : Nat → Option (Nat × (Nat → D))
  | _ => none
theorem validKeyp_spec (k : List UInt8) : Sx.Spec Try.prog GG 20 [.d (.str k)] [] (.d (.bool (decide ((k.length : Int) ≤ 64)))) [] := by
  refine spec_intro (E := EE) (fn := Try.f20) eok (by kernel_rfl) (by kernel_rfl) Try.call20 (by kernel_rfl) (by kernel_rfl) ?_
  conv => whnf
  repeat' first
    | (refine bc_true (by assumption) ?_; (conv => whnf))
    | (refine bc_false (by assumption) ?_; (conv => whnf))
    | (refine bc_intro (fun _ => ?_) (fun _ => ?_) <;> (conv => whnf))
    | (refine need_intro ?_ ?_; (conv => whnf))
    | (refine wk_refl ?_; (conv => whnf))
    | (refine draw_intro (by kernel_rfl) ?_; (conv => whnf))
    | (refine ord_intro (by kernel_rfl) ?_; (conv => whnf))
  exact ⟨LeS.refl _, trivial⟩
theorem validBoundp_spec (k : List UInt8) (t : Bool) : Sx.Spec Try.prog GG 24 [.agg [.d (.str k), .d (.bool t)]] [] (.d (.bool (validB k t))) [] := by
  refine spec_intro (E := EE) (fn := Try.f24) eok (by kernel_rfl) (by kernel_rfl) Try.call24 (by kernel_rfl) (by kernel_rfl) ?_
  conv => whnf
  repeat' first
    | (refine call_intro (validKeyp_spec _) ?_ (by first | exact .inl rfl | exact .inr ⟨rfl, rfl⟩); (conv => whnf))
    | (refine bc_true (by assumption) ?_; (conv => whnf))
    | (refine bc_false (by assumption) ?_; (conv => whnf))
    | (refine bc_intro (fun _ => ?_) (fun _ => ?_) <;> (conv => whnf))
    | (refine need_intro ?_ ?_; (conv => whnf))
    | (refine wk_refl ?_; (conv => whnf))
    | (refine draw_intro (by kernel_rfl) ?_; (conv => whnf))
    | (refine ord_intro (by kernel_rfl) ?_; (conv => whnf))
  all_goals exact ⟨LeS.of_eq (by first | (simp_all [validB]; done) | (simp_all [validB]; omega) | (simp_all [validB]; intros; omega)), trivial⟩
theorem comparep_spec (ak : List UInt8) (a : Bool) (bk : List UInt8) (b : Bool) : Sx.Spec Try.prog GG 23 [.agg [.d (.str ak), .d (.bool a)], .agg [.d (.str bk), .d (.bool b)]] [] (.d (.int .i64 (cmpB ak a bk b))) [] := by
  refine spec_intro (E := EE) (fn := Try.f23) eok (by kernel_rfl) (by kernel_rfl) Try.call23 (by kernel_rfl) (by kernel_rfl) ?_
  conv => whnf
  repeat' first
    | (refine bc_true (by assumption) ?_; (conv => whnf))
    | (refine bc_false (by assumption) ?_; (conv => whnf))
    | (refine bc_intro (fun _ => ?_) (fun _ => ?_) <;> (conv => whnf))
    | (refine need_intro ?_ ?_; (conv => whnf))
    | (refine wk_refl ?_; (conv => whnf))
    | (refine draw_intro (by kernel_rfl) ?_; (conv => whnf))
    | (refine ord_intro (by kernel_rfl) ?_; (conv => whnf))
  all_goals try simp only [bl_gtr] at *
  all_goals exact ⟨LeS.of_eq (by first | (simp_all [cmpB]; done) | (simp_all [cmpB, bl_asymm]; done)), trivial⟩
theorem validRp_spec (lk : List UInt8) (lt : Bool) (hk : List UInt8) (ht : Bool) : Sx.Spec Try.prog GG 15 [.agg [.d (.str lk), .d (.bool lt), .d (.str hk), .d (.bool ht)]] [] (.d (.bool (validR lk lt hk ht))) [] := by
  refine spec_intro (E := EE) (fn := Try.f15) eok (by kernel_rfl) (by kernel_rfl) Try.call15 (by kernel_rfl) (by kernel_rfl) ?_
  conv => whnf
  repeat' first
    | (refine call_intro (validBoundp_spec _ _) ?_ (by first | exact .inl rfl | exact .inr ⟨rfl, rfl⟩); (conv => whnf))
    | (refine call_intro (comparep_spec _ _ _ _) ?_ (by first | exact .inl rfl | exact .inr ⟨rfl, rfl⟩); (conv => whnf))
    | (refine bc_true (by assumption) ?_; (conv => whnf))
    | (refine bc_false (by assumption) ?_; (conv => whnf))
    | (refine bc_intro (fun _ => ?_) (fun _ => ?_) <;> (conv => whnf))
    | (refine need_intro ?_ ?_; (conv => whnf))
    | (refine wk_refl ?_; (conv => whnf))
    | (refine draw_intro (by kernel_rfl) ?_; (conv => whnf))
    | (refine ord_intro (by kernel_rfl) ?_; (conv => whnf))
  all_goals exact ⟨LeS.of_eq (by first | (simp_all [validR]; done) | (simp_all [validR]; omega) | (simp_all [validR]; intros; omega)), trivial⟩
theorem emptyRp_spec (lk : List UInt8) (lt : Bool) (hk : List UInt8) (ht : Bool) : Sx.Spec Try.prog GG 25 [.agg [.d (.str lk), .d (.bool lt), .d (.str hk), .d (.bool ht)]] [] (.d (.bool (emptyR lk lt hk ht))) [] := by
  refine spec_intro (E := EE) (fn := Try.f25) eok (by kernel_rfl) (by kernel_rfl) Try.call25 (by kernel_rfl) (by kernel_rfl) ?_
  conv => whnf
  repeat' first
    | (refine call_intro (validRp_spec _ _ _ _) ?_ (by first | exact .inl rfl | exact .inr ⟨rfl, rfl⟩); (conv => whnf))
    | (refine call_intro (comparep_spec _ _ _ _) ?_ (by first | exact .inl rfl | exact .inr ⟨rfl, rfl⟩); (conv => whnf))
    | (refine bc_true (by assumption) ?_; (conv => whnf))
    | (refine bc_false (by assumption) ?_; (conv => whnf))
    | (refine bc_intro (fun _ => ?_) (fun _ => ?_) <;> (conv => whnf))
    | (refine need_intro ?_ ?_; (conv => whnf))
    | (refine wk_refl ?_; (conv => whnf))
    | (refine draw_intro (by kernel_rfl) ?_; (conv => whnf))
    | (refine ord_intro (by kernel_rfl) ?_; (conv => whnf))
  all_goals exact ⟨LeS.of_eq (by first | (simp_all [emptyR]; done) | (simp_all [emptyR]; omega) | (simp_all [emptyR]; intros; omega)), trivial⟩
theorem containsRp_spec (lk : List UInt8) (lt : Bool) (hk : List UInt8) (ht : Bool) (k : List UInt8) : Sx.Spec Try.prog GG 16 [.agg [.d (.str lk), .d (.bool lt), .d (.str hk), .d (.bool ht)], .d (.str k)] [] (.d (.bool (containsR lk lt hk ht k))) [] := by
  refine spec_intro (E := EE) (fn := Try.f16) eok (by kernel_rfl) (by kernel_rfl) Try.call16 (by kernel_rfl) (by kernel_rfl) ?_
  conv => whnf
  repeat' first
    | (refine call_intro (validKeyp_spec _) ?_ (by first | exact .inl rfl | exact .inr ⟨rfl, rfl⟩); (conv => whnf))
    | (refine call_intro (emptyRp_spec _ _ _ _) ?_ (by first | exact .inl rfl | exact .inr ⟨rfl, rfl⟩); (conv => whnf))
    | (refine call_intro (comparep_spec _ _ _ _) ?_ (by first | exact .inl rfl | exact .inr ⟨rfl, rfl⟩); (conv => whnf))
    | (refine bc_true (by assumption) ?_; (conv => whnf))
    | (refine bc_false (by assumption) ?_; (conv => whnf))
    | (refine bc_intro (fun _ => ?_) (fun _ => ?_) <;> (conv => whnf))
    | (refine need_intro ?_ ?_; (conv => whnf))
    | (refine wk_refl ?_; (conv => whnf))
    | (refine draw_intro (by kernel_rfl) ?_; (conv => whnf))
    | (refine ord_intro (by kernel_rfl) ?_; (conv => whnf))
  all_goals exact ⟨LeS.of_eq (by first | (simp_all [containsR]; done) | (simp_all [containsR]; omega) | (simp_all [containsR]; intros; omega)), trivial⟩
structure TapeOk (l : List Int) (a : Nat) : Prop where
  h1 : l.length ≤ 600
  h2 : a ≤ l.length
  h3 : ∀ x ∈ l, -9223372036854775808 ≤ x ∧ x < 9223372036854775808
theorem TapeOk.get {l : List Int} {a i : Nat} (h : TapeOk l a) (hi : i < l.length) : -9223372036854775808 ≤ l.getD i default ∧ l.getD i default < 9223372036854775808 := by
  have : l.getD i default = l[i] := by simp [List.getD, hi]
  rw [this]
  exact h.h3 _ (List.getElem_mem hi)
theorem mod_spec (v n : Int) : ((0 < n ∧ n < 9223372036854775808) ∧ -9223372036854775808 ≤ v ∧ v < 9223372036854775808) → Sx.Spec Try.prog GG 5 [.d (.int .i64 v), .d (.int .i64 n)] [] (.d (.int .i64 (v % n))) [] := by
  rintro ⟨hn, hv⟩
  have r1 := Int.tmod_lt_of_pos v hn.1
  have r2 := Int.lt_tmod_of_pos v hn.1
  have e0 : v % n = if v.tmod n < 0 then v.tmod n + n else v.tmod n := by
    have h1 := Int.tmod_add_mul_tdiv v n
    have h2 := Int.emod_add_mul_ediv v n
    have h3 := Int.emod_nonneg v (by omega : n ≠ 0)
    have h4 := Int.emod_lt_of_pos v hn.1
    rw [Int.tmod_eq_emod]
    split <;> split at * <;> omega
  refine spec_intro (E := EE) (fn := Try.f5) eok (by kernel_rfl) (by kernel_rfl) Try.call5 (by kernel_rfl) (by kernel_rfl) ?_
  conv => whnf
  repeat' first
    | (refine bc_true (by assumption) ?_; (conv => whnf))
    | (refine bc_false (by assumption) ?_; (conv => whnf))
    | (refine bc_intro (fun _ => ?_) (fun _ => ?_) <;> (conv => whnf))
    | (refine need_intro ?_ ?_; (conv => whnf))
    | (refine wk_refl ?_; (conv => whnf))
    | (refine draw_intro (by kernel_rfl) ?_; (conv => whnf))
    | (refine ord_intro (by kernel_rfl) ?_; (conv => whnf))
  all_goals try simp only [decide_eq_true_eq, decide_eq_false_iff_not] at *
  all_goals first
    | omega
    | (refine ⟨LeS.of_eq ?_, trivial⟩; rw [wrap_of (by omega) (by omega), e0, if_pos (by assumption)])
    | (refine ⟨LeS.of_eq ?_, trivial⟩; rw [e0, if_neg (by assumption)])
theorem cellsRow : Try.prog.cellsOf 25 = 2 := by kernel_rfl
theorem bytesRow : Try.prog.bytesOf 25 = 32 := by kernel_rfl
/-- a table of at most n rows whose keys a range contains -/
structure RowsQ (lk : List UInt8) (lt : Bool) (hk : List UInt8) (ht : Bool) (n : Int) (rows : List Row) : Prop where
  ok : TabOk rows
  len : (rows.length : Int) ≤ n
  within : ∀ r ∈ rows, containsR lk lt hk ht r.1 = true
theorem RowsQ.nil {lk : List UInt8} {lt : Bool} {hk : List UInt8} {ht : Bool} {n : Int} (h : 0 ≤ n) : RowsQ lk lt hk ht n [] := ⟨tabOk_nil, by simpa using h, by simp⟩
theorem RowsQ.put {lk : List UInt8} {lt : Bool} {hk : List UInt8} {ht : Bool} {n : Int} {rows : List Row} {k v : List UInt8} (h : RowsQ lk lt hk ht n rows) (hc : containsR lk lt hk ht k = true) : RowsQ lk lt hk ht (n + 1) (putF rows k v).1 := by
  have hp := put_ok (k := k) (v := v) h.ok
  have hl := h.len
  refine ⟨hp.1, by omega, fun r hr => ?_⟩
  unfold putF at hr
  split at hr
  · simp at hr
  · split at hr
    · simp at hr
    · rcases ins_mem.1 hr with rfl | hr
      · exact hc
      · exact h.within r (without_ne hr).1
theorem slicep_spec (rows : List Row) (lk : List UInt8) (lt : Bool) (hk : List UInt8) (ht : Bool) : rows.length ≤ 1099511627776 → Sx.Spec Try.prog GG 11 [.d (encL encRow 2 rows), .agg [.d (.str lk), .d (.bool lt), .d (.str hk), .d (.bool ht)]] [] (.d (encL encRow 2 (sliceF rows lk lt hk ht))) [] := by
  intro hlen
  refine spec_intro (E := EE) (fn := Try.f11) eok (by kernel_rfl) (by kernel_rfl) Try.call11 (by kernel_rfl) (by kernel_rfl) ?_
  conv => whnf
  repeat' first
    | (refine bc_true (by assumption) ?_; (conv => whnf))
    | (refine bc_false (by assumption) ?_; (conv => whnf))
    | (refine bc_intro (fun _ => ?_) (fun _ => ?_) <;> (conv => whnf))
    | (refine need_intro ?_ ?_; (conv => whnf))
    | (refine wk_refl ?_; (conv => whnf))
    | (refine draw_intro (by kernel_rfl) ?_; (conv => whnf))
    | (refine ord_intro (by kernel_rfl) ?_; (conv => whnf))
  refine loop_auto [0, 3, 8, 9] [3] (fun i : Nat => [(5, .osl 500 2 0 (sliceF (rows.take i) lk lt hk ht).length), (10, .d (.int .i64 i))]) (fun i => [(500, .row 25 2 (sliceF (rows.take i) lk lt hk ht).length (cellOf encRow (sliceF (rows.take i) lk lt hk ht)))]) (fun i => i ≤ rows.length) (fun i => rows.length - i) 0 ?_ (fun i hi => ?_) (Nat.zero_le _)
  · conv => whnf
    repeat' first
      | (refine bc_true (by assumption) ?_; (conv => whnf))
      | (refine bc_false (by assumption) ?_; (conv => whnf))
      | (refine bc_intro (fun _ => ?_) (fun _ => ?_) <;> (conv => whnf))
      | (refine need_intro ?_ ?_; (conv => whnf))
      | (refine wk_refl ?_; (conv => whnf))
      | (refine draw_intro (by kernel_rfl) ?_; (conv => whnf))
      | (refine ord_intro (by kernel_rfl) ?_; (conv => whnf))
    all_goals first | exact ⟨rfl, rfl⟩ | exact ⟨rfl, rfl, rfl⟩ | exact DLe.refl _ | exact RowLe.refl _ _ _ | exact trivial
  · have hs : IntKind.i64.wrap ((i : Int) + 1) = ((i + 1 : Nat) : Int) := wrap_succ (n := 1099511627777) (by omega) (by omega)
    have hl : (sliceF (rows.take i) lk lt hk ht).length ≤ i := Nat.le_trans slice_len (by simp; omega)
    conv => whnf
    repeat' first
      | (refine call_intro (containsRp_spec _ _ _ _ _) ?_ (by first | exact .inl rfl | exact .inr ⟨rfl, rfl⟩); (conv => whnf))
      | (refine NextVC.mk (i + 1) ?_ ?_ ?_; (conv => whnf))
      | (refine bc_true (by assumption) ?_; (conv => whnf))
      | (refine bc_false (by assumption) ?_; (conv => whnf))
      | (refine bc_intro (fun _ => ?_) (fun _ => ?_) <;> (conv => whnf))
      | (refine need_intro ?_ ?_; (conv => whnf))
      | (refine wk_refl ?_; (conv => whnf))
      | (refine draw_intro (by kernel_rfl) ?_; (conv => whnf))
      | (refine ord_intro (by kernel_rfl) ?_; (conv => whnf))
    all_goals try simp only [decide_eq_true_eq, decide_eq_false_iff_not, Int.toNat_natCast, cellsRow, bytesRow, true_and, and_true] at *
    all_goals first
      | exact trivial
      | omega
      | exact DLe.refl _
      | exact RowLe.refl _ _ _
      | exact DLe.of_eq (by rw [hs])
      | exact ⟨by omega, by omega⟩
      | (rw [slice_keep (by omega) (by assumption)]; simp only [List.length_append, List.length_singleton]; done)
      | (rw [slice_drop (by omega) (by assumption)]; done)
      | (rw [slice_drop (by omega) (by assumption)]; exact RowLe.refl _ _ _)
      | (rw [slice_keep (by omega) (by assumption)]; simp only [List.length_append, List.length_singleton]; exact row_snoc rfl (RowLe.refl _ _ _) (jlt2 (DLe.of_eq rfl) (DLe.of_eq rfl)))
      | exact ⟨les_own (by rw [show i = rows.length by omega, List.take_length]), trivial⟩
      | trace_state
end Go.Proofs.Ytfjiffbacallhaa
