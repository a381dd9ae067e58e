/- Contracts of functions that the law reaches: YtfjiffbacallhaaFull. Written for this claim. -/
import Derived.Test.YtfjiffbacallhaaPuts
import Derived.Test.YtfjiffbacallhaaSxTab
namespace Go.Proofs.Ytfjiffbacallhaa
open Go Go.Sx Go.ChangeShapes Go.WideShapes Go.ChangeAt Go.WideMaps Go.WideElems Go.RowKit
set_option linter.unusedVariables false
set_option linter.unusedSimpArgs false
set_option maxRecDepth 100000
theorem wrapu8_of {n : Int} (h1 : 0 ≤ n) (h2 : n < 256) : IntKind.u8.wrap n = n := by
  simp [IntKind.wrap, IntKind.bits, IntKind.signed]
  omega
def dg (d : Nat) : UInt8 := UInt8.ofNat (48 + d)
theorem dg_lt {d e : Nat} (hd : d < 10) (he : e < 10) : dg d < dg e ↔ d < e := by
  unfold dg
  rw [UInt8.lt_iff_toNat_lt, UInt8.toNat_ofNat', UInt8.toNat_ofNat']
  omega
theorem dg_eq {d e : Nat} (hd : d < 10) (he : e < 10) : dg d = dg e ↔ d = e := by
  constructor
  · intro h
    have := congrArg UInt8.toNat h
    unfold dg at this
    rw [UInt8.toNat_ofNat', UInt8.toNat_ofNat'] at this
    omega
  · rintro rfl; rfl
def mkRow (i : Nat) : Row := ([dg (i / 1000 % 10), dg (i / 100 % 10), dg (i / 10 % 10), dg (i % 10)], [])
def manyF (n : Nat) : List Row := (List.range n).map mkRow
theorem many_succ {i : Nat} : manyF (i + 1) = manyF i ++ [mkRow i] := by simp [manyF, List.range_succ]
theorem many_len {n : Nat} : (manyF n).length = n := by simp [manyF]
theorem mk_less {i j : Nat} (h : i < j) (hj : j < 10000) : Op.bytesLess (mkRow i).1 (mkRow j).1 = true := by
  have m : ∀ n, n % 10 < 10 := fun n => Nat.mod_lt _ (by decide)
  simp only [mkRow, Op.bytesLess, Bool.or_eq_true, Bool.and_eq_true, decide_eq_true_eq, beq_iff_eq, dg_lt (m _) (m _), dg_eq (m _) (m _), Bool.false_eq_true, and_false, or_false]
  have key : ∀ a b c d a' b' c' d' : Nat, b < 10 → c < 10 → d < 10 → b' < 10 → c' < 10 → d' < 10 → 1000 * a + 100 * b + 10 * c + d < 1000 * a' + 100 * b' + 10 * c' + d' →
      a < a' ∨ a = a' ∧ (b < b' ∨ b = b' ∧ (c < c' ∨ c = c' ∧ d < d')) := by
    intro a b c d a' b' c' d' _ _ _ _ _ _ _
    omega
  exact key _ _ _ _ _ _ _ _ (m _) (m _) (m _) (m _) (m _) (m _) (by omega)
theorem many_sorted {n : Nat} (h : n ≤ 10000) : Sorted (manyF n) := by
  rw [Sorted, manyF, List.pairwise_map]
  exact (List.pairwise_lt_range (n := n)).imp_of_mem (fun ha hb hab => mk_less hab (by have := List.mem_range.1 hb; omega))
theorem many_ok {n : Nat} : ∀ r ∈ manyF n, rowOk r = true := by
  intro r hr
  simp only [manyF, List.mem_map] at hr
  obtain ⟨i, _, rfl⟩ := hr
  simp [rowOk, mkRow]
theorem many_drop {n k : Nat} (h : n ≤ 10000) (hl : n - k ≤ 1024) : TabOk ((manyF n).drop k) :=
  ⟨by rw [List.length_drop, many_len]; exact hl, fun r hr => many_ok r (List.mem_of_mem_drop hr), (many_sorted h).sub (List.drop_sublist _ _)⟩
theorem digit_of {d : Nat} (hd : d < 10) : IntKind.u8.wrap (IntKind.i64.wrap (48 + (d : Int))) = ((48 + d : Nat) : Int) := by
  rw [wrap_of (by omega) (by omega), wrapu8_of (by omega) (by omega)]
  omega
theorem digit_mod {d : Nat} (hd : d < 10000) : IntKind.u8.wrap (IntKind.i64.wrap (48 + ((d : Int)).tmod 10)) = ((48 + d % 10 : Nat) : Int) := by
  rw [Int.tmod_eq_emod_of_nonneg (by omega), show (d : Int) % 10 = ((d % 10 : Nat) : Int) by omega]
  exact digit_of (Nat.mod_lt _ (by decide))
theorem digit_eq {i q : Nat} (hi : i < 10000) : IntKind.u8.wrap (IntKind.i64.wrap (48 + (IntKind.i64.wrap ((i : Int).tdiv (q : Int))).tmod 10)) = ((48 + i / q % 10 : Nat) : Int) := by
  have h2 : i / q ≤ i := Nat.div_le_self _ _
  have h1 : (i : Int).tdiv (q : Int) = ((i / q : Nat) : Int) := by rw [Int.tdiv_eq_ediv_of_nonneg (by omega)]; rfl
  have key : ∀ d : Nat, d ≤ i → IntKind.u8.wrap (IntKind.i64.wrap (48 + (IntKind.i64.wrap (d : Int)).tmod 10)) = ((48 + d % 10 : Nat) : Int) := fun d hd => by
    rw [wrap_of (n := (d : Int)) (by omega) (by omega)]
    exact digit_mod (by omega)
  rw [h1]
  exact key _ h2
theorem many_spec (n : Nat) : n ≤ 2000 → Sx.Spec Try.prog GG 4 [.d (.int .i64 n)] [] (.d (encL encRow 2 (manyF n))) [] := by
  intro hn
  refine spec_intro (E := EE) (fn := Try.f4) eok (by kernel_rfl) (by kernel_rfl) Try.call4 (by kernel_rfl) (by kernel_rfl) ?_
  conv => whnf
  repeat' first
    | (refine bc_true (by assumption) ?_; (conv => whnf))
    | (refine bc_false (by assumption) ?_; (conv => whnf))
    | (refine bc_intro (fun _ => ?_) (fun _ => ?_) <;> (conv => whnf))
    | (refine need_intro ?_ ?_; (conv => whnf))
    | (refine wk_refl ?_; (conv => whnf))
    | (refine draw_intro (by kernel_rfl) ?_; (conv => whnf))
    | (refine ord_intro (by kernel_rfl) ?_; (conv => whnf))
  refine loop_auto [0] [] (fun i : Nat => [(3, .osl 500 2 0 i), (4, .d (.int .i64 i))]) (fun i => [(500, .row 25 2 i (cellOf encRow (manyF i)))]) (fun i => i ≤ n) (fun i => n - i) 0 ?_ (fun i hi => ?_) (Nat.zero_le _)
  · conv => whnf
    repeat' first
      | (refine bc_true (by assumption) ?_; (conv => whnf))
      | (refine bc_false (by assumption) ?_; (conv => whnf))
      | (refine bc_intro (fun _ => ?_) (fun _ => ?_) <;> (conv => whnf))
      | (refine need_intro ?_ ?_; (conv => whnf))
      | (refine wk_refl ?_; (conv => whnf))
      | (refine draw_intro (by kernel_rfl) ?_; (conv => whnf))
      | (refine ord_intro (by kernel_rfl) ?_; (conv => whnf))
    all_goals first | exact ⟨rfl, rfl⟩ | exact ⟨rfl, rfl, rfl⟩ | exact DLe.refl _ | exact RowLe.refl _ _ _ | exact trivial
  · have hs : IntKind.i64.wrap ((i : Int) + 1) = ((i + 1 : Nat) : Int) := wrap_succ (n := 2001) (by omega) (by omega)
    have e1 : i < n → IntKind.u8.wrap (IntKind.i64.wrap (48 + (IntKind.i64.wrap ((i : Int).tdiv 1000)).tmod 10)) = ((48 + i / 1000 % 10 : Nat) : Int) := fun h => digit_eq (q := 1000) (by omega)
    have e2 : i < n → IntKind.u8.wrap (IntKind.i64.wrap (48 + (IntKind.i64.wrap ((i : Int).tdiv 100)).tmod 10)) = ((48 + i / 100 % 10 : Nat) : Int) := fun h => digit_eq (q := 100) (by omega)
    have e3 : i < n → IntKind.u8.wrap (IntKind.i64.wrap (48 + (IntKind.i64.wrap ((i : Int).tdiv 10)).tmod 10)) = ((48 + i / 10 % 10 : Nat) : Int) := fun h => digit_eq (q := 10) (by omega)
    have e4 : i < n → IntKind.u8.wrap (IntKind.i64.wrap (48 + ((i : Int)).tmod 10)) = ((48 + i % 10 : Nat) : Int) := fun h => digit_mod (by omega)
    conv => whnf
    repeat' first
      | (refine NextVC.mk (i + 1) ?_ ?_ ?_; (conv => whnf))
      | (refine bc_true (by assumption) ?_; (conv => whnf))
      | (refine bc_false (by assumption) ?_; (conv => whnf))
      | (refine bc_intro (fun _ => ?_) (fun _ => ?_) <;> (conv => whnf))
      | (refine need_intro ?_ ?_; (conv => whnf))
      | (refine wk_refl ?_; (conv => whnf))
      | (refine draw_intro (by kernel_rfl) ?_; (conv => whnf))
      | (refine ord_intro (by kernel_rfl) ?_; (conv => whnf))
    all_goals try simp only [decide_eq_true_eq, decide_eq_false_iff_not, cellsRow, bytesRow, true_and] at *
    all_goals first
      | exact trivial
      | omega
      | exact DLe.refl _
      | exact DLe.of_eq (by rw [hs])
      | exact ⟨by omega, by omega⟩
      | exact rfl
      | (rw [many_succ]
         refine row_snoc many_len.symm (RowLe.refl _ _ _) (jlt2 (DLe.of_eq ?_) (DLe.of_eq rfl))
         show D.str [UInt8.ofNat (_ : Int).toNat, UInt8.ofNat (_ : Int).toNat, UInt8.ofNat (_ : Int).toNat, UInt8.ofNat (_ : Int).toNat] = D.str [dg _, dg _, dg _, dg _]
         rw [e1 (by omega), e2 (by omega), e3 (by omega), e4 (by omega)]
         rfl)
      | exact ⟨les_row (by rw [many_len]; omega) (by rw [show i = n by omega]; exact RowLe.refl _ _ _), trivial⟩
      | trace_state
theorem many_tab {n : Nat} (h : n ≤ 1024) : TabOk (manyF n) := by
  have := many_drop (n := n) (k := 0) (by omega) (by omega)
  simpa using this
theorem dg_x (d : Nat) (h : d < 10) : dg d < 120 := by
  unfold dg
  rw [UInt8.lt_iff_toNat_lt, UInt8.toNat_ofNat']
  show (48 + d) % 2 ^ 8 < 120
  omega
theorem mk_x (i : Nat) : Op.bytesLess (mkRow i).1 [120] = true := by
  have := dg_x (i / 1000 % 10) (Nat.mod_lt _ (by decide))
  simp [mkRow, Op.bytesLess, this]
theorem many_x {n : Nat} : ∀ r ∈ manyF n, Op.bytesLess r.1 [120] = true := by
  intro r hr
  simp only [manyF, List.mem_map] at hr
  obtain ⟨i, _, rfl⟩ := hr
  exact mk_x i
theorem many_at (n : Int) : (0 ≤ n ∧ n ≤ 2000) → Sx.Spec Try.prog GG 4 [.d (.int .i64 n)] [] (.d (encL encRow 2 (manyF n.toNat))) [] := by
  intro h
  have := many_spec n.toNat (by omega)
  rw [Int.toNat_of_nonneg h.1] at this
  exact this
theorem put_at (F : List Row) (k v : List UInt8) {n : Nat} {g : Nat → Nat → D} : (n = F.length ∧ RowLe n 2 g (cellOf encRow F)) → Sx.Spec Try.prog GG 6 [.d (.list n 2 g), .agg [.d (.str k), .d (.str v)]] [] (.tup [.d (encL encRow 2 (putF F k v).1), .d (.int .i64 (putF F k v).2)]) [] := by
  rintro ⟨rfl, hg⟩
  exact (putp_spec F k v).arg (LeL.cons (LeS.d (DLe.rows rfl hg)) (LeL.cons (LeS.refl _) LeL.nil))
theorem one_valid : validT [(([120] : List UInt8), ([] : List UInt8))] = true := by decide
theorem range_x : validR [120] false [] true = true := by decide
theorem in_x : containsR [120] false [] true [120] = true := by decide
theorem out_x {k : List UInt8} (h : Op.bytesLess k [120] = true) : containsR [120] false [] true k = false := by
  have e : cmpB k false [120] false = -1 := by simp [cmpB, h]
  have e2 : cmpB [120] false k false = 1 := by
    have h2 : Op.bytesLess [120] k = false := bl_asymm h
    have h3 : ([120] : List UInt8) ≠ k := by rintro rfl; simp [bl_irrefl] at h
    simp [cmpB, h, h2]
  simp [containsR, e2]
theorem row_more {F : List Row} {i : Nat} : RowLe (i + 1) 2 (fun a j => if a < i then cellOf encRow F a j else tabF (fun x j => [D.str [], D.str []].getD j default) [(0, [cellOf encRow F i 0, cellOf encRow F i (0 + 1)])] (a - i) j) (cellOf encRow F) := by
  refine ⟨fun a j ha hj => ?_⟩
  by_cases e : a < i
  · simp only [e, if_true]; exact DLe.refl _
  · have e2 : a = i := by omega
    subst e2
    simp only [Nat.lt_irrefl, if_false, Nat.sub_self]
    match j, hj with
    | 0, _ => exact DLe.of_eq rfl
    | 1, _ => exact DLe.of_eq rfl
theorem replace_full {m : Nat} {g : Nat → Nat → D} (F : List Row) : ((TabOk F ∧ F.length = 1024) ∧ (∀ r ∈ F, Op.bytesLess r.1 [120] = true) ∧ m = 1 ∧ RowLe 1 2 g (cellOf encRow [(([120] : List UInt8), ([] : List UInt8))])) →
    Sx.Spec Try.prog GG 7 [.d (encL encRow 2 F), .agg [.d (.str [120]), .d (.bool false), .d (.str []), .d (.bool true)], .d (.list m 2 g)] [] (.tup [.d (encL encRow 2 ([] : List Row)), .d (.int .i64 16)]) [] := by
  rintro ⟨⟨hF, hl⟩, hx, rfl, hg⟩
  have hv : (!validT F) = false := by rw [validT_iff.2 hF]; rfl
  have hv1 : (!validT [(([120] : List UInt8), ([] : List UInt8))]) = false := by rw [one_valid]; rfl
  have hr : (!validR [120] false [] true) = false := by rw [range_x]; rfl
  have hr1 := range_x
  have base : Sx.Spec Try.prog GG 7 [.d (encL encRow 2 F), .agg [.d (.str [120]), .d (.bool false), .d (.str []), .d (.bool true)], .d (encL encRow 2 [(([120] : List UInt8), ([] : List UInt8))])] [] (.tup [.d (encL encRow 2 ([] : List Row)), .d (.int .i64 16)]) [] := by
    refine spec_intro (E := EE) (fn := Try.f7) eok (by kernel_rfl) (by kernel_rfl) Try.call7 (by kernel_rfl) (by kernel_rfl) ?_
    conv => whnf
    repeat' first
      | (refine call_intro (validTp_spec _) ?_ (by first | exact .inl rfl | exact .inr ⟨rfl, rfl⟩); (conv => whnf))
      | (refine call_intro (validRp_spec _ _ _ _) ?_ (by first | exact .inl rfl | exact .inr ⟨rfl, rfl⟩); (conv => whnf))
      | (refine call_intro (containsRp_spec _ _ _ _ _) ?_ (by first | exact .inl rfl | exact .inr ⟨rfl, rfl⟩); (conv => whnf))
      | (refine bc_true (by assumption) ?_; (conv => whnf))
      | (refine bc_false (by assumption) ?_; (conv => whnf))
      | (refine bc_intro (fun _ => ?_) (fun _ => ?_) <;> (conv => whnf))
      | (refine need_intro ?_ ?_; (conv => whnf))
      | (refine wk_refl ?_; (conv => whnf))
      | (refine draw_intro (by kernel_rfl) ?_; (conv => whnf))
      | (refine ord_intro (by kernel_rfl) ?_; (conv => whnf))
    refine loop_auto [0, 2, 4, 24, 25] [4] (fun i : Nat => [(26, .d (.int .i64 i))]) (fun i => []) (fun i => i ≤ 1) (fun i => 1 - i) 0 ?_ (fun i hi => ?_) (Nat.zero_le _)
    · conv => whnf
      repeat' first
        | (refine bc_true (by assumption) ?_; (conv => whnf))
        | (refine bc_false (by assumption) ?_; (conv => whnf))
        | (refine bc_intro (fun _ => ?_) (fun _ => ?_) <;> (conv => whnf))
        | (refine need_intro ?_ ?_; (conv => whnf))
        | (refine wk_refl ?_; (conv => whnf))
        | (refine draw_intro (by kernel_rfl) ?_; (conv => whnf))
        | (refine ord_intro (by kernel_rfl) ?_; (conv => whnf))
      all_goals first | exact ⟨rfl, rfl⟩ | exact ⟨rfl, rfl, rfl⟩ | exact DLe.refl _ | exact RowLe.refl _ _ _ | exact trivial
    · have hs : IntKind.i64.wrap ((i : Int) + 1) = ((i + 1 : Nat) : Int) := wrap_succ (n := 100) (by omega) (by omega)
      rcases (show i = 0 ∨ i = 1 by omega) with rfl | rfl
      · have hi1 : (!containsR [120] false [] true (([(([120] : List UInt8), ([] : List UInt8))] : List Row).getD (Int.toNat (0 : Nat)) default).1) = false := by show (!containsR [120] false [] true [120]) = false; rw [in_x]; rfl
        conv => whnf
        repeat' first
          | (refine call_intro (validTp_spec _) ?_ (by first | exact .inl rfl | exact .inr ⟨rfl, rfl⟩); (conv => whnf))
          | (refine call_intro (validRp_spec _ _ _ _) ?_ (by first | exact .inl rfl | exact .inr ⟨rfl, rfl⟩); (conv => whnf))
          | (refine call_intro (containsRp_spec _ _ _ _ _) ?_ (by first | exact .inl rfl | exact .inr ⟨rfl, rfl⟩); (conv => whnf))
          | (refine NextVC.mk 1 ?_ ?_ ?_; (conv => whnf))
          | (refine bc_true (by assumption) ?_; (conv => whnf))
          | (refine bc_false (by assumption) ?_; (conv => whnf))
          | (refine bc_intro (fun _ => ?_) (fun _ => ?_) <;> (conv => whnf))
          | (refine need_intro ?_ ?_; (conv => whnf))
          | (refine wk_refl ?_; (conv => whnf))
          | (refine draw_intro (by kernel_rfl) ?_; (conv => whnf))
          | (refine ord_intro (by kernel_rfl) ?_; (conv => whnf))
        all_goals first
          | exact trivial
          | exact DLe.refl _
          | exact DLe.of_eq (by rw [hs])
          | omega
          | exact ⟨by omega, by omega⟩
          | (simp at *; done)
          | trace_state
      · have hd : decide (((1 : Nat) : Int) < (([(([120] : List UInt8), ([] : List UInt8))] : List Row).length : Int)) = false := by decide
        conv => whnf
        repeat' first
          | (refine bc_true (by assumption) ?_; (conv => whnf))
          | (refine bc_false (by assumption) ?_; (conv => whnf))
          | (refine need_intro ?_ ?_; (conv => whnf))
          | (refine wk_refl ?_; (conv => whnf))
          | (refine draw_intro (by kernel_rfl) ?_; (conv => whnf))
          | (refine ord_intro (by kernel_rfl) ?_; (conv => whnf))
        all_goals try first
          | exact trivial
          | exact DLe.refl _
          | omega
          | exact ⟨by omega, by omega⟩
        refine loop_auto [0, 2, 4, 10, 36, 37] [4] (fun i : Nat => [(38, .d (.int .i64 i))]) (fun i => [(10, .box [.osl 500 2 0 i]), (500, .row 25 2 i (cellOf encRow F))]) (fun i => i ≤ 1024) (fun i => 1024 - i) 0 ?_ (fun i hi => ?_) (Nat.zero_le _)
        · conv => whnf
          repeat' first
            | (refine bc_true (by assumption) ?_; (conv => whnf))
            | (refine bc_false (by assumption) ?_; (conv => whnf))
            | (refine bc_intro (fun _ => ?_) (fun _ => ?_) <;> (conv => whnf))
            | (refine need_intro ?_ ?_; (conv => whnf))
            | (refine wk_refl ?_; (conv => whnf))
            | (refine draw_intro (by kernel_rfl) ?_; (conv => whnf))
            | (refine ord_intro (by kernel_rfl) ?_; (conv => whnf))
          all_goals first | exact ⟨rfl, rfl⟩ | exact ⟨rfl, rfl, rfl⟩ | exact DLe.refl _ | exact RowLe.refl _ _ _ | exact trivial
        · have hs : IntKind.i64.wrap ((i : Int) + 1) = ((i + 1 : Nat) : Int) := wrap_succ (n := 2000) (by omega) (by omega)
          have hc : i < 1024 → (!containsR [120] false [] true (F.getD (Int.toNat (i : Int)) default).1) = true := fun h => by
            rw [out_x (hx _ (getD_memT (by rw [Int.toNat_natCast]; omega)))]; rfl
          conv => whnf
          repeat' first
            | (refine call_intro (containsRp_spec _ _ _ _ _) ?_ (by first | exact .inl rfl | exact .inr ⟨rfl, rfl⟩); (conv => whnf))
            | (refine NextVC.mk (i + 1) ?_ ?_ ?_; (conv => whnf))
            | (refine bc_true (by assumption) ?_; (conv => whnf))
            | (refine bc_false (by assumption) ?_; (conv => whnf))
            | (refine bc_intro (fun _ => ?_) (fun _ => ?_) <;> (conv => whnf))
            | (refine need_intro ?_ ?_; (conv => whnf))
            | (refine wk_refl ?_; (conv => whnf))
            | (refine draw_intro (by kernel_rfl) ?_; (conv => whnf))
            | (refine ord_intro (by kernel_rfl) ?_; (conv => whnf))
          all_goals try simp only [decide_eq_true_eq, decide_eq_false_iff_not, cellsRow, bytesRow, true_and, and_true, Int.toNat_natCast] at *
          all_goals first
            | exact trivial
            | exact DLe.refl _
            | exact DLe.of_eq (by rw [hs])
            | omega
            | exact ⟨by omega, by omega⟩
            | exact ⟨rfl, rfl⟩
            | (exfalso; have := hc (by omega); simp_all; done)
            | exact row_more
            | (exfalso
               obtain rfl : i = 1024 := by omega
               rename_i z
               exact absurd z (by decide))
            | exact ⟨LeS.tup (LeL.cons (les_nil rfl) (LeL.cons (LeS.refl _) LeL.nil)), trivial⟩
            | trace_state
  exact base.arg (LeL.cons (LeS.refl _) (LeL.cons (LeS.refl _) (LeL.cons (LeS.d (DLe.rows rfl hg)) LeL.nil)))
end Go.Proofs.Ytfjiffbacallhaa
