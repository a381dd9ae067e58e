/- Apply of Diff leads from each table to each other one, also if both are full. -/
import Derived.Test.YtkdofckkhdnmfaaDoorLay
import Derived.Test.YtkdofckkhdnmfaaDoorApply
import Derived.Test.YtkdofckkhdnmfaaDoorSxLead
namespace Go.Proofs.YtkdofckkhdnmfaaDoor
open Go Go.Sx Go.ChangeShapes Go.WideShapes Go.ChangeAt Go.WideMaps Go.WideElems Go.RowKit
set_option linter.unusedVariables false
set_option linter.unusedSimpArgs false
set_option maxRecDepth 100000
theorem go_len {ws : List Wr} : ∀ {rows : List Row}, TabOk rows → (goF rows ws).1.length ≤ 1024 := by
  induction ws with
  | nil => intro rows h; simpa [goF] using h.len
  | cons w ws ih =>
    intro rows h
    simp only [goF]
    split
    · exact ih (do_tab h (by assumption))
    · simp
theorem apply_len {rows : List Row} {ws : List Wr} : (applyF rows ws).1.length ≤ 1024 := by
  unfold applyF
  split
  · exact go_len (validT_iff.1 (by assumption))
  · simp
theorem diff_len {a b : List Row} : (diffF a b).length ≤ a.length + b.length := by
  unfold diffF
  split
  · rw [List.length_append]
    exact Nat.add_le_add collect_len collect_len
  · simp
theorem lead_del {ws2 : List Wr} : ∀ {ws1 : List Wr} {r : List Row}, TabOk r → (∀ w ∈ ws1, w.2.2 = true ∧ validW w.1 w.2.1 w.2.2 = true) →
    ∃ r', TabOk r' ∧ goF r (ws1 ++ ws2) = goF r' ws2 ∧ ∀ q, getF r' q = if q ∈ ws1.map (·.1) then ([], false) else getF r q
  | [], r, h, _ => ⟨r, h, rfl, fun q => by simp⟩
  | w :: ws1, r, h, hw => by
    have h1 := hw w (by simp)
    have hv := h1.2
    rw [h1.1] at hv
    have hd : doF r w = (withoutF r w.1, 0) := by simp [doF, h1.1, hv]
    have ht := do_tab (w := w) h (by rw [hd])
    rw [hd] at ht
    obtain ⟨r', k1, k2, k3⟩ := lead_del (ws1 := ws1) ht (fun x hx => hw x (by simp [hx]))
    refine ⟨r', k1, ?_, fun q => ?_⟩
    · simp only [List.cons_append, goF, hd, if_true]
      exact k2
    · rw [k3, get_without]
      simp only [List.map_cons, List.mem_cons]
      by_cases e1 : q ∈ ws1.map (·.1)
      · simp [e1]
      · by_cases e2 : q = w.1
        · simp [e2]
        · simp [e1, e2]
theorem lead_put {y : List Row} (hy : TabOk y) : ∀ {ws : List Wr} {r : List Row}, TabOk r → (∀ w ∈ ws, w.2.2 = false ∧ validW w.1 w.2.1 w.2.2 = true) → (∀ w ∈ ws, getF y w.1 = (w.2.1, true)) →
    (∀ q, getF r q = getF y q ∨ ∃ w ∈ ws, w.1 = q) → (∀ q, (getF r q).2 = true → (getF y q).2 = true) → goF r ws = (y, 0)
  | [], r, h, _, _, hB, _ => by
    have : r = y := sorted_ext h.sorted hy.sorted (fun q => (hB q).resolve_right (by simp))
    subst this
    rfl
  | w :: ws, r, h, hw, hA, hB, hC => by
    have h1 := hw w (by simp)
    have hr := validW_row h1.2
    have hwt := with_ok h hr
    have hC' : ∀ q, (getF (withF r (w.1, w.2.1)) q).2 = true → (getF y q).2 = true := by
      intro q hq
      rw [get_with] at hq
      by_cases e : q = w.1
      · subst e; rw [hA w (by simp)]
      · rw [if_neg e] at hq; exact hC q hq
    have hl := sub_len hwt.2.1 hC'
    have hyl := hy.len
    have hd : doF r w = (withF r (w.1, w.2.1), 0) := by
      have : putF r w.1 w.2.1 = (withF r (w.1, w.2.1), 0) := put_ok (validT_iff.2 h) hr (by omega)
      have hv := h1.2
      rw [h1.1] at hv
      simp [doF, h1.1, hv, this]
    have ht := do_tab (w := w) h (by rw [hd])
    rw [hd] at ht
    simp only [goF, hd, if_true]
    refine lead_put hy ht (fun x hx => hw x (by simp [hx])) (fun x hx => hA x (by simp [hx])) (fun q => ?_) hC'
    simp only [get_with]
    by_cases e : q = w.1
    · subst e; rw [if_pos rfl]; exact .inl (hA w (by simp)).symm
    · rw [if_neg e]
      rcases hB q with hB | ⟨x, hx, ex⟩
      · exact .inl hB
      · rcases List.mem_cons.1 hx with rfl | hx
        · exact absurd ex.symm e
        · exact .inr ⟨x, hx, ex⟩
theorem apply_diff {x y : List Row} (hx : TabOk x) (hy : TabOk y) : applyF x (diffF x y) = (y, 0) := by
  have vx := validT_iff.2 hx
  have vy := validT_iff.2 hy
  rw [applyF, if_pos vx, diff_valid vx vy]
  have rowV : ∀ {rows : List Row}, TabOk rows → ∀ r ∈ rows, ((r.1.length : Int) ≤ 64) ∧ ((r.2.length : Int) ≤ 64) := by
    intro rows h r hr
    have := h.ok r hr
    simpa [rowOk] using this
  obtain ⟨r, h1, h2, h3⟩ := lead_del (ws1 := collect (goneP y) goneW x) (ws2 := collect (newP' x) newW y) hx (by
    intro w hw
    simp only [collect, List.mem_map, List.mem_filter] at hw
    obtain ⟨s, ⟨hs, _⟩, rfl⟩ := hw
    have := rowV hx s hs
    exact ⟨rfl, by simp [validW, goneW, this.1]⟩)
  have hgone : ∀ q, q ∈ (collect (goneP y) goneW x).map (·.1) ↔ (getF x q).2 = true ∧ (getF y q).2 = false := by
    intro q
    simp only [collect, List.map_map, List.mem_map, List.mem_filter, goneP, Bool.not_eq_true', Function.comp, goneW]
    constructor
    · rintro ⟨s, ⟨hs, hg⟩, rfl⟩
      exact ⟨get_key hs, hg⟩
    · rintro ⟨h1, h2⟩
      obtain ⟨s, hs, e, _⟩ := get_true h1
      subst e
      exact ⟨s, ⟨hs, h2⟩, rfl⟩
  rw [h2]
  refine lead_put hy h1 ?_ ?_ ?_ ?_
  · intro w hw
    simp only [collect, List.mem_map, List.mem_filter] at hw
    obtain ⟨s, ⟨hs, _⟩, rfl⟩ := hw
    have := rowV hy s hs
    exact ⟨rfl, by simp [validW, newW, this.1, this.2]⟩
  · intro w hw
    simp only [collect, List.mem_map, List.mem_filter] at hw
    obtain ⟨s, ⟨hs, _⟩, rfl⟩ := hw
    exact get_memT hy.sorted hs
  · intro q
    rw [h3]
    cases hyq : (getF y q).2 with
    | false =>
      left
      rw [get_false hyq]
      split
      · rfl
      · rename_i hn
        rw [hgone] at hn
        cases hxq : (getF x q).2 with
        | false => exact get_false hxq
        | true => exact absurd ⟨hxq, hyq⟩ hn
    | true =>
      obtain ⟨s, hs, e, hv⟩ := get_true hyq
      have hn : ¬ q ∈ (collect (goneP y) goneW x).map (·.1) := by
        rw [hgone, hyq]; simp
      rw [if_neg hn]
      by_cases hp : newP' x s = true
      · exact .inr ⟨newW s, by simp only [collect, List.mem_map, List.mem_filter]; exact ⟨s, ⟨hs, hp⟩, rfl⟩, e⟩
      · left
        simp only [newP', Bool.or_eq_true, Bool.not_eq_true', not_or, Bool.not_eq_false, beq_iff_eq] at hp
        rw [hv, ← e]
        exact Prod.ext hp.2 hp.1
  · intro q hq
    rw [h3] at hq
    split at hq
    · cases hq
    · rename_i hn
      rw [hgone] at hn
      cases hyq : (getF y q).2 with
      | true => rfl
      | false => exact absurd ⟨hq, hyq⟩ hn
theorem diff_self {x : List Row} (h : TabOk x) : diffF x x = [] := by
  have v := validT_iff.2 h
  rw [diff_valid v v]
  have h1 : collect (goneP x) goneW x = [] := by
    rw [collect, List.map_eq_nil_iff, List.filter_eq_nil_iff]
    intro r hr
    simp [goneP, get_key hr]
  have h2 : collect (newP' x) newW x = [] := by
    rw [collect, List.map_eq_nil_iff, List.filter_eq_nil_iff]
    intro r hr
    simp [newP', get_memT h.sorted hr]
  rw [h1, h2]; rfl

def dg (d : Nat) : UInt8 := UInt8.ofNat (48 + d)
theorem dg_lt {d e : Nat} (hd : d < 10) (he : e < 10) : dg d < dg e ↔ d < e := by
  unfold dg
  rw [UInt8.lt_iff_toNat_lt, UInt8.toNat_ofNat', UInt8.toNat_ofNat']
  omega
theorem dg_eq {d e : Nat} (hd : d < 10) (he : e < 10) : dg d = dg e ↔ d = e := by
  constructor
  · intro h
    have := congrArg UInt8.toNat h
    unfold dg at this
    rw [UInt8.toNat_ofNat', UInt8.toNat_ofNat'] at this
    omega
  · rintro rfl; rfl
def mkRow (i : Nat) : Row := ([dg (i / 1000 % 10), dg (i / 100 % 10), dg (i / 10 % 10), dg (i % 10)], [])
def manyF (n : Nat) : List Row := (List.range n).map mkRow
theorem many_succ {i : Nat} : manyF (i + 1) = manyF i ++ [mkRow i] := by simp [manyF, List.range_succ]
theorem many_len {n : Nat} : (manyF n).length = n := by simp [manyF]
theorem mk_less {i j : Nat} (h : i < j) (hj : j < 10000) : Op.bytesLess (mkRow i).1 (mkRow j).1 = true := by
  have m : ∀ n, n % 10 < 10 := fun n => Nat.mod_lt _ (by decide)
  simp only [mkRow, Op.bytesLess, Bool.or_eq_true, Bool.and_eq_true, decide_eq_true_eq, beq_iff_eq, dg_lt (m _) (m _), dg_eq (m _) (m _), Bool.false_eq_true, and_false, or_false]
  have key : ∀ a b c d a' b' c' d' : Nat, b < 10 → c < 10 → d < 10 → b' < 10 → c' < 10 → d' < 10 → 1000 * a + 100 * b + 10 * c + d < 1000 * a' + 100 * b' + 10 * c' + d' →
      a < a' ∨ a = a' ∧ (b < b' ∨ b = b' ∧ (c < c' ∨ c = c' ∧ d < d')) := by
    intro a b c d a' b' c' d' _ _ _ _ _ _ _
    omega
  exact key _ _ _ _ _ _ _ _ (m _) (m _) (m _) (m _) (m _) (m _) (by omega)
theorem many_sorted {n : Nat} (h : n ≤ 10000) : Sorted (manyF n) := by
  rw [Sorted, manyF, List.pairwise_map]
  exact (List.pairwise_lt_range (n := n)).imp_of_mem (fun ha hb hab => mk_less hab (by have := List.mem_range.1 hb; omega))
theorem many_ok {n : Nat} : ∀ r ∈ manyF n, rowOk r = true := by
  intro r hr
  simp only [manyF, List.mem_map] at hr
  obtain ⟨i, _, rfl⟩ := hr
  simp [rowOk, mkRow]
theorem many_drop {n k : Nat} (h : n ≤ 10000) (hl : n - k ≤ 1024) : TabOk ((manyF n).drop k) :=
  ⟨by rw [List.length_drop, many_len]; exact hl, fun r hr => many_ok r (List.mem_of_mem_drop hr), (many_sorted h).sub (List.drop_sublist _ _)⟩
theorem digit_of {d : Nat} (hd : d < 10) : IntKind.u8.wrap (IntKind.i64.wrap (48 + (d : Int))) = ((48 + d : Nat) : Int) := by
  rw [wrap_of (by omega) (by omega), wrapu8_of (by omega) (by omega)]
  omega
theorem digit_mod {d : Nat} (hd : d < 10000) : IntKind.u8.wrap (IntKind.i64.wrap (48 + ((d : Int)).tmod 10)) = ((48 + d % 10 : Nat) : Int) := by
  rw [Int.tmod_eq_emod_of_nonneg (by omega), show (d : Int) % 10 = ((d % 10 : Nat) : Int) by omega]
  exact digit_of (Nat.mod_lt _ (by decide))
theorem digit_eq {i q : Nat} (hi : i < 10000) : IntKind.u8.wrap (IntKind.i64.wrap (48 + (IntKind.i64.wrap ((i : Int).tdiv (q : Int))).tmod 10)) = ((48 + i / q % 10 : Nat) : Int) := by
  have h2 : i / q ≤ i := Nat.div_le_self _ _
  have h1 : (i : Int).tdiv (q : Int) = ((i / q : Nat) : Int) := by rw [Int.tdiv_eq_ediv_of_nonneg (by omega)]; rfl
  have key : ∀ d : Nat, d ≤ i → IntKind.u8.wrap (IntKind.i64.wrap (48 + (IntKind.i64.wrap (d : Int)).tmod 10)) = ((48 + d % 10 : Nat) : Int) := fun d hd => by
    rw [wrap_of (n := (d : Int)) (by omega) (by omega)]
    exact digit_mod (by omega)
  rw [h1]
  exact key _ h2
theorem many_spec (n : Nat) : n ≤ 2000 → Sx.Spec Tryd.prog GG 49 [.d (.int .i64 n)] [] (.d (encL encRow 2 (manyF n))) [] := by
  intro hn
  refine spec_intro (E := EE) (fn := Tryd.f49) eok (by kernel_rfl) (by kernel_rfl) Tryd.call49 (by kernel_rfl) (by kernel_rfl) ?_
  conv => whnf
  repeat' first
    | (refine bc_true (by assumption) ?_; (conv => whnf))
    | (refine bc_false (by assumption) ?_; (conv => whnf))
    | (refine bc_intro (fun _ => ?_) (fun _ => ?_) <;> (conv => whnf))
    | (refine need_intro ?_ ?_; (conv => whnf))
    | (refine wk_refl ?_; (conv => whnf))
    | (refine draw_intro (by kernel_rfl) ?_; (conv => whnf))
    | (refine ord_intro (by kernel_rfl) ?_; (conv => whnf))
  refine loop_auto [0] [] (fun i : Nat => [(3, .osl 500 2 0 i), (4, .d (.int .i64 i))]) (fun i => [(500, .row 52 2 i (cellOf encRow (manyF i)))]) (fun i => i ≤ n) (fun i => n - i) 0 ?_ (fun i hi => ?_) (Nat.zero_le _)
  · conv => whnf
    repeat' first
      | (refine bc_true (by assumption) ?_; (conv => whnf))
      | (refine bc_false (by assumption) ?_; (conv => whnf))
      | (refine bc_intro (fun _ => ?_) (fun _ => ?_) <;> (conv => whnf))
      | (refine need_intro ?_ ?_; (conv => whnf))
      | (refine wk_refl ?_; (conv => whnf))
      | (refine draw_intro (by kernel_rfl) ?_; (conv => whnf))
      | (refine ord_intro (by kernel_rfl) ?_; (conv => whnf))
    all_goals first | exact ⟨rfl, rfl⟩ | exact ⟨rfl, rfl, rfl⟩ | exact DLe.refl _ | exact RowLe.refl _ _ _ | exact trivial
  · have hs : IntKind.i64.wrap ((i : Int) + 1) = ((i + 1 : Nat) : Int) := wrap_succ (n := 2001) (by omega) (by omega)
    have e1 : i < n → IntKind.u8.wrap (IntKind.i64.wrap (48 + (IntKind.i64.wrap ((i : Int).tdiv 1000)).tmod 10)) = ((48 + i / 1000 % 10 : Nat) : Int) := fun h => digit_eq (q := 1000) (by omega)
    have e2 : i < n → IntKind.u8.wrap (IntKind.i64.wrap (48 + (IntKind.i64.wrap ((i : Int).tdiv 100)).tmod 10)) = ((48 + i / 100 % 10 : Nat) : Int) := fun h => digit_eq (q := 100) (by omega)
    have e3 : i < n → IntKind.u8.wrap (IntKind.i64.wrap (48 + (IntKind.i64.wrap ((i : Int).tdiv 10)).tmod 10)) = ((48 + i / 10 % 10 : Nat) : Int) := fun h => digit_eq (q := 10) (by omega)
    have e4 : i < n → IntKind.u8.wrap (IntKind.i64.wrap (48 + ((i : Int)).tmod 10)) = ((48 + i % 10 : Nat) : Int) := fun h => digit_mod (by omega)
    conv => whnf
    repeat' first
      | (refine NextVC.mk (i + 1) ?_ ?_ ?_; (conv => whnf))
      | (refine bc_true (by assumption) ?_; (conv => whnf))
      | (refine bc_false (by assumption) ?_; (conv => whnf))
      | (refine bc_intro (fun _ => ?_) (fun _ => ?_) <;> (conv => whnf))
      | (refine need_intro ?_ ?_; (conv => whnf))
      | (refine wk_refl ?_; (conv => whnf))
      | (refine draw_intro (by kernel_rfl) ?_; (conv => whnf))
      | (refine ord_intro (by kernel_rfl) ?_; (conv => whnf))
    all_goals try simp only [decide_eq_true_eq, decide_eq_false_iff_not, cellsRow, bytesRow, true_and] at *
    all_goals first
      | exact trivial
      | omega
      | exact DLe.refl _
      | exact DLe.of_eq (by rw [hs])
      | exact ⟨by omega, by omega⟩
      | exact rfl
      | (rw [many_succ]
         refine row_snoc many_len.symm (RowLe.refl _ _ _) (jlt2 (DLe.of_eq ?_) (DLe.of_eq rfl))
         show D.str [UInt8.ofNat (_ : Int).toNat, UInt8.ofNat (_ : Int).toNat, UInt8.ofNat (_ : Int).toNat, UInt8.ofNat (_ : Int).toNat] = D.str [dg _, dg _, dg _, dg _]
         rw [e1 (by omega), e2 (by omega), e3 (by omega), e4 (by omega)]
         rfl)
      | exact ⟨les_row (by rw [many_len]; omega) (by rw [show i = n by omega]; exact RowLe.refl _ _ _), trivial⟩
      | trace_state

theorem diff_at (x y : List Row) {n : Nat} {g : Nat → Nat → D} : ((n = x.length ∧ RowLe n 2 g (cellOf encRow x)) ∧ x.length ≤ 500000000000 ∧ y.length ≤ 500000000000) → Sx.Spec Tryd.prog GG 44 [.d (.list n 2 g), .d (encL encRow 2 y)] [] (.d (encL encWr 3 (diffF x y))) [] := by
  rintro ⟨⟨rfl, hg⟩, h⟩
  exact (diffp_spec x y h).arg (LeL.cons (LeS.d (DLe.rows rfl hg)) (LeL.cons (LeS.refl _) LeL.nil))
theorem apply_at (x y : List Row) {n : Nat} {g : Nat → Nat → D} : ((n = x.length ∧ RowLe n 2 g (cellOf encRow x)) ∧ TabOk x ∧ TabOk y) → Sx.Spec Tryd.prog GG 45 [.d (.list n 2 g), .d (encL encWr 3 (diffF x y))] [] (.tup [.d (encL encRow 2 y), .d (.int .i64 0)]) [] := by
  rintro ⟨⟨rfl, hg⟩, hx, hy⟩
  have h1 := hx.len
  have h2 := hy.len
  have h3 := diff_len (a := x) (b := y)
  have := (applyp_spec x (diffF x y) (by omega)).arg (LeL.cons (LeS.d (DLe.rows rfl hg)) (LeL.cons (LeS.refl _) LeL.nil))
  rw [apply_diff hx hy] at this
  exact this
theorem many_at (n : Int) : (0 ≤ n ∧ n ≤ 2000) → Sx.Spec Tryd.prog GG 49 [.d (.int .i64 n)] [] (.d (encL encRow 2 (manyF n.toNat))) [] := by
  intro h
  have := many_spec n.toNat (by omega)
  rw [Int.toNat_of_nonneg h.1] at this
  exact this
theorem same_eq {a : List Row} : sameF a a = true := same_refl a
set_option maxHeartbeats 2000000 in
theorem tableLeads_law (l : List Int) (n m : Int) (hl : ∀ x ∈ l, -9223372036854775808 ≤ x ∧ x < 9223372036854775808) (hn : -9223372036854775808 ≤ n ∧ n < 9223372036854775808) (hm : -9223372036854775808 ≤ m ∧ m < 9223372036854775808) : Sx.Spec Tryd.prog GG 9 [.d (encL encI 1 l), .d (.int .i64 n), .d (.int .i64 m)] [] (.d (.bool true)) [] := by
  refine spec_intro (E := EE) (fn := Tryd.f9) eok (by kernel_rfl) (by kernel_rfl) Tryd.call9 (by kernel_rfl) (by kernel_rfl) ?_
  conv => whnf
  repeat' first
    | (refine call_some (new_ex 2000 hl) (fun _ => by first | exact .inl rfl | exact .inr ⟨rfl, rfl⟩) ?_; rintro ⟨tl, ta⟩ hT; (conv => whnf))
    | (refine call_some_if (rows_ex _) (fun _ => by first | exact .inl rfl | exact .inr ⟨rfl, rfl⟩) (need_intro ?_ ?_); rintro ⟨x, b⟩ ⟨⟨h1, h2⟩, h3⟩; (conv => whnf))
    | (refine bc_true (by assumption) ?_; (conv => whnf))
    | (refine bc_false (by assumption) ?_; (conv => whnf))
    | (refine need_intro ?_ ?_; (conv => whnf))
    | (refine wk_refl ?_; (conv => whnf))
    | (refine draw_intro (by kernel_rfl) ?_; (conv => whnf))
    | (refine ord_intro (by kernel_rfl) ?_; (conv => whnf))
  all_goals try first
    | assumption
    | exact ⟨by assumption, by omega, by omega⟩
  rename_i x1 b1 _ g1 g2
  have g1 : TabOk x1 := g1
  have h1 : TabOk x := h1
  have gl := g1.len
  have hl1 := h1.len
  have s1 := diff_self g1
  conv => whnf
  repeat' first
    | (refine call_if (diffp_spec x1 x) (by first | exact .inl rfl | exact .inr ⟨rfl, rfl⟩) (need_intro ?_ ?_); (conv => whnf))
    | (refine call_if (apply_at x1 x) (by first | exact .inl rfl | exact .inr ⟨rfl, rfl⟩) (need_intro ?_ ?_); (conv => whnf))
    | (refine call_if (sameR_spec _ _) (by first | exact .inl rfl | exact .inr ⟨rfl, rfl⟩) (need_intro ?_ ?_); (conv => whnf))
    | (refine call_if (diffp_spec x1 x1) (by first | exact .inl rfl | exact .inr ⟨rfl, rfl⟩) (need_intro ?_ ?_); (conv => whnf))
    | (refine bc_true (by assumption) ?_; (conv => whnf))
    | (refine bc_false (by assumption) ?_; (conv => whnf))
    | (refine bc_intro (fun _ => ?_) (fun _ => ?_) <;> (conv => whnf))
    | (refine need_intro ?_ ?_; (conv => whnf))
    | (refine wk_refl ?_; (conv => whnf))
    | (refine draw_intro (by kernel_rfl) ?_; (conv => whnf))
    | (refine ord_intro (by kernel_rfl) ?_; (conv => whnf))
  all_goals try first
    | exact ⟨⟨rfl, RowLe.refl _ _ _⟩, g1, h1⟩
    | exact ⟨by omega, by omega⟩
    | (exfalso; simp only [same_refl, s1] at *; simp at *; done)
  have hmm := Int.emod_nonneg m (show (40 : Int) ≠ 0 by decide)
  have hmu := Int.emod_lt_of_pos m (show (0 : Int) < 40 by decide)
  have hnn := Int.emod_nonneg n (show (3 : Int) ≠ 0 by decide)
  have hnu := Int.emod_lt_of_pos n (show (0 : Int) < 3 by decide)
  have w1 : IntKind.i64.wrap (1024 + m % 40) = 1024 + m % 40 := wrap_of (by omega) (by omega)
  have w2 : IntKind.i64.wrap (1024 - n % 3) = 1024 - n % 3 := wrap_of (by omega) (by omega)
  have hU : TabOk ((manyF (IntKind.i64.wrap (1024 + m % 40)).toNat).drop (m % 40).toNat) := many_drop (by rw [w1]; omega) (by rw [w1]; omega)
  have hV : TabOk (manyF (IntKind.i64.wrap (1024 - n % 3)).toNat) := by
    have := many_drop (n := (IntKind.i64.wrap (1024 - n % 3)).toNat) (k := 0) (by rw [w2]; omega) (by rw [w2]; omega)
    simpa using this
  have hUl := hU.len
  have hVl := hV.len
  generalize hUe : (manyF (IntKind.i64.wrap (1024 + m % 40)).toNat).drop (m % 40).toNat = U at *
  conv => whnf
  repeat' first
    | (refine call_if (mod_spec _ _) (by first | exact .inl rfl | exact .inr ⟨rfl, rfl⟩) (need_intro ?_ ?_); (conv => whnf))
    | (refine call_if (many_at _) (by first | exact .inl rfl | exact .inr ⟨rfl, rfl⟩) (need_intro ?_ ?_); (conv => whnf))
    | (refine bc_true (by assumption) ?_; (conv => whnf))
    | (refine bc_false (by assumption) ?_; (conv => whnf))
    | (refine need_intro ?_ ?_; (conv => whnf))
    | (refine wk_refl ?_; (conv => whnf))
    | (refine draw_intro (by kernel_rfl) ?_; (conv => whnf))
    | (refine ord_intro (by kernel_rfl) ?_; (conv => whnf))
  all_goals try first
    | omega
    | exact ⟨by omega, by omega⟩
    | exact ⟨⟨by omega, by omega⟩, by omega, by omega⟩
    | (rw [w1]; exact ⟨by omega, by omega⟩)
    | (rw [w2]; exact ⟨by omega, by omega⟩)
    | (simp only [many_len, w1, Option.getD_some, Option.getD_none]; omega)
  generalize hVe : manyF (IntKind.i64.wrap (1024 - n % 3)).toNat = V at *
  conv => whnf
  repeat' first
    | (refine call_if (diff_at U V) (by first | exact .inl rfl | exact .inr ⟨rfl, rfl⟩) (need_intro ?_ ?_); (conv => whnf))
    | (refine call_if (apply_at U V) (by first | exact .inl rfl | exact .inr ⟨rfl, rfl⟩) (need_intro ?_ ?_); (conv => whnf))
    | (refine call_if (sameR_spec _ _) (by first | exact .inl rfl | exact .inr ⟨rfl, rfl⟩) (need_intro ?_ ?_); (conv => whnf))
    | (refine call_intro (awake_spec) ?_ (by first | exact .inl rfl | exact .inr ⟨rfl, rfl⟩); (conv => whnf))
    | (refine bc_true (by assumption) ?_; (conv => whnf))
    | (refine bc_false (by assumption) ?_; (conv => whnf))
    | (refine bc_intro (fun _ => ?_) (fun _ => ?_) <;> (conv => whnf))
    | (refine need_intro ?_ ?_; (conv => whnf))
    | (refine wk_refl ?_; (conv => whnf))
    | (refine draw_intro (by kernel_rfl) ?_; (conv => whnf))
    | (refine ord_intro (by kernel_rfl) ?_; (conv => whnf))
  all_goals first
    | exact ⟨LeS.refl _, trivial⟩
    | exact ⟨by omega, by omega⟩
    | (exfalso; simp only [same_refl] at *; simp at *; done)
    | (refine ⟨⟨?_, ?_⟩, ?_⟩
       · rw [← hUe]
         simp only [List.length_drop, many_len, Option.getD_some, Option.getD_none]
         omega
       · rw [← hUe]; exact row_drop
       · first | exact ⟨hU, hV⟩ | exact ⟨by omega, by omega⟩)
    | trace_state
theorem tableLeads_all (dss : List (List D)) (h : All2 (wfT Tryd.prog reachBytes 12) [22, 3, 3] dss) : Sx.Spec Tryd.prog GG 9 (svs Tryd.prog [22, 3, 3] dss) [] (.d (.bool true)) [] := by
  obtain ⟨x, y, z, rfl, hx, hy, hz⟩ := inv3 h
  obtain ⟨l, h1, h2, h3⟩ := ints_arg hx
  obtain ⟨_, _, rfl, _⟩ := hx
  obtain ⟨n, rfl, hn⟩ := hy
  obtain ⟨m, rfl, hm⟩ := hz
  exact (tableLeads_law l n m h1 (wf_i64 hn) (wf_i64 hm)).arg (leL_app h2 (LeL.refl _))
theorem tableLeads_lifted (os : Os) (started : os.Started) (H : Type) (enc : TypeId × Value → H) :
    ReturnsInHanded {} Tryd.checked os 9 .any (fun w args => (Rows.tableLeadsSpec.pre enc Tryd.prog Tryd.f9 [] false w args ∧ laidMetH Tryd.prog laidL w) ∧ sizedMet enc Tryd.prog Tryd.f9 (OpenSpec.ofChange Rows.tableLeadsSpec) false w args)
      (Rows.tableLeadsSpec.post enc Tryd.prog Tryd.f9 false true false false) := by
  refine returnsInHanded_of_change_and (C := Tryd.checked) (X := fun w _ => laidMetH Tryd.prog laidL w) (fun _ _ _ hh h => h.of_heap hh) own started (by kernel_rfl) Tryd.func9
    (ChangeSpec.witness_shaped (enc := enc) (C := Tryd.checked) (os := os) (X := fun w _ => laidMetH Tryd.prog laidL w) false (World.doorLaid Tryd.prog 400 os) #[.slice none 0 0, .int .i64 0, .int .i64 0] 8 rfl (World.shaped_of_RefB (by kernel_rfl) (by kernel_rfl)) (by kernel_rfl) (by kernel_rfl) (by kernel_rfl) (door_met os _)) ?_
  intro W base args ds gs before hval hW hcnd hsz hL _
  refine law_contract (P := Tryd.prog) (ts := [22, 3, 3]) (bt := 4) (G := GG) laidOut (by rw [Tryd.params9]) (by kernel_rfl) Tryd.underlying4 (by kernel_rfl) rfl ?_ tableLeads_all hval hW hsz (gok hL)
  intro ds h
  match ds, h with
  | [_, _, _], _ => rfl
theorem tableLeads_over : Rows.tableLeadsRow.holds Tryd.pinned (OpenSpec.ofChange Rows.tableLeadsSpec) :=
  OpenClaim.holds_of_wide 9 Tryd.f9 rfl rfl rfl rfl rfl rfl rfl ⟨rfl, rfl, rfl, rfl, rfl⟩ rfl rfl rfl rfl rfl (by kernel_rfl) Tryd.func9 (by kernel_rfl)
    (of_decide_eq_true (by kernel_rfl)) (by unfold Func.isWrapper; first | (rw [if_pos (by decide +kernel)]; kernel_rfl) | (rw [if_neg (by decide +kernel)]; exact ⟨rfl, rfl⟩))
    (fun os started H enc _ => tableLeads_lifted os started H enc)
theorem tableLeads_plain : ∀ t ∈ [22, 3, 3], Tryd.prog.wantsStandIn t = false := by
  intro t ht
  simp only [List.mem_cons, List.not_mem_nil, or_false] at ht
  rcases ht with rfl | rfl | rfl <;> kernel_rfl
theorem tableLeads_proved : Rows.TableLeadsCardSaid :=
  Claim7.holds_tied_plain_at .later [] [.data] true (true, "510fec8f624df2fc206200128f363aab01a2d4b69791c4a506e6d0fecdf9ce0e") false
    tableLeads_over (fun _ h => by cases h) (by kernel_rfl) (fun _ h => by cases h) tableLeads_row_tie rfl ⟨rfl, rfl⟩ (by kernel_rfl) rfl
    (fun f fn hf hfn => by
      obtain rfl : f = 9 := Option.some.inj ((show Tryd.prog.funcNamed Rows.tableLeadsRow.func = some 9 by kernel_rfl).symm.trans hf) |>.symm
      obtain rfl : fn = Tryd.f9 := (Option.some.inj (Tryd.func9.symm.trans hfn)).symm
      exact ⟨by kernel_rfl, fun j t ht => tableLeads_plain t (by
        rw [Tryd.params9] at ht
        exact List.mem_of_getElem? (by simpa using ht))⟩)
    (by kernel_rfl)
#print axioms tableLeads_proved

